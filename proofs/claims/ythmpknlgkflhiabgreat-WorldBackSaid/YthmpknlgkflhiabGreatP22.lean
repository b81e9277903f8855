/- As B4, but for tables with rows: the graph knows only that the tables' blocks hold their sets. -/
import Derived.Test.YthmpknlgkflhiabGreatP19
import Derived.DeepKeys4
import Derived.Deep.QuietTactic
import Derived.BigQuiet
namespace Go.Proofs.YthmpknlgkflhiabGreat
open Go.RowKit
open Go.Maps (Keyed int_keyed keyOf_int_mk)
set_option linter.unusedVariables false
theorem own : ownKnob Tryz.prog.godebug = none := by kernel_rfl
theorem laidOut : laidOutB Tryz.prog = true := by kernel_rfl
theorem Tryz.law57 : Keyed Tryz.prog 57 := int_keyed Tryz.underlying57
set_option maxRecDepth 100000 in
theorem Tryz.row212 : 212 < Tryz.prog.types.size := of_decide_eq_true (by kernel_rfl)
theorem Tryz.wide68 : (match Tryz.prog.underlying 212 with | some (.array _ _) | some (.struct _) => true | _ => false) = true := by kernel_rfl
set_option maxRecDepth 100000 in
theorem Tryz.law212 : Keyed Tryz.prog 212 := Keyed.of_law (deep_law_laid laidOut (m := 2) (by omega) Tryz.row212 (by kernel_rfl) Tryz.wide68)
theorem Tryz.zero3 (w : World) : (zeroValue 3).run Tryz.prog w = .ok (.int .i64 0) w := by kernel_rfl
def I64 (n : Int) : Prop := -9223372036854775808 ≤ n ∧ n ≤ 9223372036854775807
theorem wf_i64 {n : Int} (h : I64 n) : (Lit.int .i64 n).wf = true := WalkArith.wf_i64 h
set_option maxRecDepth 100000 in
theorem wf_u32 {n : Int} (h0 : 0 ≤ n) (h1 : n ≤ 4294967295) : (Lit.int .u32 n).wf = true := by
  simp [Lit.wf, IntKind.min, IntKind.max, IntKind.signed, IntKind.bits]; omega
theorem Tryz.tsz : ∃ m, Tryz.prog.types.size + 1 = m + 2 := ⟨_, rfl⟩
theorem Tryz.kt212 : Tryz.prog.keyType 212 = true := by kernel_rfl
theorem Tryz.co212 : Tryz.prog.cellsOf 212 = 3 := by kernel_rfl
theorem Tryz.co3 : Tryz.prog.cellsOf 3 = 1 := by kernel_rfl
theorem Tryz.co4 : Tryz.prog.cellsOf 4 = 1 := by kernel_rfl
theorem way_key (i c : Int) (b : Bool) (hi : I64 i) (hc : I64 c) : keyOf Tryz.prog 212 (.agg #[.int .i64 i, .int .i64 c, .bool b]) = some (.string (keyBytes [.int .i64 i, .int .i64 c, .bool b])) := by
  obtain ⟨m, hm⟩ := Tryz.tsz
  have e : Tryz.prog.keyLits (m + 2) 212 [.int .i64 i, .int .i64 c, .bool b] = some [.int .i64 i, .int .i64 c, .bool b] := by
    simp [Program.keyLits, Tryz.underlying212, Tryz.underlying3, Tryz.underlying4, Tryz.co212, Tryz.co3, Tryz.co4, wf_i64 hi, wf_i64 hc]
  unfold keyOf
  rw [Tryz.underlying212]
  simp only [Tryz.kt212, hm, Value.cells, e]
  simp [Value.formed, Tryz.underlying212, Tryz.co212]
def wayK (x : Int × Int × Bool) : Lit := .string (keyBytes [.int .i64 x.1, .int .i64 x.2.1, .bool x.2.2])
def WayWf (x : Int × Int × Bool) : Prop := I64 x.1 ∧ I64 x.2.1
theorem wayK_inj {x y : Int × Int × Bool} (hx : WayWf x) (hy : WayWf y) (h : wayK x = wayK y) : x = y := by
  have h1 := way_key x.1 x.2.1 x.2.2 hx.1 hx.2
  have h2 := way_key y.1 y.2.1 y.2.2 hy.1 hy.2
  rw [show Lit.string (keyBytes [.int .i64 y.1, .int .i64 y.2.1, .bool y.2.2]) = Lit.string (keyBytes [.int .i64 x.1, .int .i64 x.2.1, .bool x.2.2]) from h.symm] at h2
  have := Tryz.law212.inj h1 h2
  obtain ⟨a, b, c⟩ := x
  obtain ⟨a', b', c'⟩ := y
  simp at this
  simp [this]
/-- The first place of a set. -/
def posOf (s : Int) : List Int → Option Nat
  | [] => none
  | x :: r => if x = s then some 0 else (posOf s r).map (· + 1)
theorem posOf_get {s : Int} : ∀ {l : List Int} {i : Nat}, posOf s l = some i → l[i]? = some s
  | [], _, h => by cases h
  | x :: r, i, h => by
    unfold posOf at h
    split at h
    · rename_i hx
      cases h; simp [hx]
    · cases hp : posOf s r with
      | none => rw [hp] at h; cases h
      | some j =>
        rw [hp] at h; cases h
        simpa using posOf_get hp
theorem posOf_snoc (s x : Int) : ∀ l : List Int, posOf x (l ++ [s]) = match posOf x l with | some i => some i | none => if s = x then some l.length else none
  | [] => by simp [posOf]
  | y :: r => by
    simp only [List.cons_append, posOf]
    split
    · rfl
    · rw [posOf_snoc s x r]
      cases posOf x r with
      | some i => rfl
      | none =>
        simp only [Option.map_none]
        split <;> simp
theorem posOf_none {s : Int} : ∀ {l : List Int}, posOf s l = none → s ∉ l
  | [], _ => by simp
  | x :: r, h => by
    unfold posOf at h
    split at h
    · cases h
    · rename_i hx
      have hr : posOf s r = none := by cases hp : posOf s r <;> simp_all
      have := posOf_none hr
      simp [this]
      exact fun e => hx e.symm
/-- What a graph holds. -/
structure GS where
  ver : Int
  archs : Int
  rows : Int
  cs : List Cmp
  ts : List (Nat × Int)
  ways : Int × Int × Bool → Option Nat
  nw : Nat
def GS.sigs (g : GS) : List Int := g.ts.map (·.2)
def litN (o : Option Nat) : Option Lit := o.map fun i => .int .i64 i
/-- A table's block holds its set. -/
def SigAt (w : World) (tb : Nat) (set : Int) : Prop := ∃ cs : Array Value, w.heap[tb]? = some (.cells cs 143 (0, 0)) ∧ cs[2]? = some (.int .u32 set)
/-- A graph, in block gb; its schema lies below B1, all that is written from B1 on. -/
structure GraphAt (B1 gb : Nat) (g : GS) (w : World) (mb wb : Nat) (ca : Option Addr) (cl cc : Nat) (ta : Option Addr) (tc : Nat) (bs ws : Lit → Option Lit) : Prop where
  bg : B1 ≤ gb
  bm : B1 ≤ mb
  bw : B1 ≤ wb
  ne : mb ≠ wb
  blk : w.heap[gb]? = some (.cells #[.int .i64 g.ver, .slice ca cl cc, .int .i64 g.archs, .int .i64 g.rows, .slice ta g.ts.length tc, .map (some mb), .map (some wb)] 138 (0, 0))
  comps : CompsAt w.heap.size w ca cl g.cs
  cty : CompsTy w ca cl g.cs
  row : w.ownsRow B1 89 1 (.slice ta g.ts.length tc) g.ts.length (g.ts.map fun t => .pointer (some ⟨t.1, 0, none⟩))
  bySet : MapIs Tryz.prog w 57 3 mb g.ts.length bs
  byWay : MapIs Tryz.prog w 212 3 wb g.nw ws
  tab : ∀ t ∈ g.ts, SigAt w t.1 t.2 ∧ 0 ≤ t.2 ∧ t.2 ≤ 4294967295
  hbs : ∀ s : Int, bs (.int .u32 s) = litN (posOf s g.sigs)
  hws : ∀ x, WayWf x → ws (wayK x) = litN (g.ways x)
  wf : CompsWf g.cs ∧ (∀ c ∈ g.cs, c.fields.length ≤ 100000) ∧ 1 ≤ g.archs ∧ g.archs ≤ 64 ∧ (g.ts.length : Int) ≤ g.archs ∧ B1 ≤ w.heap.size ∧ g.nw ≤ 1000000
  wok : ∀ x n, g.ways x = some n → n < g.ts.length
  tlo : ∀ t ∈ g.ts, B1 ≤ t.1
  cn : (ca = none → cl = 0 ∧ cc = 0) ∧ cl ≤ 100000
def Graph (B1 gb : Nat) (g : GS) (mb wb : Nat) (ta : Option Addr) (tc : Nat) (w : World) : Prop := ∃ ca cl cc bs ws, GraphAt B1 gb g w mb wb ca cl cc ta tc bs ws
theorem ownsRow_hk {w w' : World} (hk : ∀ (b : Nat) (c : Array Value) (e : TypeId) (fz : Nat × Nat), w.heap[b]? = some (.cells c e fz) → e ≠ 138 → e ≠ 89 → w'.heap[b]? = some (.cells c e fz)) {b : Nat} {e : TypeId} {s : Nat} {v : Value} {n : Nat} {xs : List Value} (ho : w.ownsRow b e s v n xs) (h1 : e ≠ 138) (h2 : e ≠ 89) : w'.ownsRow b e s v n xs := by
  obtain ⟨hl, ho⟩ := ho
  refine ⟨hl, ?_⟩
  rcases ho with ho | ⟨g, cap, cur, hv, hg, hh, r⟩
  · exact .inl ho
  · exact .inr ⟨g, cap, cur, hv, hg, hk _ _ _ _ hh h1 h2, r⟩
theorem TableHas.kept {w w' : World} {b0 tb : Nat} {ver set most : Int} {ca : Option Addr} {cc : Nat} {la : Option Addr} {lc : Nat} {cps : List CV} (h : TableHas w b0 tb ver set most ca cc la lc cps) (hk : ∀ (b : Nat) (c : Array Value) (e : TypeId) (fz : Nat × Nat), w.heap[b]? = some (.cells c e fz) → e ≠ 138 → e ≠ 89 → w'.heap[b]? = some (.cells c e fz)) : TableHas w' b0 tb ver set most ca cc la lc cps :=
  ⟨hk _ _ _ _ h.blk (by decide) (by decide), ownsRow_hk hk h.comps (by decide) (by decide), ownsRow_hk hk h.cols (by decide) (by decide),
    fun x hx => ⟨⟨ownsRow_hk hk (h.good x hx).1.row (by decide) (by decide), (h.good x hx).1.len, (h.good x hx).1.max, (h.good x hx).1.nil⟩, ⟨(h.good x hx).2.le, hk _ _ _ _ (h.good x hx).2.blk (by decide) (by decide)⟩⟩, h.nodup⟩
theorem TableNew.kept {w w' : World} {tb : Nat} {ver : Int} {cs : List Cmp} {set most : Int} (h : TableNew w tb ver cs set most) (hk : ∀ (b : Nat) (c : Array Value) (e : TypeId) (fz : Nat × Nat), w.heap[b]? = some (.cells c e fz) → e ≠ 138 → e ≠ 89 → w'.heap[b]? = some (.cells c e fz)) : TableNew w' tb ver cs set most := by
  obtain ⟨ca, cc, la, lc, cps, h, hn⟩ := h
  exact ⟨ca, cc, la, lc, cps, h.kept hk, hn⟩
theorem TableNew.drewN {w : World} {tb : Nat} {ver : Int} {cs : List Cmp} {set most : Int} (h : TableNew w tb ver cs set most) (n : Nat) : TableNew (w.drewN n) tb ver cs set most := h.kept (fun _ _ _ _ hh _ _ => hh)
theorem TableNew.sigAt {w : World} {tb : Nat} {ver : Int} {cs : List Cmp} {set most : Int} (h : TableNew w tb ver cs set most) : SigAt w tb set := by
  obtain ⟨ca, cc, la, lc, cps, h, hn⟩ := h
  exact ⟨_, h.blk, rfl⟩
theorem SigAt.kept {w w' : World} {tb : Nat} {set : Int} (h : SigAt w tb set) (hk : ∀ (b : Nat) (c : Array Value) (e : TypeId) (fz : Nat × Nat), w.heap[b]? = some (.cells c e fz) → e ≠ 138 → e ≠ 89 → w'.heap[b]? = some (.cells c e fz)) : SigAt w' tb set := by
  obtain ⟨cs, h, h2⟩ := h
  exact ⟨cs, hk _ _ _ _ h (by decide) (by decide), h2⟩
theorem SigAt.drewN {w : World} {tb : Nat} {set : Int} (h : SigAt w tb set) (n : Nat) : SigAt (w.drewN n) tb set := h
theorem GraphAt.below {B1 gb : Nat} {g : GS} {w w' : World} {mb wb : Nat} {ca : Option Addr} {cl cc : Nat} {ta : Option Addr} {tc : Nat} {bs ws : Lit → Option Lit} (h : GraphAt B1 gb g w mb wb ca cl cc ta tc bs ws) (hb : Below w.heap.size w w') : GraphAt B1 gb g w' mb wb ca cl cc ta tc bs ws :=
  { h with
    blk := keep hb h.blk
    comps := (h.comps.below hb).mono hb.size
    cty := h.cty.hk (KeepsTy.of_below hb)
    row := ownsRow_below h.row hb
    bySet := h.bySet.below hb
    byWay := h.byWay.below hb
    tab := fun t ht => ⟨(h.tab t ht).1.kept (fun b c e fz hh _ _ => keep hb hh), (h.tab t ht).2⟩
    wf := ⟨h.wf.1, h.wf.2.1, h.wf.2.2.1, h.wf.2.2.2.1, h.wf.2.2.2.2.1, Nat.le_trans h.wf.2.2.2.2.2.1 hb.size, h.wf.2.2.2.2.2.2⟩ }
theorem Graph.below {B1 gb : Nat} {g : GS} {mb wb : Nat} {ta : Option Addr} {tc : Nat} {w w' : World} (h : Graph B1 gb g mb wb ta tc w) (hb : Below w.heap.size w w') : Graph B1 gb g mb wb ta tc w' := by
  obtain ⟨ca, cl, cc, bs, ws, h⟩ := h
  exact ⟨ca, cl, cc, bs, ws, h.below hb⟩
/-- The blocks that a graph's own deeds may change. -/
def gfoot (gb mb wb : Nat) (ta : Option Addr) (b : Nat) : Prop := b = gb ∨ b = mb ∨ b = wb ∨ (Value.slice ta 0 0).ownBlock = some b
/-- A graph's own deed: what stays; what it may change from now on. -/
def GOut (gb mb wb : Nat) (ta ta' : Option Addr) (w w' : World) : Prop := Out (gfoot gb mb wb ta) w w' ∧ ∀ b, gfoot gb mb wb ta' b → gfoot gb mb wb ta b ∨ w.heap.size ≤ b
theorem GOut.trans {gb mb wb : Nat} {ta tb tc : Option Addr} {a b c : World} (h : GOut gb mb wb ta tb a b) (k : GOut gb mb wb tb tc b c) : GOut gb mb wb ta tc a c := by
  refine ⟨h.1.trans k.1 h.2, fun x hx => ?_⟩
  rcases k.2 x hx with h1 | h1
  · exact h.2 x h1
  · exact .inr (Nat.le_trans h.1.size h1)
theorem GOut.of_below {gb mb wb : Nat} {ta : Option Addr} {w w' : World} (h : Below w.heap.size w w') : GOut gb mb wb ta ta w w' := ⟨Out.of h, fun _ => .inl⟩
theorem ownBlock_slice (ta : Option Addr) (n m n' m' : Nat) : (Value.slice ta n m).ownBlock = (Value.slice ta n' m').ownBlock := by cases ta <;> rfl
theorem len_any (B1 gb : Nat) (g : GS) (w : World) {mb wb : Nat} {ta : Option Addr} {tc : Nat} (h : Graph B1 gb g mb wb ta tc w) : Calls Tryz.prog 72 #[.pointer (some ⟨gb, 0, none⟩)] w fun e w' => e = .returned (.int .i64 g.ts.length) ∧ w = w' := by
  obtain ⟨ca, cl, cc, bs, ws, h⟩ := h
  have c4 := cell_at h.blk 4
  simp at c4
  have H := Lib.hid h
  clear h
  go_enter Tryz.func72, Tryz.ntmps72
  go_wp2_with fail
  go_returns
  exact ⟨rfl, rfl⟩
def posI (o : Option Nat) : Int := match o with | some i => i | none => 0
theorem intAt_litN (o : Option Nat) : intAt (litN o) = posI o := by cases o <;> rfl
theorem some_litN (o : Option Nat) : (litN o).isSome = o.isSome := by cases o <;> rfl
theorem gfind_any (B1 gb : Nat) (g : GS) (s : Int) (w : World) {mb wb : Nat} {ta : Option Addr} {tc : Nat} (h : Graph B1 gb g mb wb ta tc w) (h0 : 0 ≤ s) (h1 : s ≤ 4294967295) : Calls Tryz.prog 54 #[.pointer (some ⟨gb, 0, none⟩), .int .u32 s] w fun e w' => e = .returned (.tuple #[.int .i64 (posI (posOf s g.sigs)), .bool (posOf s g.sigs).isSome]) ∧ w = w' := by
  obtain ⟨ca, cl, cc, bs, ws, h⟩ := h
  have c4 := cell_at h.blk 5
  simp at c4
  have hl := h.bySet.look_ok_int Tryz.law57 Tryz.underlying134 Tryz.underlying3 Tryz.zero3 (keyOf_int_mk Tryz.underlying57 (wf_u32 h0 h1))
  rw [h.hbs, intAt_litN, some_litN] at hl
  have H := Lib.hid h
  clear h
  go_enter Tryz.func54, Tryz.ntmps54
  go_wp2_with fail
  go_returns
  exact ⟨rfl, rfl⟩
theorem tsig_any (tb : Nat) (set : Int) (w : World) (h : SigAt w tb set) : Calls Tryz.prog 50 #[.pointer (some ⟨tb, 0, none⟩)] w fun e w' => e = .returned (.int .u32 set) ∧ w = w' := by
  obtain ⟨cs, h, h2⟩ := h
  have c2 : w.cell? ⟨tb, 2, none⟩ = some (.int .u32 set) := by rw [cell_at h]; exact h2
  clear h h2
  go_enter Tryz.func50, Tryz.ntmps50
  go_wp2_with fail
  go_returns
  exact ⟨rfl, rfl⟩
def tabPtr (g : GS) (i : Int) : Option Addr := if 0 ≤ i then (g.ts[i.toNat]?).map fun t => ⟨t.1, 0, none⟩ else none
theorem tabPtr_none {g : GS} {i : Int} (h : i < 0 ∨ (g.ts.length : Int) ≤ i) : tabPtr g i = none := by
  unfold tabPtr
  split
  · rw [List.getElem?_eq_none (by omega)]; rfl
  · rfl
theorem tabPtr_some {g : GS} {k : Nat} {t : Nat × Int} (h : g.ts[k]? = some t) : tabPtr g k = some ⟨t.1, 0, none⟩ := by
  unfold tabPtr
  rw [if_pos (by omega), Int.toNat_natCast, h]; rfl
theorem GraphAt.cell {B1 gb : Nat} {g : GS} {w : World} {mb wb : Nat} {ca : Option Addr} {cl cc : Nat} {ta : Option Addr} {tc : Nat} {bs ws : Lit → Option Lit} (h : GraphAt B1 gb g w mb wb ca cl cc ta tc bs ws) {k : Nat} {t : Nat × Int} (hk : g.ts[k]? = some t) :
    ∃ q, ta = some ⟨q, 0, none⟩ ∧ w.cell? ⟨q, k, none⟩ = some (.pointer (some ⟨t.1, 0, none⟩)) := by
  have hl := (List.getElem?_eq_some_iff.1 hk).1
  rcases h.row.2 with ⟨hv, h0'⟩ | ⟨q, cap', cur, hv, hg, hh, hc1, hc2, hc3, hc4⟩
  · omega
  · cases hv
    refine ⟨q, rfl, ?_⟩
    rw [cell_at hh]
    have hu : (g.ts.map fun t => Value.pointer (some ⟨t.1, 0, none⟩))[k]? = some (.pointer (some ⟨t.1, 0, none⟩)) := by rw [List.getElem?_map, hk]; rfl
    rw [← hc4, List.getElem?_take] at hu
    split at hu
    · simpa using hu
    · cases hu
theorem table_any (B1 gb : Nat) (g : GS) (i : Int) (w : World) {mb wb : Nat} {ta : Option Addr} {tc : Nat} (h : Graph B1 gb g mb wb ta tc w) : Calls Tryz.prog 41 #[.pointer (some ⟨gb, 0, none⟩), .int .i64 i] w fun e w' => e = .returned (.pointer (tabPtr g i)) ∧ w = w' := by
  have h' := h
  obtain ⟨ca, cl, cc, bs, ws, h⟩ := h
  have hlen : g.ts.length ≤ 64 := by have := h.wf; omega
  rcases (by omega : i < 0 ∨ (0 ≤ i ∧ (g.ts.length : Int) ≤ i) ∨ (0 ≤ i ∧ i < (g.ts.length : Int))) with hi | ⟨hi, hi'⟩ | ⟨hi, hi'⟩
  · have HT := Lib.hid (tabPtr_none (g := g) (i := i) (.inl hi))
    have H := Lib.hid h; clear h
    have H' := Lib.hid h'; clear h'
    go_enter Tryz.func41, Tryz.ntmps41
    go_wp2_with fail
    go_returns
    exact ⟨by rw [HT.out]; rfl, rfl⟩
  · have HT := Lib.hid (tabPtr_none (g := g) (i := i) (.inr hi'))
    have H := Lib.hid h; clear h
    have H' := Lib.hid h'; clear h'
    go_enter Tryz.func41, Tryz.ntmps41
    go_wp2_with fail
    refine (len_any B1 gb g _ H'.out).mono ?_
    rintro e w' ⟨rfl, rfl⟩
    go_wp2_with fail
    go_returns
    exact ⟨by rw [HT.out]; rfl, rfl⟩
  · obtain ⟨k, rfl⟩ := Int.eq_ofNat_of_zero_le hi
    obtain ⟨t, ht⟩ : ∃ t, g.ts[k]? = some t := ⟨_, List.getElem?_eq_getElem (by omega)⟩
    obtain ⟨q, rfl, hc⟩ := h.cell ht
    have HT := Lib.hid (tabPtr_some ht)
    have c4 := cell_at h.blk 4
    simp at c4
    have H := Lib.hid h; clear h
    have H' := Lib.hid h'; clear h' ht
    go_enter Tryz.func41, Tryz.ntmps41
    go_wp2_with fail
    refine (len_any B1 gb g _ H'.out).mono ?_
    rintro e w' ⟨rfl, rfl⟩
    go_wp2_with fail
    go_returns
    exact ⟨by rw [HT.out]; rfl, rfl⟩
theorem room_any (B1 gb : Nat) (g : GS) (w : World) {mb wb : Nat} {ta : Option Addr} {tc : Nat} (h : Graph B1 gb g mb wb ta tc w) : Calls Tryz.prog 105 #[.pointer (some ⟨gb, 0, none⟩)] w fun e w' => e = .returned (.int .i64 (g.archs - g.ts.length)) ∧ ∃ n, w' = w.drewN n := by
  obtain ⟨ca, cl, cc, bs, ws, h⟩ := h
  have c4 := cell_at h.blk 4
  have c2 := cell_at h.blk 2
  simp at c4 c2
  have hlen : g.ts.length ≤ 64 := by have := h.wf; omega
  have h1 := h.wf.2.2.1
  have h2 := h.wf.2.2.2.1
  have H := Lib.hid h; clear h
  go_enter Tryz.func105, Tryz.ntmps105
  go_wp2_with fail
  go_quiet (fail)
  go_wp2_with fail
  go_returns
  exact ⟨rfl, _, rfl⟩
end Go.Proofs.YthmpknlgkflhiabGreat
