/- What a graph is in memory; the contracts of the methods that only read it. -/
import Derived.Test.YtoadihebdaooaaaGreatB3
import Derived.DeepKeys4
import Derived.Deep.QuietTactic
import Derived.BigQuiet
namespace Go.Proofs.YtoadihebdaooaaaGreat
open Go.RowKit
open Go.Maps (Keyed int_keyed keyOf_int_mk)
set_option linter.unusedVariables false

theorem own : ownKnob Tryz.prog.godebug = none := by kernel_rfl
theorem laidOut : laidOutB Tryz.prog = true := by kernel_rfl
theorem Tryz.law35 : Keyed Tryz.prog 35 := int_keyed Tryz.underlying35
set_option maxRecDepth 100000 in
theorem Tryz.row128 : 128 < Tryz.prog.types.size := of_decide_eq_true (by kernel_rfl)
theorem Tryz.wide68 : (match Tryz.prog.underlying 128 with | some (.array _ _) | some (.struct _) => true | _ => false) = true := by kernel_rfl
set_option maxRecDepth 100000 in
theorem Tryz.law128 : Keyed Tryz.prog 128 := Keyed.of_law (deep_law_laid laidOut (m := 2) (by omega) Tryz.row128 (by kernel_rfl) Tryz.wide68)
theorem Tryz.zero3 (w : World) : (zeroValue 3).run Tryz.prog w = .ok (.int .i64 0) w := by kernel_rfl
def I64 (n : Int) : Prop := -9223372036854775808 ≤ n ∧ n ≤ 9223372036854775807
theorem wf_i64 {n : Int} (h : I64 n) : (Lit.int .i64 n).wf = true := WalkArith.wf_i64 h
set_option maxRecDepth 100000 in
theorem wf_u32 {n : Int} (h0 : 0 ≤ n) (h1 : n ≤ 4294967295) : (Lit.int .u32 n).wf = true := by
  simp [Lit.wf, IntKind.min, IntKind.max, IntKind.signed, IntKind.bits]; omega

theorem Tryz.tsz : ∃ m, Tryz.prog.types.size + 1 = m + 2 := ⟨_, rfl⟩
theorem Tryz.kt128 : Tryz.prog.keyType 128 = true := by kernel_rfl
theorem Tryz.co128 : Tryz.prog.cellsOf 128 = 3 := by kernel_rfl
theorem Tryz.co3 : Tryz.prog.cellsOf 3 = 1 := by kernel_rfl
theorem Tryz.co4 : Tryz.prog.cellsOf 4 = 1 := by kernel_rfl
theorem way_key (i c : Int) (b : Bool) (hi : I64 i) (hc : I64 c) : keyOf Tryz.prog 128 (.agg #[.int .i64 i, .int .i64 c, .bool b]) = some (.string (keyBytes [.int .i64 i, .int .i64 c, .bool b])) := by
  obtain ⟨m, hm⟩ := Tryz.tsz
  have e : Tryz.prog.keyLits (m + 2) 128 [.int .i64 i, .int .i64 c, .bool b] = some [.int .i64 i, .int .i64 c, .bool b] := by
    simp [Program.keyLits, Tryz.underlying128, Tryz.underlying3, Tryz.underlying4, Tryz.co128, Tryz.co3, Tryz.co4, wf_i64 hi, wf_i64 hc]
  unfold keyOf
  rw [Tryz.underlying128]
  simp only [Tryz.kt128, hm, Value.cells, e]
  simp [Value.formed, Tryz.underlying128, Tryz.co128]
def wayK (x : Int × Int × Bool) : Lit := .string (keyBytes [.int .i64 x.1, .int .i64 x.2.1, .bool x.2.2])
def WayWf (x : Int × Int × Bool) : Prop := I64 x.1 ∧ I64 x.2.1
theorem wayK_inj {x y : Int × Int × Bool} (hx : WayWf x) (hy : WayWf y) (h : wayK x = wayK y) : x = y := by
  have h1 := way_key x.1 x.2.1 x.2.2 hx.1 hx.2
  have h2 := way_key y.1 y.2.1 y.2.2 hy.1 hy.2
  rw [show Lit.string (keyBytes [.int .i64 y.1, .int .i64 y.2.1, .bool y.2.2]) = Lit.string (keyBytes [.int .i64 x.1, .int .i64 x.2.1, .bool x.2.2]) from h.symm] at h2
  have := Tryz.law128.inj h1 h2
  obtain ⟨a, b, c⟩ := x
  obtain ⟨a', b', c'⟩ := y
  simp at this
  simp [this]

/-- The first place of a set. -/
def posOf (s : Int) : List Int → Option Nat
  | [] => none
  | x :: r => if x = s then some 0 else (posOf s r).map (· + 1)
theorem posOf_get {s : Int} : ∀ {l : List Int} {i : Nat}, posOf s l = some i → l[i]? = some s
  | [], _, h => by cases h
  | x :: r, i, h => by
    unfold posOf at h
    split at h
    · rename_i hx
      cases h; simp [hx]
    · cases hp : posOf s r with
      | none => rw [hp] at h; cases h
      | some j =>
        rw [hp] at h; cases h
        simpa using posOf_get hp
theorem posOf_snoc (s x : Int) : ∀ l : List Int, posOf x (l ++ [s]) = match posOf x l with | some i => some i | none => if s = x then some l.length else none
  | [] => by simp [posOf]
  | y :: r => by
    simp only [List.cons_append, posOf]
    split
    · rfl
    · rw [posOf_snoc s x r]
      cases posOf x r with
      | some i => rfl
      | none =>
        simp only [Option.map_none]
        split <;> simp
theorem posOf_none {s : Int} : ∀ {l : List Int}, posOf s l = none → s ∉ l
  | [], _ => by simp
  | x :: r, h => by
    unfold posOf at h
    split at h
    · cases h
    · rename_i hx
      have hr : posOf s r = none := by cases hp : posOf s r <;> simp_all
      have := posOf_none hr
      simp [this]
      exact fun e => hx e.symm

/-- What a graph holds. -/
structure GS where
  ver : Int
  archs : Int
  rows : Int
  cs : List Cmp
  ts : List (Nat × Int)
  ways : Int × Int × Bool → Option Nat
  nw : Nat
def GS.sigs (g : GS) : List Int := g.ts.map (·.2)
def litN (o : Option Nat) : Option Lit := o.map fun i => .int .i64 i

/-- A graph, in block gb; its schema lies below B1, all that is written from B1 on. -/
structure GraphAt (B1 gb : Nat) (g : GS) (w : World) (mb wb : Nat) (ca : Option Addr) (cl cc : Nat) (ta : Option Addr) (tc : Nat) (bs ws : Lit → Option Lit) : Prop where
  bg : B1 ≤ gb
  bm : B1 ≤ mb
  bw : B1 ≤ wb
  ne : mb ≠ wb
  blk : w.heap[gb]? = some (.cells #[.int .i64 g.ver, .slice ca cl cc, .int .i64 g.archs, .int .i64 g.rows, .slice ta g.ts.length tc, .map (some mb), .map (some wb)] 119 (0, 0))
  comps : CompsAt w.heap.size w ca cl g.cs
  cty : CompsTy w ca cl g.cs
  row : w.ownsRow B1 42 1 (.slice ta g.ts.length tc) g.ts.length (g.ts.map fun t => .pointer (some ⟨t.1, 0, none⟩))
  bySet : MapIs Tryz.prog w 35 3 mb g.ts.length bs
  byWay : MapIs Tryz.prog w 128 3 wb g.nw ws
  tab : ∀ t ∈ g.ts, TableAt w t.1 g.ver t.2 g.rows ∧ 0 ≤ t.2 ∧ t.2 ≤ 4294967295
  hbs : ∀ s : Int, bs (.int .u32 s) = litN (posOf s g.sigs)
  hws : ∀ x, WayWf x → ws (wayK x) = litN (g.ways x)
  wf : CompsWf g.cs ∧ (∀ c ∈ g.cs, c.fields.length ≤ 100000) ∧ 1 ≤ g.archs ∧ g.archs ≤ 64 ∧ (g.ts.length : Int) ≤ g.archs ∧ B1 ≤ w.heap.size ∧ g.nw ≤ 1000000
  wok : ∀ x n, g.ways x = some n → n < g.ts.length
  tlo : ∀ t ∈ g.ts, B1 ≤ t.1
  cn : (ca = none → cl = 0 ∧ cc = 0) ∧ cl ≤ 100000
def Graph (B1 gb : Nat) (g : GS) (w : World) : Prop := ∃ mb wb ca cl cc ta tc bs ws, GraphAt B1 gb g w mb wb ca cl cc ta tc bs ws

theorem ownsRow_hk {w w' : World} (hk : ∀ (b : Nat) (c : Array Value) (e : TypeId) (fz : Nat × Nat), w.heap[b]? = some (.cells c e fz) → e ≠ 119 → e ≠ 42 → w'.heap[b]? = some (.cells c e fz)) {b : Nat} {e : TypeId} {s : Nat} {v : Value} {n : Nat} {xs : List Value} (ho : w.ownsRow b e s v n xs) (h1 : e ≠ 119) (h2 : e ≠ 42) : w'.ownsRow b e s v n xs := by
  obtain ⟨hl, ho⟩ := ho
  refine ⟨hl, ?_⟩
  rcases ho with ho | ⟨g, cap, cur, hv, hg, hh, r⟩
  · exact .inl ho
  · exact .inr ⟨g, cap, cur, hv, hg, hk _ _ _ _ hh h1 h2, r⟩
theorem TableHas.kept {w w' : World} {b0 tb : Nat} {ver set most : Int} {ca : Option Addr} {cc : Nat} {la : Option Addr} {lc : Nat} {cps : List CV} (h : TableHas w b0 tb ver set most ca cc la lc cps) (hk : ∀ (b : Nat) (c : Array Value) (e : TypeId) (fz : Nat × Nat), w.heap[b]? = some (.cells c e fz) → e ≠ 119 → e ≠ 42 → w'.heap[b]? = some (.cells c e fz)) : TableHas w' b0 tb ver set most ca cc la lc cps :=
  ⟨hk _ _ _ _ h.blk (by decide) (by decide), ownsRow_hk hk h.comps (by decide) (by decide), ownsRow_hk hk h.cols (by decide) (by decide),
    fun x hx => ⟨⟨ownsRow_hk hk (h.good x hx).1.row (by decide) (by decide), (h.good x hx).1.len, (h.good x hx).1.max, (h.good x hx).1.nil⟩, ⟨(h.good x hx).2.le, hk _ _ _ _ (h.good x hx).2.blk (by decide) (by decide)⟩⟩, h.nodup⟩
theorem TableAt.kept {w w' : World} {tb : Nat} {ver set most : Int} (h : TableAt w tb ver set most) (hk : ∀ (b : Nat) (c : Array Value) (e : TypeId) (fz : Nat × Nat), w.heap[b]? = some (.cells c e fz) → e ≠ 119 → e ≠ 42 → w'.heap[b]? = some (.cells c e fz)) : TableAt w' tb ver set most := by
  obtain ⟨ca, cc, la, lc, cps, h, hn⟩ := h
  exact ⟨ca, cc, la, lc, cps, h.kept hk, hn⟩
theorem TableAt.drewN {w : World} {tb : Nat} {ver set most : Int} (h : TableAt w tb ver set most) (n : Nat) : TableAt (w.drewN n) tb ver set most := h.kept (fun _ _ _ _ hh _ _ => hh)
theorem GraphAt.below {B1 gb : Nat} {g : GS} {w w' : World} {mb wb : Nat} {ca : Option Addr} {cl cc : Nat} {ta : Option Addr} {tc : Nat} {bs ws : Lit → Option Lit} (h : GraphAt B1 gb g w mb wb ca cl cc ta tc bs ws) (hb : Below w.heap.size w w') : GraphAt B1 gb g w' mb wb ca cl cc ta tc bs ws :=
  { h with
    blk := keep hb h.blk
    comps := (h.comps.below hb).mono hb.size
    cty := h.cty.hk (KeepsTy.of_below hb)
    row := ownsRow_below h.row hb
    bySet := h.bySet.below hb
    byWay := h.byWay.below hb
    tab := fun t ht => ⟨(h.tab t ht).1.kept (fun b c e fz hh _ _ => keep hb hh), (h.tab t ht).2⟩
    wf := ⟨h.wf.1, h.wf.2.1, h.wf.2.2.1, h.wf.2.2.2.1, h.wf.2.2.2.2.1, Nat.le_trans h.wf.2.2.2.2.2.1 hb.size, h.wf.2.2.2.2.2.2⟩ }
theorem Graph.below {B1 gb : Nat} {g : GS} {w w' : World} (h : Graph B1 gb g w) (hb : Below w.heap.size w w') : Graph B1 gb g w' := by
  obtain ⟨mb, wb, ca, cl, cc, ta, tc, bs, ws, h⟩ := h
  exact ⟨mb, wb, ca, cl, cc, ta, tc, bs, ws, h.below hb⟩

theorem len_any (B1 gb : Nat) (g : GS) (w : World) (h : Graph B1 gb g w) : Calls Tryz.prog 14 #[.pointer (some ⟨gb, 0, none⟩)] w fun e w' => e = .returned (.int .i64 g.ts.length) ∧ w = w' := by
  obtain ⟨mb, wb, ca, cl, cc, ta, tc, bs, ws, h⟩ := h
  have c4 := cell_at h.blk 4
  simp at c4
  have H := Lib.hid h
  clear h
  go_enter Tryz.func14, Tryz.ntmps14
  go_wp2_with fail
  go_returns
  exact ⟨rfl, rfl⟩
theorem ways_any (B1 gb : Nat) (g : GS) (w : World) (h : Graph B1 gb g w) : Calls Tryz.prog 16 #[.pointer (some ⟨gb, 0, none⟩)] w fun e w' => e = .returned (.int .i64 g.nw) ∧ w = w' := by
  obtain ⟨mb, wb, ca, cl, cc, ta, tc, bs, ws, h⟩ := h
  have c4 := cell_at h.blk 6
  simp at c4
  have hl := h.byWay.len Tryz.underlying116 3
  have H := Lib.hid h
  clear h
  go_enter Tryz.func16, Tryz.ntmps16
  go_wp2_with fail
  go_returns
  exact ⟨rfl, rfl⟩
def posI (o : Option Nat) : Int := match o with | some i => i | none => 0
theorem intAt_litN (o : Option Nat) : intAt (litN o) = posI o := by cases o <;> rfl
theorem some_litN (o : Option Nat) : (litN o).isSome = o.isSome := by cases o <;> rfl
theorem gfind_any (B1 gb : Nat) (g : GS) (s : Int) (w : World) (h : Graph B1 gb g w) (h0 : 0 ≤ s) (h1 : s ≤ 4294967295) : Calls Tryz.prog 13 #[.pointer (some ⟨gb, 0, none⟩), .int .u32 s] w fun e w' => e = .returned (.tuple #[.int .i64 (posI (posOf s g.sigs)), .bool (posOf s g.sigs).isSome]) ∧ w = w' := by
  obtain ⟨mb, wb, ca, cl, cc, ta, tc, bs, ws, h⟩ := h
  have c4 := cell_at h.blk 5
  simp at c4
  have hl := h.bySet.look_ok_int Tryz.law35 Tryz.underlying115 Tryz.underlying3 Tryz.zero3 (keyOf_int_mk Tryz.underlying35 (wf_u32 h0 h1))
  rw [h.hbs, intAt_litN, some_litN] at hl
  have H := Lib.hid h
  clear h
  go_enter Tryz.func13, Tryz.ntmps13
  go_wp2_with fail
  go_returns
  exact ⟨rfl, rfl⟩
theorem knows_any (B1 gb : Nat) (g : GS) (i c : Int) (b : Bool) (w : World) (h : Graph B1 gb g w) (hi : I64 i) (hc : I64 c) : Calls Tryz.prog 19 #[.pointer (some ⟨gb, 0, none⟩), .int .i64 i, .int .i64 c, .bool b] w fun e w' => e = .returned (.bool (g.ways (i, c, b)).isSome) ∧ w = w' := by
  obtain ⟨mb, wb, ca, cl, cc, ta, tc, bs, ws, h⟩ := h
  have c4 := cell_at h.blk 6
  simp at c4
  have hl := h.byWay.look_ok_int Tryz.law128 Tryz.underlying116 Tryz.underlying3 Tryz.zero3 (way_key i c b hi hc)
  have hw := h.hws (i, c, b) ⟨hi, hc⟩
  rw [show ws (.string (keyBytes [.int .i64 i, .int .i64 c, .bool b])) = _ from hw, intAt_litN, some_litN] at hl
  have H := Lib.hid h
  clear h hw
  go_enter Tryz.func19, Tryz.ntmps19
  go_wp2_with fail
  go_returns
  exact ⟨rfl, rfl⟩

theorem tsig_any (tb : Nat) (ver set most : Int) (w : World) (h : TableAt w tb ver set most) : Calls Tryz.prog 27 #[.pointer (some ⟨tb, 0, none⟩)] w fun e w' => e = .returned (.int .u32 set) ∧ w = w' := by
  obtain ⟨ca, cc, la, lc, cps, h', _⟩ := h
  have h := h'.blk
  have c2 := cell_at h 2
  simp at c2
  clear h h'
  go_enter Tryz.func27, Tryz.ntmps27
  go_wp2_with fail
  go_returns
  exact ⟨rfl, rfl⟩
theorem tsig_nil (w : World) : Calls Tryz.prog 27 #[.pointer none] w fun e w' => e = .returned (.int .u32 0) ∧ w = w' := by
  go_enter Tryz.func27, Tryz.ntmps27
  go_wp2_with fail
  go_returns
  exact ⟨rfl, rfl⟩
def tabPtr (g : GS) (i : Int) : Option Addr := if 0 ≤ i then (g.ts[i.toNat]?).map fun t => ⟨t.1, 0, none⟩ else none
theorem tabPtr_none {g : GS} {i : Int} (h : i < 0 ∨ (g.ts.length : Int) ≤ i) : tabPtr g i = none := by
  unfold tabPtr
  split
  · rw [List.getElem?_eq_none (by omega)]; rfl
  · rfl
theorem tabPtr_some {g : GS} {k : Nat} {t : Nat × Int} (h : g.ts[k]? = some t) : tabPtr g k = some ⟨t.1, 0, none⟩ := by
  unfold tabPtr
  rw [if_pos (by omega), Int.toNat_natCast, h]; rfl
theorem GraphAt.cell {B1 gb : Nat} {g : GS} {w : World} {mb wb : Nat} {ca : Option Addr} {cl cc : Nat} {ta : Option Addr} {tc : Nat} {bs ws : Lit → Option Lit} (h : GraphAt B1 gb g w mb wb ca cl cc ta tc bs ws) {k : Nat} {t : Nat × Int} (hk : g.ts[k]? = some t) :
    ∃ q, ta = some ⟨q, 0, none⟩ ∧ w.cell? ⟨q, k, none⟩ = some (.pointer (some ⟨t.1, 0, none⟩)) := by
  have hl := (List.getElem?_eq_some_iff.1 hk).1
  rcases h.row.2 with ⟨hv, h0'⟩ | ⟨q, cap', cur, hv, hg, hh, hc1, hc2, hc3, hc4⟩
  · omega
  · cases hv
    refine ⟨q, rfl, ?_⟩
    rw [cell_at hh]
    have hu : (g.ts.map fun t => Value.pointer (some ⟨t.1, 0, none⟩))[k]? = some (.pointer (some ⟨t.1, 0, none⟩)) := by rw [List.getElem?_map, hk]; rfl
    rw [← hc4, List.getElem?_take] at hu
    split at hu
    · simpa using hu
    · cases hu
theorem table_any (B1 gb : Nat) (g : GS) (i : Int) (w : World) (h : Graph B1 gb g w) : Calls Tryz.prog 18 #[.pointer (some ⟨gb, 0, none⟩), .int .i64 i] w fun e w' => e = .returned (.pointer (tabPtr g i)) ∧ w = w' := by
  have h' := h
  obtain ⟨mb, wb, ca, cl, cc, ta, tc, bs, ws, h⟩ := h
  have hlen : g.ts.length ≤ 64 := by have := h.wf; omega
  rcases (by omega : i < 0 ∨ (0 ≤ i ∧ (g.ts.length : Int) ≤ i) ∨ (0 ≤ i ∧ i < (g.ts.length : Int))) with hi | ⟨hi, hi'⟩ | ⟨hi, hi'⟩
  · have HT := Lib.hid (tabPtr_none (g := g) (i := i) (.inl hi))
    have H := Lib.hid h; clear h
    have H' := Lib.hid h'; clear h'
    go_enter Tryz.func18, Tryz.ntmps18
    go_wp2_with fail
    go_returns
    exact ⟨by rw [HT.out]; rfl, rfl⟩
  · have HT := Lib.hid (tabPtr_none (g := g) (i := i) (.inr hi'))
    have H := Lib.hid h; clear h
    have H' := Lib.hid h'; clear h'
    go_enter Tryz.func18, Tryz.ntmps18
    go_wp2_with fail
    refine (len_any B1 gb g _ H'.out).mono ?_
    rintro e w' ⟨rfl, rfl⟩
    go_wp2_with fail
    go_returns
    exact ⟨by rw [HT.out]; rfl, rfl⟩
  · obtain ⟨k, rfl⟩ := Int.eq_ofNat_of_zero_le hi
    obtain ⟨t, ht⟩ : ∃ t, g.ts[k]? = some t := ⟨_, List.getElem?_eq_getElem (by omega)⟩
    obtain ⟨q, rfl, hc⟩ := h.cell ht
    have HT := Lib.hid (tabPtr_some ht)
    have c4 := cell_at h.blk 4
    simp at c4
    have H := Lib.hid h; clear h
    have H' := Lib.hid h'; clear h' ht
    go_enter Tryz.func18, Tryz.ntmps18
    go_wp2_with fail
    refine (len_any B1 gb g _ H'.out).mono ?_
    rintro e w' ⟨rfl, rfl⟩
    go_wp2_with fail
    go_returns
    exact ⟨by rw [HT.out]; rfl, rfl⟩
theorem room_any (B1 gb : Nat) (g : GS) (w : World) (h : Graph B1 gb g w) : Calls Tryz.prog 15 #[.pointer (some ⟨gb, 0, none⟩)] w fun e w' => e = .returned (.int .i64 (g.archs - g.ts.length)) ∧ ∃ n, w' = w.drewN n := by
  obtain ⟨mb, wb, ca, cl, cc, ta, tc, bs, ws, h⟩ := h
  have c4 := cell_at h.blk 4
  have c2 := cell_at h.blk 2
  simp at c4 c2
  have hlen : g.ts.length ≤ 64 := by have := h.wf; omega
  have h1 := h.wf.2.2.1
  have h2 := h.wf.2.2.2.1
  have H := Lib.hid h; clear h
  go_enter Tryz.func15, Tryz.ntmps15
  go_wp2_with fail
  go_quiet (fail)
  go_wp2_with fail
  go_returns
  exact ⟨rfl, _, rfl⟩
end Go.Proofs.YtoadihebdaooaaaGreat
