/- As B4, but for tables with rows: the graph knows only that the tables' blocks hold their sets. · Contracts of (*Graph).Sigs, check. -/
import Derived.Test.YthmpknlgkflhiabGreatQ18
import Derived.DeepKeys4
import Derived.Deep.QuietTactic
import Derived.BigQuiet
import Derived.WalkSmall
import Derived.Deep.DeepCutAuto
namespace Go.Proofs.YthmpknlgkflhiabGreat
open Go.RowKit
open Go.Maps (Keyed int_keyed keyOf_int_mk)
set_option linter.unusedVariables false
theorem own : ownKnob Tryz.prog.godebug = none := by kernel_rfl
theorem laidOut : laidOutB Tryz.prog = true := by kernel_rfl
theorem Tryz.law57 : Keyed Tryz.prog 57 := int_keyed Tryz.underlying57
set_option maxRecDepth 100000 in
theorem Tryz.row212 : 212 < Tryz.prog.types.size := of_decide_eq_true (by kernel_rfl)
theorem Tryz.wide68 : (match Tryz.prog.underlying 212 with | some (.array _ _) | some (.struct _) => true | _ => false) = true := by kernel_rfl
set_option maxRecDepth 100000 in
theorem Tryz.law212 : Keyed Tryz.prog 212 := Keyed.of_law (deep_law_laid laidOut (m := 2) (by omega) Tryz.row212 (by kernel_rfl) Tryz.wide68)
theorem Tryz.zero3 (w : World) : (zeroValue 3).run Tryz.prog w = .ok (.int .i64 0) w := by kernel_rfl
def I64 (n : Int) : Prop := -9223372036854775808 ≤ n ∧ n ≤ 9223372036854775807
theorem wf_i64 {n : Int} (h : I64 n) : (Lit.int .i64 n).wf = true := WalkArith.wf_i64 h
set_option maxRecDepth 100000 in
theorem wf_u32 {n : Int} (h0 : 0 ≤ n) (h1 : n ≤ 4294967295) : (Lit.int .u32 n).wf = true := by
 simp [Lit.wf, IntKind.min, IntKind.max, IntKind.signed, IntKind.bits]; omega
theorem Tryz.tsz : ∃ m, Tryz.prog.types.size + 1 = m + 2 := ⟨_, rfl⟩
theorem Tryz.kt212 : Tryz.prog.keyType 212 = true := by kernel_rfl
theorem Tryz.co212 : Tryz.prog.cellsOf 212 = 3 := by kernel_rfl
theorem Tryz.co3 : Tryz.prog.cellsOf 3 = 1 := by kernel_rfl
theorem Tryz.co4 : Tryz.prog.cellsOf 4 = 1 := by kernel_rfl
theorem way_key (i c : Int) (b : Bool) (hi : I64 i) (hc : I64 c) : keyOf Tryz.prog 212 (.agg #[.int .i64 i, .int .i64 c, .bool b]) = some (.string (keyBytes [.int .i64 i, .int .i64 c, .bool b])) := by
 obtain ⟨m, hm⟩ := Tryz.tsz
 have e : Tryz.prog.keyLits (m + 2) 212 [.int .i64 i, .int .i64 c, .bool b] = some [.int .i64 i, .int .i64 c, .bool b] := by
  simp [Program.keyLits, Tryz.underlying212, Tryz.underlying3, Tryz.underlying4, Tryz.co212, Tryz.co3, Tryz.co4, wf_i64 hi, wf_i64 hc]
 unfold keyOf
 rw [Tryz.underlying212]
 simp only [Tryz.kt212, hm, Value.cells, e]
 simp [Value.formed, Tryz.underlying212, Tryz.co212]
def wayK (x : Int × Int × Bool) : Lit := .string (keyBytes [.int .i64 x.1, .int .i64 x.2.1, .bool x.2.2])
def WayWf (x : Int × Int × Bool) : Prop := I64 x.1 ∧ I64 x.2.1
theorem wayK_inj {x y : Int × Int × Bool} (hx : WayWf x) (hy : WayWf y) (h : wayK x = wayK y) : x = y := by
 have h1 := way_key x.1 x.2.1 x.2.2 hx.1 hx.2
 have h2 := way_key y.1 y.2.1 y.2.2 hy.1 hy.2
 rw [show Lit.string (keyBytes [.int .i64 y.1, .int .i64 y.2.1, .bool y.2.2]) = Lit.string (keyBytes [.int .i64 x.1, .int .i64 x.2.1, .bool x.2.2]) from h.symm] at h2
 have := Tryz.law212.inj h1 h2
 obtain ⟨a, b, c⟩ := x
 obtain ⟨a', b', c'⟩ := y
 simp at this
 simp [this]
def posOf (s : Int) : List Int → Option Nat
 | [] => none
 | x :: r => if x = s then some 0 else (posOf s r).map (· + 1)
theorem posOf_get {s : Int} : ∀ {l : List Int} {i : Nat}, posOf s l = some i → l[i]? = some s
 | [], _, h => by cases h
 | x :: r, i, h => by
  unfold posOf at h
  split at h
  ·rename_i hx
   cases h; simp [hx]
  ·cases hp : posOf s r with
   | none => rw [hp] at h; cases h
   | some j =>
    rw [hp] at h; cases h
    simpa using posOf_get hp
theorem posOf_snoc (s x : Int) : ∀ l : List Int, posOf x (l ++ [s]) = match posOf x l with | some i => some i | none => if s = x then some l.length else none
 | [] => by simp [posOf]
 | y :: r => by
  simp only [List.cons_append, posOf]
  split
  ·rfl
  ·rw [posOf_snoc s x r]
   cases posOf x r with
   | some i => rfl
   | none =>
    simp only [Option.map_none]
    split <;> simp
structure GS where
 ver : Int
 archs : Int
 rows : Int
 cs : List Cmp
 ts : List (Nat × Int)
 ways : Int × Int × Bool → Option Nat
 nw : Nat
def GS.sigs (g : GS) : List Int := g.ts.map (·.2)
def litN (o : Option Nat) : Option Lit := o.map fun i => .int .i64 i
def SigAt (w : World) (tb : Nat) (set : Int) : Prop := ∃ cs : Array Value, w.heap[tb]? = some (.cells cs 143 (0, 0)) ∧ cs[2]? = some (.int .u32 set)
structure GraphAt (B1 gb : Nat) (g : GS) (w : World) (mb wb : Nat) (ca : Option Addr) (cl cc : Nat) (ta : Option Addr) (tc : Nat) (bs ws : Lit → Option Lit) : Prop where
 bg : B1 ≤ gb
 bm : B1 ≤ mb
 bw : B1 ≤ wb
 ne : mb ≠ wb
 blk : w.heap[gb]? = some (.cells #[.int .i64 g.ver, .slice ca cl cc, .int .i64 g.archs, .int .i64 g.rows, .slice ta g.ts.length tc, .map (some mb), .map (some wb)] 138 (0, 0))
 comps : CompsAt w.heap.size w ca cl g.cs
 cty : CompsTy w ca cl g.cs
 row : w.ownsRow B1 89 1 (.slice ta g.ts.length tc) g.ts.length (g.ts.map fun t => .pointer (some ⟨t.1, 0, none⟩))
 bySet : MapIs Tryz.prog w 57 3 mb g.ts.length bs
 byWay : MapIs Tryz.prog w 212 3 wb g.nw ws
 tab : ∀ t ∈ g.ts, SigAt w t.1 t.2 ∧ 0 ≤ t.2 ∧ t.2 ≤ 4294967295
 hbs : ∀ s : Int, bs (.int .u32 s) = litN (posOf s g.sigs)
 hws : ∀ x, WayWf x → ws (wayK x) = litN (g.ways x)
 wf : CompsWf g.cs ∧ (∀ c ∈ g.cs, c.fields.length ≤ 100000) ∧ 1 ≤ g.archs ∧ g.archs ≤ 64 ∧ (g.ts.length : Int) ≤ g.archs ∧ B1 ≤ w.heap.size ∧ g.nw ≤ 1000000
 wok : ∀ x n, g.ways x = some n → n < g.ts.length
 tlo : ∀ t ∈ g.ts, B1 ≤ t.1
 cn : (ca = none → cl = 0 ∧ cc = 0) ∧ cl ≤ 100000
def Graph (B1 gb : Nat) (g : GS) (mb wb : Nat) (ta : Option Addr) (tc : Nat) (w : World) : Prop := ∃ ca cl cc bs ws, GraphAt B1 gb g w mb wb ca cl cc ta tc bs ws
theorem ownsRow_hk {w w' : World} (hk : ∀ (b : Nat) (c : Array Value) (e : TypeId) (fz : Nat × Nat), w.heap[b]? = some (.cells c e fz) → e ≠ 138 → e ≠ 89 → w'.heap[b]? = some (.cells c e fz)) {b : Nat} {e : TypeId} {s : Nat} {v : Value} {n : Nat} {xs : List Value} (ho : w.ownsRow b e s v n xs) (h1 : e ≠ 138) (h2 : e ≠ 89) : w'.ownsRow b e s v n xs := by
 obtain ⟨hl, ho⟩ := ho
 refine ⟨hl, ?_⟩
 rcases ho with ho | ⟨g, cap, cur, hv, hg, hh, r⟩
 ·exact .inl ho
 ·exact .inr ⟨g, cap, cur, hv, hg, hk _ _ _ _ hh h1 h2, r⟩
theorem TableHas.kept {w w' : World} {b0 tb : Nat} {ver set most : Int} {ca : Option Addr} {cc : Nat} {la : Option Addr} {lc : Nat} {cps : List CV} (h : TableHas w b0 tb ver set most ca cc la lc cps) (hk : ∀ (b : Nat) (c : Array Value) (e : TypeId) (fz : Nat × Nat), w.heap[b]? = some (.cells c e fz) → e ≠ 138 → e ≠ 89 → w'.heap[b]? = some (.cells c e fz)) : TableHas w' b0 tb ver set most ca cc la lc cps :=
 ⟨hk _ _ _ _ h.blk (by decide) (by decide), ownsRow_hk hk h.comps (by decide) (by decide), ownsRow_hk hk h.cols (by decide) (by decide),
  fun x hx => ⟨⟨ownsRow_hk hk (h.good x hx).1.row (by decide) (by decide), (h.good x hx).1.len, (h.good x hx).1.max, (h.good x hx).1.nil⟩, ⟨(h.good x hx).2.le, hk _ _ _ _ (h.good x hx).2.blk (by decide) (by decide)⟩⟩, h.nodup⟩
theorem TableNew.kept {w w' : World} {tb : Nat} {ver : Int} {cs : List Cmp} {set most : Int} (h : TableNew w tb ver cs set most) (hk : ∀ (b : Nat) (c : Array Value) (e : TypeId) (fz : Nat × Nat), w.heap[b]? = some (.cells c e fz) → e ≠ 138 → e ≠ 89 → w'.heap[b]? = some (.cells c e fz)) : TableNew w' tb ver cs set most := by
 obtain ⟨ca, cc, la, lc, cps, h, hn⟩ := h
 exact ⟨ca, cc, la, lc, cps, h.kept hk, hn⟩
theorem TableNew.drewN {w : World} {tb : Nat} {ver : Int} {cs : List Cmp} {set most : Int} (h : TableNew w tb ver cs set most) (n : Nat) : TableNew (w.drewN n) tb ver cs set most := h.kept (fun _ _ _ _ hh _ _ => hh)
theorem TableNew.sigAt {w : World} {tb : Nat} {ver : Int} {cs : List Cmp} {set most : Int} (h : TableNew w tb ver cs set most) : SigAt w tb set := by
 obtain ⟨ca, cc, la, lc, cps, h, hn⟩ := h
 exact ⟨_, h.blk, rfl⟩
theorem SigAt.kept {w w' : World} {tb : Nat} {set : Int} (h : SigAt w tb set) (hk : ∀ (b : Nat) (c : Array Value) (e : TypeId) (fz : Nat × Nat), w.heap[b]? = some (.cells c e fz) → e ≠ 138 → e ≠ 89 → w'.heap[b]? = some (.cells c e fz)) : SigAt w' tb set := by
 obtain ⟨cs, h, h2⟩ := h
 exact ⟨cs, hk _ _ _ _ h (by decide) (by decide), h2⟩
theorem SigAt.drewN {w : World} {tb : Nat} {set : Int} (h : SigAt w tb set) (n : Nat) : SigAt (w.drewN n) tb set := h
theorem GraphAt.below {B1 gb : Nat} {g : GS} {w w' : World} {mb wb : Nat} {ca : Option Addr} {cl cc : Nat} {ta : Option Addr} {tc : Nat} {bs ws : Lit → Option Lit} (h : GraphAt B1 gb g w mb wb ca cl cc ta tc bs ws) (hb : Below w.heap.size w w') : GraphAt B1 gb g w' mb wb ca cl cc ta tc bs ws :=
 { h with
  blk := keep hb h.blk
  comps := (h.comps.below hb).mono hb.size
  cty := h.cty.hk (KeepsTy.of_below hb)
  row := ownsRow_below h.row hb
  bySet := h.bySet.below hb
  byWay := h.byWay.below hb
  tab := fun t ht => ⟨(h.tab t ht).1.kept (fun b c e fz hh _ _ => keep hb hh), (h.tab t ht).2⟩
  wf := ⟨h.wf.1, h.wf.2.1, h.wf.2.2.1, h.wf.2.2.2.1, h.wf.2.2.2.2.1, Nat.le_trans h.wf.2.2.2.2.2.1 hb.size, h.wf.2.2.2.2.2.2⟩ }
theorem Graph.below {B1 gb : Nat} {g : GS} {mb wb : Nat} {ta : Option Addr} {tc : Nat} {w w' : World} (h : Graph B1 gb g mb wb ta tc w) (hb : Below w.heap.size w w') : Graph B1 gb g mb wb ta tc w' := by
 obtain ⟨ca, cl, cc, bs, ws, h⟩ := h
 exact ⟨ca, cl, cc, bs, ws, h.below hb⟩
def gfoot (gb mb wb : Nat) (ta : Option Addr) (b : Nat) : Prop := b = gb ∨ b = mb ∨ b = wb ∨ (Value.slice ta 0 0).ownBlock = some b
def GOut (gb mb wb : Nat) (ta ta' : Option Addr) (w w' : World) : Prop := Out (gfoot gb mb wb ta) w w' ∧ ∀ b, gfoot gb mb wb ta' b → gfoot gb mb wb ta b ∨ w.heap.size ≤ b
theorem GOut.trans {gb mb wb : Nat} {ta tb tc : Option Addr} {a b c : World} (h : GOut gb mb wb ta tb a b) (k : GOut gb mb wb tb tc b c) : GOut gb mb wb ta tc a c := by
 refine ⟨h.1.trans k.1 h.2, fun x hx => ?_⟩
 rcases k.2 x hx with h1 | h1
 ·exact h.2 x h1
 ·exact .inr (Nat.le_trans h.1.size h1)
theorem GOut.of_below {gb mb wb : Nat} {ta : Option Addr} {w w' : World} (h : Below w.heap.size w w') : GOut gb mb wb ta ta w w' := ⟨Out.of h, fun _ => .inl⟩
theorem ownBlock_slice (ta : Option Addr) (n m n' m' : Nat) : (Value.slice ta n m).ownBlock = (Value.slice ta n' m').ownBlock := by cases ta <;> rfl
theorem len_any (B1 gb : Nat) (g : GS) (w : World) {mb wb : Nat} {ta : Option Addr} {tc : Nat} (h : Graph B1 gb g mb wb ta tc w) : Calls Tryz.prog 72 #[.pointer (some ⟨gb, 0, none⟩)] w fun e w' => e = .returned (.int .i64 g.ts.length) ∧ w = w' := by
 obtain ⟨ca, cl, cc, bs, ws, h⟩ := h
 have c4 := cell_at h.blk 4
 simp at c4
 have H := Lib.hid h
 clear h
 go_enter Tryz.func72, Tryz.ntmps72
 go_wp2_with fail
 go_returns
 exact ⟨rfl, rfl⟩
def posI (o : Option Nat) : Int := match o with | some i => i | none => 0
theorem intAt_litN (o : Option Nat) : intAt (litN o) = posI o := by cases o <;> rfl
theorem some_litN (o : Option Nat) : (litN o).isSome = o.isSome := by cases o <;> rfl
theorem gfind_any (B1 gb : Nat) (g : GS) (s : Int) (w : World) {mb wb : Nat} {ta : Option Addr} {tc : Nat} (h : Graph B1 gb g mb wb ta tc w) (h0 : 0 ≤ s) (h1 : s ≤ 4294967295) : Calls Tryz.prog 54 #[.pointer (some ⟨gb, 0, none⟩), .int .u32 s] w fun e w' => e = .returned (.tuple #[.int .i64 (posI (posOf s g.sigs)), .bool (posOf s g.sigs).isSome]) ∧ w = w' := by
 obtain ⟨ca, cl, cc, bs, ws, h⟩ := h
 have c4 := cell_at h.blk 5
 simp at c4
 have hl := h.bySet.look_ok_int Tryz.law57 Tryz.underlying134 Tryz.underlying3 Tryz.zero3 (keyOf_int_mk Tryz.underlying57 (wf_u32 h0 h1))
 rw [h.hbs, intAt_litN, some_litN] at hl
 have H := Lib.hid h
 clear h
 go_enter Tryz.func54, Tryz.ntmps54
 go_wp2_with fail
 go_returns
 exact ⟨rfl, rfl⟩
theorem tsig_any (tb : Nat) (set : Int) (w : World) (h : SigAt w tb set) : Calls Tryz.prog 50 #[.pointer (some ⟨tb, 0, none⟩)] w fun e w' => e = .returned (.int .u32 set) ∧ w = w' := by
 obtain ⟨cs, h, h2⟩ := h
 have c2 : w.cell? ⟨tb, 2, none⟩ = some (.int .u32 set) := by rw [cell_at h]; exact h2
 clear h h2
 go_enter Tryz.func50, Tryz.ntmps50
 go_wp2_with fail
 go_returns
 exact ⟨rfl, rfl⟩
def tabPtr (g : GS) (i : Int) : Option Addr := if 0 ≤ i then (g.ts[i.toNat]?).map fun t => ⟨t.1, 0, none⟩ else none
theorem tabPtr_none {g : GS} {i : Int} (h : i < 0 ∨ (g.ts.length : Int) ≤ i) : tabPtr g i = none := by
 unfold tabPtr
 split
 ·rw [List.getElem?_eq_none (by omega)]; rfl
 ·rfl
theorem tabPtr_some {g : GS} {k : Nat} {t : Nat × Int} (h : g.ts[k]? = some t) : tabPtr g k = some ⟨t.1, 0, none⟩ := by
 unfold tabPtr
 rw [if_pos (by omega), Int.toNat_natCast, h]; rfl
theorem GraphAt.cell {B1 gb : Nat} {g : GS} {w : World} {mb wb : Nat} {ca : Option Addr} {cl cc : Nat} {ta : Option Addr} {tc : Nat} {bs ws : Lit → Option Lit} (h : GraphAt B1 gb g w mb wb ca cl cc ta tc bs ws) {k : Nat} {t : Nat × Int} (hk : g.ts[k]? = some t) :
  ∃ q, ta = some ⟨q, 0, none⟩ ∧ w.cell? ⟨q, k, none⟩ = some (.pointer (some ⟨t.1, 0, none⟩)) := by
 have hl := (List.getElem?_eq_some_iff.1 hk).1
 rcases h.row.2 with ⟨hv, h0'⟩ | ⟨q, cap', cur, hv, hg, hh, hc1, hc2, hc3, hc4⟩
 ·omega
 ·cases hv
  refine ⟨q, rfl, ?_⟩
  rw [cell_at hh]
  have hu : (g.ts.map fun t => Value.pointer (some ⟨t.1, 0, none⟩))[k]? = some (.pointer (some ⟨t.1, 0, none⟩)) := by rw [List.getElem?_map, hk]; rfl
  rw [← hc4, List.getElem?_take] at hu
  split at hu
  ·simpa using hu
  ·cases hu
theorem table_any (B1 gb : Nat) (g : GS) (i : Int) (w : World) {mb wb : Nat} {ta : Option Addr} {tc : Nat} (h : Graph B1 gb g mb wb ta tc w) : Calls Tryz.prog 41 #[.pointer (some ⟨gb, 0, none⟩), .int .i64 i] w fun e w' => e = .returned (.pointer (tabPtr g i)) ∧ w = w' := by
 have h' := h
 obtain ⟨ca, cl, cc, bs, ws, h⟩ := h
 have hlen : g.ts.length ≤ 64 := by have := h.wf; omega
 rcases (by omega : i < 0 ∨ (0 ≤ i ∧ (g.ts.length : Int) ≤ i) ∨ (0 ≤ i ∧ i < (g.ts.length : Int))) with hi | ⟨hi, hi'⟩ | ⟨hi, hi'⟩
 ·have HT := Lib.hid (tabPtr_none (g := g) (i := i) (.inl hi))
  have H := Lib.hid h; clear h
  have H' := Lib.hid h'; clear h'
  go_enter Tryz.func41, Tryz.ntmps41
  go_wp2_with fail
  go_returns
  exact ⟨by rw [HT.out]; rfl, rfl⟩
 ·have HT := Lib.hid (tabPtr_none (g := g) (i := i) (.inr hi'))
  have H := Lib.hid h; clear h
  have H' := Lib.hid h'; clear h'
  go_enter Tryz.func41, Tryz.ntmps41
  go_wp2_with fail
  refine (len_any B1 gb g _ H'.out).mono ?_
  rintro e w' ⟨rfl, rfl⟩
  go_wp2_with fail
  go_returns
  exact ⟨by rw [HT.out]; rfl, rfl⟩
 ·obtain ⟨k, rfl⟩ := Int.eq_ofNat_of_zero_le hi
  obtain ⟨t, ht⟩ : ∃ t, g.ts[k]? = some t := ⟨_, List.getElem?_eq_getElem (by omega)⟩
  obtain ⟨q, rfl, hc⟩ := h.cell ht
  have HT := Lib.hid (tabPtr_some ht)
  have c4 := cell_at h.blk 4
  simp at c4
  have H := Lib.hid h; clear h
  have H' := Lib.hid h'; clear h' ht
  go_enter Tryz.func41, Tryz.ntmps41
  go_wp2_with fail
  refine (len_any B1 gb g _ H'.out).mono ?_
  rintro e w' ⟨rfl, rfl⟩
  go_wp2_with fail
  go_returns
  exact ⟨by rw [HT.out]; rfl, rfl⟩
theorem room_any (B1 gb : Nat) (g : GS) (w : World) {mb wb : Nat} {ta : Option Addr} {tc : Nat} (h : Graph B1 gb g mb wb ta tc w) : Calls Tryz.prog 105 #[.pointer (some ⟨gb, 0, none⟩)] w fun e w' => e = .returned (.int .i64 (g.archs - g.ts.length)) ∧ ∃ n, w' = w.drewN n := by
 obtain ⟨ca, cl, cc, bs, ws, h⟩ := h
 have c4 := cell_at h.blk 4
 have c2 := cell_at h.blk 2
 simp at c4 c2
 have hlen : g.ts.length ≤ 64 := by have := h.wf; omega
 have h1 := h.wf.2.2.1
 have h2 := h.wf.2.2.2.1
 have H := Lib.hid h; clear h
 go_enter Tryz.func105, Tryz.ntmps105
 go_wp2_with fail
 go_quiet (fail)
 go_wp2_with fail
 go_returns
 exact ⟨rfl, _, rfl⟩
end Go.Proofs.YthmpknlgkflhiabGreat
namespace Go.Proofs.YthmpknlgkflhiabGreat
open Go.RowKit
set_option linter.unusedVariables false
theorem Tryz.info57 : (Tryz.prog.info? 57).map (fun i => (i.zero, i.size, i.bytes)) = some (some (.int .u32 0), 1, 4) := by kernel_rfl
def IsSigs (g : GS) (w : World) (e : Ending) (w' : World) : Prop :=
 ∃ va vc, e = .returned (.slice va g.ts.length vc) ∧ w'.ownsRow w.heap.size 57 1 (.slice va g.ts.length vc) g.ts.length (g.sigs.map (.int .u32)) ∧ Below w.heap.size w w'
theorem sigs_get {g : GS} {k : Nat} {t : Nat × Int} (h : g.ts[k]? = some t) : g.sigs[k]? = some t.2 := by
 unfold GS.sigs; rw [List.getElem?_map, h]; rfl
set_option maxRecDepth 100000 in
set_option maxHeartbeats 1000000 in
theorem sigs_any (B1 gb : Nat) (g : GS) (w : World) {mb wb : Nat} {ta : Option Addr} {tc : Nat} (h : Graph B1 gb g mb wb ta tc w) : Calls Tryz.prog 34 #[.pointer (some ⟨gb, 0, none⟩)] w (IsSigs g w) := by
 obtain ⟨i0, hi, hz0, hz1, hz2⟩ := info_parts Tryz.info57
 have H := Lib.hid h
 clear h
 have hlen : g.ts.length ≤ 64 := by obtain ⟨ca, cl, cc, bs, ws, h⟩ := H.out; have := h.wf; omega
 go_enter Tryz.func34, Tryz.ntmps34
 go_wp2_with fail
 refine (len_any B1 gb g _ H.out).mono ?_
 rintro e w' ⟨rfl, rfl⟩
 go_wp2_with fail
 go_loopw [3, 7] (fun v i wr => ∃ (k : Nat) (va : Option Addr) (vc : Nat), k ≤ g.ts.length ∧ i = .int .i64 k ∧ v = .slice va k vc ∧ wr.ownsRow w.heap.size 57 1 (.slice va k vc) k ((g.sigs.take k).map (.int .u32)) ∧ Below w.heap.size w wr)
  (fun _ i _ => g.ts.length - (intOf i).toNat)
 case atStart => exact ⟨0, none, 0, Nat.zero_le _, rfl, rfl, World.ownsRow_nil _ _ _ _, Below.refl _ _⟩
 case round =>
  obtain ⟨k, va, vc, hk, rfl, rfl, hown, hbw⟩ := hrel
  have hzr := hbw.size
  by_cases hlt : k < g.ts.length
  ·obtain ⟨t, ht⟩ : ∃ t, g.ts[k]? = some t := ⟨_, List.getElem?_eq_getElem hlt⟩
   obtain ⟨ca, cl, cc, bs, ws, h⟩ := H.out.below hbw
   obtain ⟨q, rfl, hc⟩ := h.cell ht
   have c4 := cell_at h.blk 4
   simp at c4
   have htab := (h.tab t (List.mem_of_getElem? ht)).1
   have HT := Lib.hid htab
   have HTK := Lib.hid (take_snoc (sigs_get ht))
   clear h htab ht
   go_wp2_with fail
   refine (tsig_any _ _ _ HT.out).mono ?_
   rintro e w' ⟨rfl, rfl⟩
   have hownA := hown.alloc (.cells #[.int .u32 t.2] 57)
   go_wp2_with (at_builtin; refine wpList_append_own _ rfl (.tmp 10) (.tmp 19) 44 rfl w.heap.size 57 i0 (.int .u32 0) 1 4 Tryz.underlying44 hi hz0 hz1 hz2 rfl (by decide) (.slice va k vc) k ((g.sigs.take k).map (.int .u32)) rfl hownA ⟨wr.heap.size, 0, none⟩ 1 1 [.int .u32 t.2] rfl rfl (cell_one_new _ _ _) (ints_oneCell .u32 [t.2]) (by unfold maxLen; omega) (by omega) (by simp; omega) ?_)
   intro v' w2 hown2 hg2 _
   obtain ⟨va', vc', hv'⟩ := ownsRow_slice hown2
   rw [hv'] at hown2 ⊢
   clear hv'
   have hrow : ∀ x, (Value.slice va k vc).ownBlock = some x → w.heap.size ≤ x := fun x hx => (hown.lt x hx).1
   have hbel : Below w.heap.size w w2 := (hbw.alloc hzr _).grown hg2 (by simp; omega) hrow
   have HO := Lib.hid hown2
   clear hown2 hown hownA hg2 hrow
   go_wp2_with fail
   go_roundw
   case rel => exact ⟨k + 1, va', vc', by omega, by go_num, rfl, by rw [HTK.out, List.map_append]; simpa using HO.out, hbel⟩
   case measure => simp [intOf]; omega
  ·obtain rfl : k = g.ts.length := by omega
   have ht : g.sigs.take g.ts.length = g.sigs := List.take_of_length_le (by simp [GS.sigs])
   rw [ht] at hown
   have HO := Lib.hid hown
   clear hown ht
   go_wp2_with fail
   go_returns
   exact ⟨va, vc, rfl, HO.out, hbw⟩
def chkF (g : GS) (i c : Int) (b : Bool) : Int :=
 if i < 0 ∨ (g.ts.length : Int) ≤ i then 3 else if (findC c g.cs).isSome = false then 6 else if hasB (g.sigs.getD i.toNat 0) c = b then 7 else 0
theorem set3_ne (w : World) (a : Nat) (u0 u1 u2 : Value) (b : Nat) (h : b ≠ a) : (((w.setCell ⟨a, 0, none⟩ u0).setCell ⟨a, 1, none⟩ u1).setCell ⟨a, 2, none⟩ u2).heap[b]? = w.heap[b]? := by
 rw [hset_ne _ _ _ _ (by simpa using h), hset_ne _ _ _ _ (by simpa using h), hset_ne _ _ _ _ (by simpa using h)]
theorem quiet_same {P : Program} {f : FuncId} {args : Array Value} {w : World} {n : Nat} {v : Value} (h : Calls P f args (w.drewN n) fun e w' => e = .returned v ∧ w.drewN n = w') :
  Calls P f args (w.drewN n) fun e w'' => e = .returned v ∧ ∃ m, w'' = w.drewN m := h.mono fun _ _ ⟨he, hm⟩ => ⟨he, n, hm.symm⟩
theorem Find_none (ver id : Int) (cs : List Cmp) (a : Option Addr) (len cap : Nat) (w : World) (hcs : CompsAt w.heap.size w a len cs) (hf : ∀ c ∈ cs, c.fields.length ≤ 100000) (hn : findC id cs = none) :
  Calls Tryz.prog 87 #[.agg #[.int .i64 ver, .slice a len cap], .int .i64 id] w fun e w' => e = .returned (.tuple #[.agg #[.int .i64 0, .string ByteArray.empty, .slice none 0 0], .bool false]) ∧ Below w.heap.size w w' := by
 refine (Find_any ver id cs a len cap w hcs hf).mono ?_
 intro e w' h
 unfold IsFind at h
 rw [hn] at h
 exact h
theorem Find_some (ver id : Int) (cs : List Cmp) (a : Option Addr) (len cap : Nat) (w : World) (hcs : CompsAt w.heap.size w a len cs) (hf : ∀ c ∈ cs, c.fields.length ≤ 100000) (hn : (findC id cs).isSome = true) :
  Calls Tryz.prog 87 #[.agg #[.int .i64 ver, .slice a len cap], .int .i64 id] w fun e w' => ∃ x s va fl vc, e = .returned (.tuple #[.agg #[.int .i64 x, .string s, .slice va fl vc], .bool true]) ∧ Below w.heap.size w w' := by
 refine (Find_any ver id cs a len cap w hcs hf).mono ?_
 intro e w' h
 unfold IsFind at h
 cases hc : findC id cs with
 | none => rw [hc] at hn; cases hn
 | some c =>
  rw [hc] at h
  obtain ⟨va, fl, vc, he, _, _, hb⟩ := h
  exact ⟨_, _, va, fl, vc, he, hb⟩
set_option maxRecDepth 100000 in
set_option maxHeartbeats 2000000 in
theorem check_any (B1 gb : Nat) (g : GS) (i c : Int) (b : Bool) (w : World) {mb wb : Nat} {ta : Option Addr} {tc : Nat} (h : Graph B1 gb g mb wb ta tc w) : Calls Tryz.prog 128 #[.pointer (some ⟨gb, 0, none⟩), .agg #[.int .i64 i, .int .i64 c, .bool b]] w fun e w' => e = .returned (.int .i64 (chkF g i c b)) ∧ Below w.heap.size w w' := by
 obtain ⟨ca, cl, cc, bs, ws, h⟩ := h
 have c0 := cell_at h.blk 0
 have c1 := cell_at h.blk 1
 have c4 := cell_at h.blk 4
 simp at c0 c1 c4
 have hgl := lt_some h.blk
 have hlen : g.ts.length ≤ 64 := by have := h.wf; omega
 have H := Lib.hid h
 clear h
 rcases (by omega : i < 0 ∨ (0 ≤ i ∧ (g.ts.length : Int) ≤ i) ∨ (0 ≤ i ∧ i < (g.ts.length : Int))) with hi | ⟨hi, hi'⟩ | ⟨hi, hi'⟩
 ·have HC : Hid (chkF g i c b = 3) := Lib.hid (by unfold chkF; rw [if_pos (.inl hi)])
  have hd : decide (i < 0) = true := by simpa using hi
  go_enter Tryz.func128, Tryz.ntmps128
  go_wp2_with fail
  go_quiet (fail)
  go_wp2_with fail
  go_returns
  exact ⟨ret_intk HC.out.symm, below_drewN ((Below.refl _ _).alloc (Nat.le_refl _) _) _⟩
 ·have HC : Hid (chkF g i c b = 3) := Lib.hid (by unfold chkF; rw [if_pos (.inr hi')])
  have hd : decide (i < 0) = false := by simpa using hi
  go_enter Tryz.func128, Tryz.ntmps128
  go_wp2_with fail
  go_quiet (fail)
  go_wp2_with fail
  go_returns
  exact ⟨ret_intk HC.out.symm, below_drewN ((Below.refl _ _).alloc (Nat.le_refl _) _) _⟩
 ·obtain ⟨k, rfl⟩ := Int.eq_ofNat_of_zero_le hi
  have hd : decide ((k : Int) < 0) = false := by simp
  go_enter Tryz.func128, Tryz.ntmps128
  go_wp2_with fail
  go_quiet (fail)
  have hbW : Below w.heap.size w ((w.alloc (.cells #[.int .i64 k, .int .i64 c, .bool b] 212)).drewN nq) := below_drewN ((Below.refl _ _).alloc (Nat.le_refl _) _) nq
  have hzW : ((w.alloc (.cells #[.int .i64 k, .int .i64 c, .bool b] 212)).drewN nq).heap.size = w.heap.size + 1 := by simp
  have hX : ((w.alloc (.cells #[.int .i64 k, .int .i64 c, .bool b] 212)).drewN nq).heap[w.heap.size]? = some (.cells #[.int .i64 k, .int .i64 c, .bool b] 212 (0, 0)) := heap_alloc_new w _
  generalize (w.alloc (.cells #[.int .i64 k, .int .i64 c, .bool b] 212)).drewN nq = W at hbW hzW hX ⊢
  have HW := Lib.hid (H.out.below hbW)
  have d0 := cell_at HW.out.blk 0
  have d1 := cell_at HW.out.blk 1
  have x0 := cell_at hX 0
  have x1 := cell_at hX 1
  have x2 := cell_at hX 2
  simp at d0 d1 x0 x1 x2
  clear c0 c1 c4
  have hcW : CompsAt W.drew.heap.size W.drew ca cl g.cs := HW.out.comps
  have HCW := Lib.hid hcW
  clear hcW
  have hcW2 : CompsAt (W.alloc (.cells #[.int .i64 0, .string ByteArray.empty, .slice none 0 0] 80)).drew.heap.size (W.alloc (.cells #[.int .i64 0, .string ByteArray.empty, .slice none 0 0] 80)).drew ca cl g.cs := (HW.out.comps.below ((Below.refl W.heap.size W).alloc (Nat.le_refl _) (.cells #[.int .i64 0, .string ByteArray.empty, .slice none 0 0] 80))).mono (by simp)
  have HCW2 := Lib.hid hcW2
  clear hcW2
  have hz : ∀ wf, Below (W.alloc (.cells #[.int .i64 0, .string ByteArray.empty, .slice none 0 0] 80)).drew.heap.size (W.alloc (.cells #[.int .i64 0, .string ByteArray.empty, .slice none 0 0] 80)).drew wf → (wf.cell? ⟨gb, 0, none⟩ = some (.int .i64 g.ver) ∧ wf.cell? ⟨gb, 1, none⟩ = some (.slice ca cl cc) ∧ wf.cell? ⟨w.heap.size, 1, none⟩ = some (.int .i64 c)) ∧
    wf.cell? ⟨w.heap.size + 1, 0, none⟩ = some (.int .i64 0) ∧ wf.cell? ⟨w.heap.size + 1, 1, none⟩ = some (.string ByteArray.empty) ∧ wf.cell? ⟨w.heap.size + 1, 2, none⟩ = some (.slice none 0 0) ∧ wf.frozen? ⟨w.heap.size + 1, 0, none⟩ = false ∧ wf.frozen? ⟨w.heap.size + 1, 1, none⟩ = false ∧ wf.frozen? ⟨w.heap.size + 1, 2, none⟩ = false ∧
    ∀ u0 u1 u2, (((wf.setCell ⟨w.heap.size + 1, 0, none⟩ u0).setCell ⟨w.heap.size + 1, 1, none⟩ u1).setCell ⟨w.heap.size + 1, 2, none⟩ u2).cell? ⟨gb, 0, none⟩ = some (.int .i64 g.ver) ∧ (((wf.setCell ⟨w.heap.size + 1, 0, none⟩ u0).setCell ⟨w.heap.size + 1, 1, none⟩ u1).setCell ⟨w.heap.size + 1, 2, none⟩ u2).cell? ⟨gb, 1, none⟩ = some (.slice ca cl cc) ∧ (((wf.setCell ⟨w.heap.size + 1, 0, none⟩ u0).setCell ⟨w.heap.size + 1, 1, none⟩ u1).setCell ⟨w.heap.size + 1, 2, none⟩ u2).cell? ⟨w.heap.size, 1, none⟩ = some (.int .i64 c) := by
   intro wf hb
   have k1 := keep hb (show (W.alloc (.cells #[.int .i64 0, .string ByteArray.empty, .slice none 0 0] 80)).drew.heap[gb]? = _ from keepA _ HW.out.blk)
   have k2 := keep hb (show (W.alloc (.cells #[.int .i64 0, .string ByteArray.empty, .slice none 0 0] 80)).drew.heap[w.heap.size]? = _ from keepA _ hX)
   have k3 := keep hb (show (W.alloc (.cells #[.int .i64 0, .string ByteArray.empty, .slice none 0 0] 80)).drew.heap[W.heap.size]? = _ from heap_alloc_new W _)
   rw [hzW] at k3
   refine ⟨⟨by rw [cell_at k1]; rfl, by rw [cell_at k1]; rfl, by rw [cell_at k2]; rfl⟩, by rw [cell_at k3]; rfl, by rw [cell_at k3]; rfl, by rw [cell_at k3]; rfl, free_at k3 _, free_at k3 _, free_at k3 _, fun u0 u1 u2 => ?_⟩
   have k4 := (set3_ne wf (w.heap.size + 1) u0 u1 u2 gb (by omega)).trans k1
   have k5 := (set3_ne wf (w.heap.size + 1) u0 u1 u2 w.heap.size (by omega)).trans k2
   exact ⟨by rw [cell_at k4]; rfl, by rw [cell_at k4]; rfl, by rw [cell_at k5]; rfl⟩
  have HZ := Lib.hid hz
  clear hz
  have hb1 : ∀ wf, Below W.drew.heap.size W.drew wf → ∀ o, Below w.heap.size w (wf.alloc o) ∧ (wf.alloc o).heap[w.heap.size]? = some (.cells #[.int .i64 k, .int .i64 c, .bool b] 212 (0, 0)) := by
   intro wf hb o
   have h1 : Below w.heap.size w wf := hbW.trans (Below.mono (B := W.heap.size) (undrew hb) (by omega))
   exact ⟨h1.alloc h1.size _, keepA _ (keep hb hX)⟩
  have HB1 := Lib.hid hb1
  clear hb1
  have hb2 : ∀ wf, Below (W.alloc (.cells #[.int .i64 0, .string ByteArray.empty, .slice none 0 0] 80)).drew.heap.size (W.alloc (.cells #[.int .i64 0, .string ByteArray.empty, .slice none 0 0] 80)).drew wf → ∀ u0 u1 u2, Below w.heap.size w (((wf.setCell ⟨w.heap.size + 1, 0, none⟩ u0).setCell ⟨w.heap.size + 1, 1, none⟩ u1).setCell ⟨w.heap.size + 1, 2, none⟩ u2) ∧
    (((wf.setCell ⟨w.heap.size + 1, 0, none⟩ u0).setCell ⟨w.heap.size + 1, 1, none⟩ u1).setCell ⟨w.heap.size + 1, 2, none⟩ u2).heap[w.heap.size]? = some (.cells #[.int .i64 k, .int .i64 c, .bool b] 212 (0, 0)) := by
   intro wf hb u0 u1 u2
   have hz : (W.alloc (.cells #[.int .i64 0, .string ByteArray.empty, .slice none 0 0] 80)).heap.size = W.heap.size + 1 := World.size_alloc _ _
   have h1 : Below w.heap.size w wf := (hbW.alloc (by omega) _).trans (Below.mono (B := (W.alloc (.cells #[.int .i64 0, .string ByteArray.empty, .slice none 0 0] 80)).heap.size) (undrew hb) (by omega))
   exact ⟨((h1.setCell (by simp) _).setCell (by simp) _).setCell (by simp) _, (set3_ne wf (w.heap.size + 1) u0 u1 u2 w.heap.size (by omega)).trans (keep hb (show (W.alloc (.cells #[.int .i64 0, .string ByteArray.empty, .slice none 0 0] 80)).drew.heap[w.heap.size]? = _ from keepA _ hX))⟩
  have HB2 := Lib.hid hb2
  clear hb2
  go_upto_region 5 with (fail)
  go_cut [6] (fun s6 wx => s6 = .bool (findC c g.cs).isSome ∧ Below w.heap.size w wx ∧ wx.heap[w.heap.size]? = some (.cells #[.int .i64 k, .int .i64 c, .bool b] 212 (0, 0)))
  case first =>
   cases hfc : (findC c g.cs).isSome
   ·have hfn : findC c g.cs = none := by cases h : findC c g.cs <;> simp_all
    have HFC := Lib.hid hfc
    clear hfc
    go_region_held3 (fun w' => w'.cell? ⟨gb, 0, none⟩ = some (.int .i64 g.ver) ∧ w'.cell? ⟨gb, 1, none⟩ = some (.slice ca cl cc) ∧ w'.cell? ⟨w.heap.size, 1, none⟩ = some (.int .i64 c))
     (first | go_keep | (refine ⟨?_, ?_, ?_⟩; (rw [cell_at (keep hbf HW.out.blk)]; rfl); (rw [cell_at (keep hbf HW.out.blk)]; rfl); (rw [cell_at (keep hbf hX)]; rfl)) | (refine ⟨?_, ?_, ?_⟩; (rw [cell_at (keepA _ (keep hbf HW.out.blk))]; rfl); (rw [cell_at (keepA _ (keep hbf HW.out.blk))]; rfl); (rw [cell_at (keepA _ (keep hbf hX))]; rfl)) | exact (HZ.out _ hbf2).1 | exact (HZ.out _ hbf2).2.2.2.2.2.2.2 _ _ _)
     (first | (go_at_call 87; refine (Find_none _ _ g.cs _ _ _ _ HCW.out H.out.wf.2.1 hfn).mono ?_; rintro e wf ⟨rfl, hbf⟩) | (go_at_call 87; refine (Find_none _ _ g.cs _ _ _ _ HCW2.out H.out.wf.2.1 hfn).mono ?_; rintro e wf2 ⟨rfl, hbf2⟩; obtain ⟨_, z0, z1, z2, y0, y1, y2, _⟩ := HZ.out _ hbf2))
    all_goals
     go_wp2_with fail
     go_meet
     first | exact ⟨congrArg Value.bool HFC.out.symm, HB1.out _ hbf _⟩ | exact ⟨congrArg Value.bool HFC.out.symm, HB2.out _ hbf2 _ _ _⟩
   ·have HFS := Lib.hid hfc
    have HFC := Lib.hid hfc
    clear hfc
    go_region_held3 (fun w' => w'.cell? ⟨gb, 0, none⟩ = some (.int .i64 g.ver) ∧ w'.cell? ⟨gb, 1, none⟩ = some (.slice ca cl cc) ∧ w'.cell? ⟨w.heap.size, 1, none⟩ = some (.int .i64 c))
     (first | go_keep | (refine ⟨?_, ?_, ?_⟩; (rw [cell_at (keep hbf HW.out.blk)]; rfl); (rw [cell_at (keep hbf HW.out.blk)]; rfl); (rw [cell_at (keep hbf hX)]; rfl)) | (refine ⟨?_, ?_, ?_⟩; (rw [cell_at (keepA _ (keep hbf HW.out.blk))]; rfl); (rw [cell_at (keepA _ (keep hbf HW.out.blk))]; rfl); (rw [cell_at (keepA _ (keep hbf hX))]; rfl)) | exact (HZ.out _ hbf2).1 | exact (HZ.out _ hbf2).2.2.2.2.2.2.2 _ _ _)
     (first | (go_at_call 87; refine (Find_some _ _ g.cs _ _ _ _ HCW.out H.out.wf.2.1 HFS.out).mono ?_; rintro e wf ⟨fx, fs, va, fl, vc, rfl, hbf⟩) | (go_at_call 87; refine (Find_some _ _ g.cs _ _ _ _ HCW2.out H.out.wf.2.1 HFS.out).mono ?_; rintro e wf2 ⟨fx, fs, va, fl, vc, rfl, hbf2⟩; obtain ⟨_, z0, z1, z2, y0, y1, y2, _⟩ := HZ.out _ hbf2))
    all_goals
     go_wp2_with fail
     go_meet
     first | exact ⟨congrArg Value.bool HFC.out.symm, HB1.out _ hbf _⟩ | exact ⟨congrArg Value.bool HFC.out.symm, HB2.out _ hbf2 _ _ _⟩
  case rest =>
   obtain ⟨rfl, hbc, hXc⟩ := hcut
   cases hfc : (findC c g.cs).isSome
   ·have HC : Hid (chkF g k c b = 6) := Lib.hid (by unfold chkF; rw [if_neg (by omega), if_pos hfc])
    clear hfc
    go_wp2_with fail
    go_returns
    exact ⟨ret_intk HC.out.symm, hbc⟩
   ·obtain ⟨t, ht⟩ : ∃ t, g.ts[k]? = some t := ⟨_, List.getElem?_eq_getElem (by omega)⟩
    have HC : Hid (chkF g k c b = if hasB t.2 c = b then 7 else 0) := Lib.hid (by
     unfold chkF
     rw [if_neg (by omega), if_neg (by rw [hfc]; simp), Int.toNat_natCast, List.getD_eq_getElem?_getD, sigs_get ht]
     rfl)
    clear hfc
    have HWc := Lib.hid (H.out.below hbc)
    obtain ⟨q, rfl, hq⟩ := HWc.out.cell ht
    obtain ⟨htab, ht0, ht1⟩ := HWc.out.tab t (List.mem_of_getElem? ht)
    have HT := Lib.hid htab
    have e4 := cell_at HWc.out.blk 4
    have y0 := cell_at hXc 0
    have y1 := cell_at hXc 1
    have y2 := cell_at hXc 2
    simp at e4 y0 y1 y2
    have i1 : (0 : Int) ≤ (k : Int) := by omega
    have i2 : (k : Int) < (g.ts.length : Int) := by omega
    clear htab d0 d1 x0 x1 x2
    have hsc : ∀ n, Calls Tryz.prog 50 #[.pointer (some ⟨t.1, 0, none⟩)] (wc.drewN n) fun e w' => e = .returned (.int .u32 t.2) ∧ ∃ m, w' = wc.drewN m := fun n => quiet_same (tsig_any _ _ _ (HT.out.drewN _))
    have HSC := Lib.hid hsc
    clear hsc
    go_wp2_with fail
    go_quiet (first | (go_at_call 50; exact HSC.out _) | (go_at_call 48; exact quiet_same (has_any _ _ _ ht0 ht1)))
    cases hbb : (hasB t.2 c == b)
    ·have H2 := Lib.hid (HC.out.trans (if_neg (by simpa using hbb)))
     clear hbb
     go_wp2_with fail
     go_returns
     exact ⟨ret_intk H2.out.symm, below_drewN hbc _⟩
    ·have H2 := Lib.hid (HC.out.trans (if_pos (by simpa using hbb)))
     clear hbb
     go_wp2_with fail
     go_returns
     exact ⟨ret_intk H2.out.symm, below_drewN hbc _⟩
end Go.Proofs.YthmpknlgkflhiabGreat
