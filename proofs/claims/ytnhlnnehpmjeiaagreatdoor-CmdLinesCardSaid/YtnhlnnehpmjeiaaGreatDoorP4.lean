/- The rule for growing regions with one operation that comes last in every order: the others are all behind it. · Rules for loops and cuts in great frames: what is unknown is one function. · Contracts of the great whole numbers that fields need: Form, size, Cmp. · cmp.Compare, cmp.Or of ints. · The rule wp_region_grow with the frame as a letter: for regions in great frames. -/
import Derived.Test.YtnhlnnehpmjeiaaGreatDoorP3
import Derived.Deep.LoopGhost
import Derived.Deep.Cut
import Derived.Deep.CutBlock
import Derived.Laws.BitsAllLaws
import Derived.Test.YtnhlnnehpmjeiaaGreatDoorP2
import Derived.WalkKit
namespace Go.Proofs.YtnhlnnehpmjeiaaGreatDoor
open Go.RowKit
set_option linter.unusedVariables false
/-- What an operation waits for. -/
def waitsFor (l : List Oper) (i : Nat) : List Nat := match l[i]? with | some o => (o.after.toList.filter fun e => Region.binds .any e).map (·.on) | none => []
def clos (l : List Oper) : Nat → List Nat → List Nat
  | 0, s => s
  | f + 1, s => clos l f (s ++ s.flatMap (waitsFor l)).eraseDups
theorem clos_ok {l : List Oper} {p : Nat → Prop} (hc : ∀ i, p i → ∀ j ∈ waitsFor l i, p j) : ∀ (f : Nat) (s : List Nat), (∀ x ∈ s, p x) → ∀ x ∈ clos l f s, p x
  | 0, s, h => h
  | f + 1, s, h => by
    unfold clos
    refine clos_ok hc f _ (fun x hx => ?_)
    rw [List.mem_eraseDups] at hx
    rcases List.mem_append.1 hx with hx | hx
    · exact h x hx
    · obtain ⟨y, hy, hxy⟩ := List.mem_flatMap.1 hx
      exact hc y (h y hy) x hxy
section
variable {P : Program} {l : List Oper} {Q : Exit → Act → World → Prop} {a0 : Act} {w0 : World} {R : Nat → Value → World → Prop}
theorem waits_mem {i : Nat} {o : Oper} (ho : l[i]? = some o) {j : Nat} : j ∈ waitsFor l i ↔ ∃ e ∈ o.after, Region.binds .any e = true ∧ e.on = j := by
  unfold waitsFor
  rw [ho]
  simp only [List.mem_map, List.mem_filter, Array.mem_toList_iff]
  constructor
  · rintro ⟨e, ⟨h1, h2⟩, h3⟩; exact ⟨e, h1, h2, h3⟩
  · rintro ⟨e, h1, h2, h3⟩; exact ⟨e, ⟨h1, h2⟩, h3⟩
end
end Go.Proofs.YtnhlnnehpmjeiaaGreatDoor
namespace Go.Proofs.YtnhlnnehpmjeiaaGreatDoor
open Go.RowKit
set_option linter.unusedVariables false
def nthV : List Value → Nat → Value
  | [], _ => undef
  | x :: _, 0 => x
  | _ :: r, n + 1 => nthV r n
/-- A frame, of which some slots are unknown. -/
def mixF : List Bool → (Nat → Value) → Nat → List Value → List Value
  | true :: bs, f, k, _ :: l => f k :: mixF bs f (k + 1) l
  | false :: bs, f, k, x :: l => x :: mixF bs f (k + 1) l
  | [], _, _, l => l
  | _ :: _, _, _, [] => []
section
variable {P : Program} {Q : Exit → Act → World → Prop} {l : List Value} {d : List Deferred} {w : World} {c : Code}
theorem wp_cut_f {K : Act → World → Prop} (bs : List Bool) (R : (Nat → Value) → World → Prop)
    (rest : ∀ (f : Nat → Value) (wc : World), R f wc → K ⟨(mixF bs f 0 l).toArray, d⟩ wc)
    (first : ∀ (J K' : Act → World → Prop), (∀ (v : List Value) (w' : World), R (nthV v) w' → mixF bs (nthV v) 0 l = v → J ⟨v.toArray, d⟩ w') → (∀ a' w', Met J a' w' → K' a' w') → c.wp P (Exit.then K' Q) ⟨l.toArray, d⟩ w) :
    c.wp P (Exit.then K Q) ⟨l.toArray, d⟩ w := by
  refine wp_cut (fun a' w' => ∃ v : List Value, a' = ⟨v.toArray, d⟩ ∧ R (nthV v) w' ∧ mixF bs (nthV v) 0 l = v) ?_ ?_
  · rintro a' w' ⟨v, rfl, hR, hv⟩
    have := rest (nthV v) w' hR
    rw [hv] at this
    exact this
  · intro J K' hJ hK
    exact first J K' (fun v w' h1 h2 => hJ _ w' ⟨v, rfl, h1, h2⟩) hK
end
end Go.Proofs.YtnhlnnehpmjeiaaGreatDoor
namespace Go.Proofs.YtnhlnnehpmjeiaaGreatDoor
open Go.RowKit
set_option linter.unusedVariables false
/-- A great number. -/
structure WI where
  neg : Bool
  hi : Int
  lo : Int
def WI.v (x : WI) : Value := .agg #[.bool x.neg, .int .u64 x.hi, .int .u64 x.lo]
def WI.cs (x : WI) : Array Value := #[.bool x.neg, .int .u64 x.hi, .int .u64 x.lo]
def WI.wf (x : WI) : Prop := (0 ≤ x.hi ∧ x.hi ≤ 18446744073709551615) ∧ 0 ≤ x.lo ∧ x.lo ≤ 18446744073709551615
def WI.val (x : WI) : Int := if x.neg then -(x.hi * 18446744073709551616 + x.lo) else x.hi * 18446744073709551616 + x.lo
def WI.form (x : WI) : Bool := decide (x.hi < 9223372036854775808) && (!x.neg || !(x.hi == 0 && x.lo == 0))
theorem or64_ne {a b : Int} (h1 : 0 ≤ a) (h2 : a ≤ 18446744073709551615) (h3 : 0 ≤ b) (h4 : b ≤ 18446744073709551615) : (bits BinOp.or .u64 a b != 0) = !(a == 0 && b == 0) := by
  rw [u64_or a b h1 (by omega) h3 (by omega)]
  obtain ⟨a, rfl⟩ := Int.eq_ofNat_of_zero_le h1
  obtain ⟨b, rfl⟩ := Int.eq_ofNat_of_zero_le h3
  simp only [Int.toNat_natCast]
  by_cases e : a = 0 ∧ b = 0
  · obtain ⟨rfl, rfl⟩ := e; rfl
  · have h : a ||| b ≠ 0 := by
      intro h
      apply e
      constructor
      · have := Nat.left_le_or (n := a) (m := b); omega
      · have := Nat.right_le_or (n := a) (m := b); omega
    have e2 : ((a : Int) == 0 && (b : Int) == 0) = false := by
      by_cases ha : a = 0
      · have hb : b ≠ 0 := fun hb => e ⟨ha, hb⟩
        simp [hb]
      · simp [ha]
    rw [e2]
    simp only [Bool.not_false, bne_iff_ne]
    omega
set_option maxRecDepth 100000 in
theorem wform_any (x : WI) (w : World) (h : x.wf) : Calls Tryz.prog 83 #[x.v] w fun e w' => e = .returned (.bool x.form) ∧ Below w.heap.size w w' := by
  obtain ⟨n, hi, lo⟩ := x
  obtain ⟨⟨h1, h2⟩, h3, h4⟩ := h
  dsimp only [WI.v] at *
  have HO := Lib.hid (or64_ne h1 h2 h3 h4)
  by_cases ht : hi < 9223372036854775808
  · have e1 : decide (hi < 9223372036854775808) = true := by simp [ht]
    cases n
    · go_enter Tryz.func83, Tryz.ntmps83
      go_wp2_with fail
      go_returns
      exact ⟨by simp [WI.form, ht], by go_grown⟩
    · go_enter Tryz.func83, Tryz.ntmps83
      go_wp2_with fail
      go_returns
      exact ⟨ret_bool (by rw [HO.out]; simp [WI.form, ht]), by go_grown⟩
  · have e1 : decide (hi < 9223372036854775808) = false := by simp [ht]
    go_enter Tryz.func83, Tryz.ntmps83
    go_wp2_with fail
    go_returns
    exact ⟨ret_bool (by unfold WI.form; rw [show decide (hi < 9223372036854775808) = false from e1]; rfl), by go_grown⟩
def sizeF (x y : WI) : Int := if y.hi < x.hi ∨ (x.hi = y.hi ∧ y.lo < x.lo) then 1 else if x.hi = y.hi ∧ x.lo = y.lo then 0 else -1
set_option maxRecDepth 100000 in
theorem wsize_any (x y : WI) (w : World) : Calls Tryz.prog 99 #[x.v, y.v] w fun e w' => e = .returned (.int .i64 (sizeF x y)) ∧ Below w.heap.size w w' := by
  obtain ⟨n, hi, lo⟩ := x
  obtain ⟨n', hi', lo'⟩ := y
  dsimp only [WI.v] at *
  rcases (by omega : hi' < hi ∨ (hi = hi' ∧ lo' < lo) ∨ (hi = hi' ∧ lo = lo') ∨ (hi = hi' ∧ lo < lo') ∨ hi < hi') with h | ⟨h, j⟩ | ⟨h, j⟩ | ⟨h, j⟩ | h
  · have HS := Lib.hid (show sizeF ⟨n, hi, lo⟩ ⟨n', hi', lo'⟩ = 1 by unfold sizeF; rw [if_pos (.inl h)])
    have e1 : decide (hi' < hi) = true := by simp [h]
    clear h
    go_enter Tryz.func99, Tryz.ntmps99
    go_wp2_with fail
    go_returns
    exact ⟨ret_intk HS.out.symm, by go_grown⟩
  · subst h
    have HS := Lib.hid (show sizeF ⟨n, hi, lo⟩ ⟨n', hi, lo'⟩ = 1 by unfold sizeF; rw [if_pos (.inr ⟨rfl, j⟩)])
    have e1 : decide (hi < hi) = false := by simp
    have e2 : decide (lo' < lo) = true := by simp [j]
    clear j
    go_enter Tryz.func99, Tryz.ntmps99
    go_wp2_with fail
    go_returns
    exact ⟨ret_intk HS.out.symm, by go_grown⟩
  · subst h; subst j
    have HS := Lib.hid (show sizeF ⟨n, hi, lo⟩ ⟨n', hi, lo⟩ = 0 by unfold sizeF; rw [if_neg (by simp), if_pos ⟨rfl, rfl⟩])
    have e1 : decide (hi < hi) = false := by simp
    have e2 : decide (lo < lo) = false := by simp
    go_enter Tryz.func99, Tryz.ntmps99
    go_wp2_with fail
    go_returns
    exact ⟨ret_intk HS.out.symm, by go_grown⟩
  · subst h
    have HS := Lib.hid (show sizeF ⟨n, hi, lo⟩ ⟨n', hi, lo'⟩ = -1 by unfold sizeF; rw [if_neg (by simp; omega), if_neg (by simp; omega)])
    have e1 : decide (hi < hi) = false := by simp
    have e2 : decide (lo' < lo) = false := by simp; omega
    have e3 : (lo == lo') = false := by simp; omega
    clear j
    go_enter Tryz.func99, Tryz.ntmps99
    go_wp2_with fail
    go_returns
    exact ⟨ret_intk HS.out.symm, by go_grown⟩
  · have HS := Lib.hid (show sizeF ⟨n, hi, lo⟩ ⟨n', hi', lo'⟩ = -1 by unfold sizeF; rw [if_neg (by simp; omega), if_neg (by simp; omega)])
    have e1 : decide (hi' < hi) = false := by simp; omega
    have e2 : (hi == hi') = false := by simp; omega
    clear h
    go_enter Tryz.func99, Tryz.ntmps99
    go_wp2_with fail
    go_returns
    exact ⟨ret_intk HS.out.symm, by go_grown⟩
def signF (a b : Int) : Int := if a = b then 0 else if a < b then -1 else 1
def cmpF (x y : WI) : Int := if x.form && y.form then signF x.val y.val else 0
theorem size_sign {x y : WI} (hx : x.wf) (hy : y.wf) : sizeF x y = signF (x.hi * 18446744073709551616 + x.lo) (y.hi * 18446744073709551616 + y.lo) := by
  obtain ⟨⟨a1, a2⟩, a3, a4⟩ := hx
  obtain ⟨⟨b1, b2⟩, b3, b4⟩ := hy
  unfold sizeF signF
  by_cases h : y.hi < x.hi ∨ (x.hi = y.hi ∧ y.lo < x.lo)
  · rw [if_pos h, if_neg (by omega), if_neg (by omega)]
  · rw [if_neg h]
    by_cases h2 : x.hi = y.hi ∧ x.lo = y.lo
    · rw [if_pos h2, if_pos (by omega)]
    · rw [if_neg h2, if_neg (by omega), if_pos (by omega)]
theorem sign_neg (a b : Int) : signF (-a) (-b) = signF b a := by
  unfold signF
  by_cases h : a = b
  · rw [if_pos (by omega), if_pos (by omega)]
  · by_cases h2 : b < a
    · rw [if_neg (by omega), if_pos (by omega), if_neg (by omega), if_pos h2]
    · rw [if_neg (by omega), if_neg (by omega), if_neg (by omega), if_neg h2]
theorem form_pos {x : WI} (hw : x.wf) (h : x.form = true) (hn : x.neg = true) : x.val < 0 := by
  obtain ⟨⟨a1, a2⟩, a3, a4⟩ := hw
  unfold WI.form at h
  rw [hn] at h
  simp at h
  unfold WI.val
  rw [if_pos hn]
  omega
theorem val_nn {x : WI} (hw : x.wf) (hn : x.neg = false) : 0 ≤ x.val := by
  obtain ⟨⟨a1, a2⟩, a3, a4⟩ := hw
  unfold WI.val
  rw [hn, if_neg (by simp)]
  omega
set_option maxRecDepth 100000 in
theorem wcmp_any (x y : WI) (w : World) (hx : x.wf) (hy : y.wf) : Calls Tryz.prog 89 #[x.v, y.v] w fun e w' => e = .returned (.int .i64 (cmpF x y)) ∧ Below w.heap.size w w' := by
  have HX := Lib.hid hx
  have HY := Lib.hid hy
  have HS1 := Lib.hid (size_sign hx hy)
  have HS2 := Lib.hid (size_sign hy hx)
  have HC : Hid (cmpF x y = if x.form && y.form then signF x.val y.val else 0) := Lib.hid rfl
  have HP1 := Lib.hid (fun h => form_pos hx h)
  have HP2 := Lib.hid (fun h => form_pos hy h)
  have HN1 := Lib.hid (fun h => val_nn hx h)
  have HN2 := Lib.hid (fun h => val_nn hy h)
  clear hx hy
  have hbA : Below w.heap.size w (w.alloc (.cells x.cs 96)) := by go_grown
  have hbA2 : Below w.heap.size w ((w.alloc (.cells x.cs 96)).alloc (.cells y.cs 96)) := by go_grown
  have kx := keepA (.cells y.cs 96) (heap_alloc_new w (.cells x.cs 96))
  have ky := heap_alloc_new (w.alloc (.cells x.cs 96)) (.cells y.cs 96)
  obtain ⟨n, hi, lo⟩ := x
  obtain ⟨n', hi', lo'⟩ := y
  dsimp only [WI.v, WI.cs] at *
  have hz : (w.alloc (.cells #[.bool n, .int .u64 hi, .int .u64 lo] 96)).heap.size = w.heap.size + 1 := by simp
  rw [hz] at ky
  have KX := Lib.hid kx
  have KY := Lib.hid ky
  have HB := Lib.hid hbA2
  clear kx ky hbA hbA2 hz
  cases hfx : WI.form ⟨n, hi, lo⟩
  · have HR := Lib.hid (show cmpF ⟨n, hi, lo⟩ ⟨n', hi', lo'⟩ = 0 by rw [HC.out, hfx]; rfl)
    go_enter Tryz.func89, Tryz.ntmps89
    go_wp2_with fail
    refine (wform_any ⟨n, hi, lo⟩ _ HX.out).mono ?_
    rintro e w1 ⟨rfl, hb1⟩
    rw [hfx]
    have HB1 := Lib.hid (HB.out.trans (hb1.mono HB.out.size))
    clear hb1
    go_wp2_with fail
    go_returns
    exact ⟨ret_intk HR.out.symm, HB1.out⟩
  · cases hfy : WI.form ⟨n', hi', lo'⟩
    · have HR := Lib.hid (show cmpF ⟨n, hi, lo⟩ ⟨n', hi', lo'⟩ = 0 by rw [HC.out, hfx, hfy]; rfl)
      go_enter Tryz.func89, Tryz.ntmps89
      go_wp2_with fail
      refine (wform_any ⟨n, hi, lo⟩ _ HX.out).mono ?_
      rintro e w1 ⟨rfl, hb1⟩
      rw [hfx]
      have hy1 := keep hb1 KY.out
      have y0 := cell_at hy1 0
      have y1 := cell_at hy1 1
      have y2 := cell_at hy1 2
      simp at y0 y1 y2
      have HB1 := Lib.hid (HB.out.trans (hb1.mono HB.out.size))
      clear hb1 hy1
      go_wp2_with fail
      refine (wform_any ⟨n', hi', lo'⟩ _ HY.out).mono ?_
      rintro e w2 ⟨rfl, hb2⟩
      rw [hfy]
      have HB2 := Lib.hid (HB1.out.trans (hb2.mono HB1.out.size))
      clear hb2
      go_wp2_with fail
      go_returns
      exact ⟨ret_intk HR.out.symm, HB2.out⟩
    · have HR := Lib.hid (show cmpF ⟨n, hi, lo⟩ ⟨n', hi', lo'⟩ = signF (WI.val ⟨n, hi, lo⟩) (WI.val ⟨n', hi', lo'⟩) by rw [HC.out, hfx, hfy]; rfl)
      go_enter Tryz.func89, Tryz.ntmps89
      go_wp2_with fail
      refine (wform_any ⟨n, hi, lo⟩ _ HX.out).mono ?_
      rintro e w1 ⟨rfl, hb1⟩
      rw [hfx]
      have hx1 := keep hb1 KX.out
      have hy1 := keep hb1 KY.out
      have y0 := cell_at hy1 0
      have y1 := cell_at hy1 1
      have y2 := cell_at hy1 2
      simp at y0 y1 y2
      have HB1 := Lib.hid (HB.out.trans (hb1.mono HB.out.size))
      have HX1 := Lib.hid hx1
      have HY1 := Lib.hid hy1
      clear hb1 hy1 hx1
      go_wp2_with fail
      refine (wform_any ⟨n', hi', lo'⟩ _ HY.out).mono ?_
      rintro e w2 ⟨rfl, hb2⟩
      rw [hfy]
      have hx2 := keep hb2 HX1.out
      have hy2 := keep hb2 HY1.out
      clear y0 y1 y2
      have x0 := cell_at hx2 0
      have x1 := cell_at hx2 1
      have x2 := cell_at hx2 2
      have y0 := cell_at hy2 0
      have y1 := cell_at hy2 1
      have y2 := cell_at hy2 2
      simp at x0 x1 x2 y0 y1 y2
      have HB2 := Lib.hid (HB1.out.trans (hb2.mono HB1.out.size))
      have HF := Lib.hid (And.intro hfx hfy)
      clear hb2 hx2 hy2 hfx hfy
      cases n <;> cases n'
      · have HV := Lib.hid (HS1.out.trans (show signF _ _ = signF (WI.val ⟨false, hi, lo⟩) (WI.val ⟨false, hi', lo'⟩) from rfl))
        go_wp2_with fail
        refine (wsize_any ⟨false, hi, lo⟩ ⟨false, hi', lo'⟩ _).mono ?_
        rintro e w3 ⟨rfl, hb3⟩
        have HB3 := Lib.hid (HB2.out.trans (hb3.mono HB2.out.size))
        clear hb3
        go_wp2_with fail
        go_returns
        exact ⟨ret_intk (HV.out.trans HR.out.symm), HB3.out⟩
      · have HV := Lib.hid (show signF (WI.val ⟨false, hi, lo⟩) (WI.val ⟨true, hi', lo'⟩) = 1 by
          have a := HN1.out rfl
          have b := HP2.out HF.out.2 rfl
          unfold signF; rw [if_neg (by omega), if_neg (by omega)])
        go_wp2_with fail
        go_returns
        exact ⟨ret_intk (HV.out.symm.trans HR.out.symm), HB2.out⟩
      · have HV := Lib.hid (show signF (WI.val ⟨true, hi, lo⟩) (WI.val ⟨false, hi', lo'⟩) = -1 by
          have a := HP1.out HF.out.1 rfl
          have b := HN2.out rfl
          unfold signF; rw [if_neg (by omega), if_pos (by omega)])
        go_wp2_with fail
        go_returns
        exact ⟨ret_intk (HV.out.symm.trans HR.out.symm), HB2.out⟩
      · have HV := Lib.hid (HS2.out.trans ((sign_neg _ _).symm.trans (show signF _ _ = signF (WI.val ⟨true, hi, lo⟩) (WI.val ⟨true, hi', lo'⟩) from rfl)))
        go_wp2_with fail
        refine (wsize_any ⟨true, hi', lo'⟩ ⟨true, hi, lo⟩ _).mono ?_
        rintro e w3 ⟨rfl, hb3⟩
        have HB3 := Lib.hid (HB2.out.trans (hb3.mono HB2.out.size))
        clear hb3
        go_wp2_with fail
        go_returns
        exact ⟨ret_intk (HV.out.trans HR.out.symm), HB3.out⟩
end Go.Proofs.YtnhlnnehpmjeiaaGreatDoor
namespace Go.Proofs.YtnhlnnehpmjeiaaGreatDoor
open Go.RowKit
set_option linter.unusedVariables false
theorem cmpNaN_any (a : Int) (w : World) : Calls Tryz.prog 219 #[.int .i64 a] w fun e w' => e = .returned (.bool false) ∧ w = w' := by
  go_enter Tryz.func219, Tryz.ntmps219
  go_wp2_with fail
  go_returns
  exact ⟨ret_bool (by simp), rfl⟩
theorem cmpCompare_any (a b : Int) (w : World) : Calls Tryz.prog 218 #[.int .i64 a, .int .i64 b] w fun e w' => e = .returned (.int .i64 (signF a b)) ∧ w = w' := by
  have HS := Lib.hid (show signF a b = if a = b then 0 else if a < b then -1 else 1 from rfl)
  go_enter Tryz.func218, Tryz.ntmps218
  go_wp2_with fail
  refine (cmpNaN_any _ _).mono ?_
  rintro e w1 ⟨rfl, rfl⟩
  go_wp2_with fail
  refine (cmpNaN_any _ _).mono ?_
  rintro e w1 ⟨rfl, rfl⟩
  by_cases h1 : a < b
  · have g1 : decide (a < b) = true := decide_eq_true h1
    go_wp2_with fail
    go_returns
    exact ⟨ret_intk (by rw [HS.out, if_neg (by omega), if_pos h1]), rfl⟩
  · by_cases h2 : b < a
    · have g1 : decide (a < b) = false := decide_eq_false h1
      have g2 : decide (b < a) = true := decide_eq_true h2
      go_wp2_with fail
      go_returns
      exact ⟨ret_intk (by rw [HS.out, if_neg (by omega), if_neg (by omega)]), rfl⟩
    · have g1 : decide (a < b) = false := decide_eq_false h1
      have g2 : decide (b < a) = false := decide_eq_false h2
      go_wp2_with fail
      go_returns
      exact ⟨ret_intk (by rw [HS.out, if_pos (by omega)]), rfl⟩
/-- The first that is not nothing. -/
def orF : List Int → Int
  | [] => 0
  | x :: l => if x = 0 then orF l else x
theorem orF_skip {l : List Int} {k : Nat} (h : ∀ j < k, l.getD j 0 = 0) (hk : k ≤ l.length) : orF l = orF (l.drop k) := by
  induction k with
  | zero => simp
  | succ k ih =>
    rw [ih (fun j hj => h j (by omega)) (by omega), List.drop_eq_getElem_cons (by omega)]
    have := h k (by omega)
    rw [List.getD_eq_getElem?_getD, List.getElem?_eq_getElem (by omega)] at this
    simp only [Option.getD_some] at this
    show (if l[k] = 0 then orF (l.drop (k + 1)) else l[k]) = _
    rw [if_pos this]
theorem orF_at {l : List Int} {k : Nat} (h : ∀ j < k, l.getD j 0 = 0) (hk : k < l.length) (hv : l.getD k 0 ≠ 0) : orF l = l.getD k 0 := by
  rw [orF_skip h (by omega), List.drop_eq_getElem_cons hk]
  rw [List.getD_eq_getElem?_getD, List.getElem?_eq_getElem hk] at hv ⊢
  simp only [Option.getD_some] at hv ⊢
  show (if l[k] = 0 then orF (l.drop (k + 1)) else l[k]) = _
  rw [if_neg hv]
set_option maxHeartbeats 2000000 in
theorem cmpOr_any (b : Nat) (l : List Int) (n : Nat) (hn : l.length = n) (hn2 : n ≤ 100) (w : World) (hc : ∀ j < n, w.cell? ⟨b, j, none⟩ = some (.int .i64 (l.getD j 0))) : Calls Tryz.prog 217 #[.slice (some ⟨b, 0, none⟩) n n] w fun e w' => e = .returned (.int .i64 (orF l)) ∧ w = w' := by
  have HC := Lib.hid hc
  have HN := Lib.hid hn
  clear hc hn
  go_enter Tryz.func217, Tryz.ntmps217
  go_wp2_with fail
  go_loop [8] (fun i => ∃ k : Nat, i = .int .i64 (k : Int) ∧ k ≤ n ∧ ∀ j < k, l.getD j 0 = 0) (fun i => n - (intOf i).toNat)
  case atStart => exact ⟨0, rfl, Nat.zero_le _, fun j hj => absurd hj (by omega)⟩
  case round =>
    obtain ⟨k, rfl, hk, hz⟩ := hrel
    have HZ := Lib.hid hz
    clear hz
    by_cases h1 : k < n
    · have hck := HC.out k h1
      have g0 : (0 : Int) ≤ (k : Int) := by omega
      have g1 : decide ((k : Int) < (n : Int)) = true := by simp; omega
      have g2 : (k : Int) < (n : Int) := by omega
      by_cases h2 : l.getD k 0 = 0
      · rw [h2] at hck
        go_wp2_with fail
        go_round
        · exact ⟨k + 1, by go_num, by omega, fun j hj => by
            rcases (by omega : j < k ∨ j = k) with h | rfl
            · exact HZ.out j h
            · exact h2⟩
        · simp [intOf]; omega
      · have HF := Lib.hid (orF_at HZ.out (by rw [HN.out]; exact h1) h2)
        obtain ⟨y, hy⟩ : ∃ y, l.getD k 0 = y := ⟨_, rfl⟩
        rw [hy] at hck h2 HF
        have g3 : (y == (0 : Int)) = false := by simpa using h2
        clear hy
        go_wp2_with fail
        go_returns
        exact ⟨ret_intk HF.out.symm, rfl⟩
    · have g1 : decide ((k : Int) < (n : Int)) = false := by simp; omega
      have HF : Hid (orF l = 0) := Lib.hid (by
        rw [orF_skip HZ.out (by have := HN.out; omega), List.drop_of_length_le (by have := HN.out; omega)]
        rfl)
      go_wp2_with fail
      go_returns
      exact ⟨ret_intk HF.out.symm, rfl⟩
end Go.Proofs.YtnhlnnehpmjeiaaGreatDoor
namespace Go.Proofs.YtnhlnnehpmjeiaaGreatDoor
open Go.RowKit
set_option linter.unusedVariables false
section
variable {P : Program} {l : List Oper} {Q : Exit → Act → World → Prop} {a0 : Act} {w0 : World}
theorem putAll_size {vs : Nat → Value} : ∀ (l : List Oper) (k : Nat) (a : Act), (putAll vs k l a).tmps.size = a.tmps.size
  | [], _, _ => rfl
  | o :: r, k, a => by
    unfold putAll
    rw [putAll_size r (k + 1) _]
    cases o.dst <;> simp [Act.put]
theorem putAll_miss {vs : Nat → Value} {d : Nat} : ∀ (l : List Oper) (k : Nat) (a : Act), (l.all fun o => o.dst != some d) = true → (putAll vs k l a).tmps[d]? = a.tmps[d]?
  | [], _, _, _ => rfl
  | o :: r, k, a, h => by
    rw [List.all_cons, Bool.and_eq_true] at h
    unfold putAll
    rw [putAll_miss r (k + 1) _ h.2]
    cases hd : o.dst with
    | none => rfl
    | some e =>
      have : e ≠ d := fun he => by subst he; rw [hd] at h; simp at h
      simp [Act.put, this]
theorem putAll_hit {vs : Nat → Value} {j d : Nat} {o : Oper} (hn : noDup l = true) (ho : l[j]? = some o) (hd : o.dst = some d) (hs : d < a0.tmps.size) : (putAll vs 0 l a0).tmps[d]? = some (vs j) := by
  have h := putAll_upd (vs := vs) (v := vs j) l 0 j a0 o hn ho
  have e : putAll (updV vs (0 + j) (vs j)) 0 l a0 = putAll vs 0 l a0 := putAll_congr l 0 a0 (fun i _ => by
    unfold updV
    by_cases hi : i = 0 + j
    · rw [if_pos hi, hi, Nat.zero_add]
    · rw [if_neg hi])
  rw [e] at h
  rw [← h, hd]
  have hs' : d < (putAll vs 0 l a0).tmps.size := by rw [putAll_size]; exact hs
  simp [Act.put, hs']
/-- What a frame is while a region draws. -/
structure FrameIs (l : List Oper) (vs : Nat → Value) (a0 A : Act) : Prop where
  hit : ∀ (j d : Nat), (l[j]?).bind (·.dst) = some d → d < a0.tmps.size → A.tmps[d]? = some (vs j)
  miss : ∀ (d : Nat), (l.all fun o => o.dst != some d) = true → A.tmps[d]? = a0.tmps[d]?
theorem frameIs_put (hn : noDup l = true) (vs : Nat → Value) : FrameIs l vs a0 (putAll vs 0 l a0) := by
  refine ⟨fun j d h hs => ?_, fun d h => putAll_miss l 0 a0 h⟩
  cases ho : l[j]? with
  | none => rw [ho] at h; cases h
  | some o => rw [ho] at h; exact putAll_hit hn ho h hs
/-- The rule. -/
theorem wp_region_frame {id : Nat} (hm : P.follows .mixedOrders = true) (hn : noDup l = true) (he : edgesB 0 l = true) (R : Nat → Value → World → Prop) (stable : ∀ i v w w', R i v w → Below w.heap.size w w' → R i v w')
    (step : ∀ (vs : Nat → Value) (w : World) (i : Nat) (o : Oper) (A : Act), FrameIs l vs a0 A → Below w0.heap.size w0 w → l[i]? = some o → (∀ e ∈ o.after, Region.binds .any e = true → R e.on (vs e.on) w) → StepGoal P l o A w (R i) Q)
    (fin : ∀ (vs : Nat → Value) (w : World), Below w0.heap.size w0 w → (∀ i, i < l.length → R i (vs i) w) → Q .normal (putAll vs 0 l a0) w) :
    (Code.region id l.toArray true).wp P Q a0 w0 :=
  wp_region_grow hm hn he R stable (fun vs w i o hb ho hd => step vs w i o _ (frameIs_put hn vs) hb ho hd) fin
theorem FrameIs.m {vs : Nat → Value} {A : Act} (F : FrameIs l vs a0 A) {d : Nat} {v : Value} (h1 : (l.all fun o => o.dst != some d) = true) (hv : a0.tmps[d]? = some v) : A.tmps[d]?.getD undef = v := by
  rw [F.miss d h1, hv]; rfl
/-- The same without the frame that was. -/
def FrameL (l : List Oper) (vs : Nat → Value) (n : Nat) (A : Act) : Prop := ∀ (j d : Nat), (l[j]?).bind (·.dst) = some d → d < n → A.tmps[d]? = some (vs j)
theorem FrameIs.light {vs : Nat → Value} {A : Act} (F : FrameIs l vs a0 A) {n : Nat} (h : a0.tmps.size = n) : FrameL l vs n A := fun j d h1 h2 => F.hit j d h1 (by rw [h]; exact h2)
theorem FrameL.h {vs : Nat → Value} {A : Act} {n : Nat} (F : FrameL l vs n A) {j d : Nat} {v : Value} (h1 : (l[j]?).bind (·.dst) = some d) (h2 : d < n) (hv : vs j = v) : A.tmps[d]?.getD undef = v := by
  rw [F j d h1 h2, hv]; rfl
theorem frame_wanted {vs : Nat → Value} {A : Act} {n : Nat} (F : FrameL l vs n A) {o : Oper} {g d : Nat} {b c : Bool} (hg : o.guard = some (g, b)) (h1 : (l[g]?).bind (·.dst) = some d) (h2 : d < n) (hv : vs g = .bool c) :
    Region.wanted o (yielded l.toArray A.tmps) = (c == b) := by
  unfold Region.wanted yielded
  rw [hg]
  simp only [List.getElem?_toArray]
  rw [h1]
  simp only [Option.bind_some]
  rw [F g d h1 h2, hv]
  cases c <;> cases b <;> rfl
theorem step_yes {vs : Nat → Value} {A : Act} {n : Nat} {w : World} {R : Value → World → Prop} (F : FrameL l vs n A) {o : Oper} {g d : Nat} {b : Bool} (hg : o.guard = some (g, b)) (h1 : (l[g]?).bind (·.dst) = some d) (h2 : d < n) (hv : vs g = .bool b)
    (h : o.wp P A w (fun a' w' => ∃ v, a' = A.put o.dst v ∧ R v w' ∧ Below w.heap.size w w') Q) : StepGoal P l o A w R Q := by
  unfold StepGoal
  rw [if_pos (by rw [frame_wanted F hg h1 h2 hv]; cases b <;> rfl)]
  exact h
theorem step_not {vs : Nat → Value} {A : Act} {n : Nat} {w : World} {R : Value → World → Prop} (F : FrameL l vs n A) {o : Oper} {g d : Nat} {b : Bool} (hg : o.guard = some (g, b)) (h1 : (l[g]?).bind (·.dst) = some d) (h2 : d < n) (hv : vs g = .bool !b)
    (h : R undef w) : StepGoal P l o A w R Q := by
  unfold StepGoal
  rw [if_neg (by rw [frame_wanted F hg h1 h2 hv]; cases b <;> simp)]
  exact h
/-- An operation that reads. -/
theorem step_run {A : Act} {w : World} {R : Value → World → Prop} {o : Oper} {v : Value} (hv : (execOp A.eval o).run P w = .ok (.value v) w) (hR : R v w) :
    o.wp P A w (fun a' w' => ∃ v, a' = A.put o.dst v ∧ R v w' ∧ Below w.heap.size w w') Q := by
  unfold Oper.wp
  rw [hv]
  exact ⟨v, rfl, hR, Below.refl _ _⟩
end
end Go.Proofs.YtnhlnnehpmjeiaaGreatDoor
