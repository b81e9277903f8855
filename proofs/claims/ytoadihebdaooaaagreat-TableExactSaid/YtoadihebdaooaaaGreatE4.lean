/- Contracts of the great whole numbers that fields need: Form, size, Cmp. · Contracts of the great whole numbers that fields need: made, OfWord, Of, Neg, Sub. -/
import Derived.Test.YtoadihebdaooaaaGreatE3
import Derived.Laws.BitsAllLaws
import Derived.Laws.Externs
namespace Go.Proofs.YtoadihebdaooaaaGreat
open Go.RowKit
set_option linter.unusedVariables false
/-- A great number. -/
structure WI where
  neg : Bool
  hi : Int
  lo : Int
def WI.v (x : WI) : Value := .agg #[.bool x.neg, .int .u64 x.hi, .int .u64 x.lo]
def WI.cs (x : WI) : Array Value := #[.bool x.neg, .int .u64 x.hi, .int .u64 x.lo]
def WI.wf (x : WI) : Prop := (0 ≤ x.hi ∧ x.hi ≤ 18446744073709551615) ∧ 0 ≤ x.lo ∧ x.lo ≤ 18446744073709551615
def WI.val (x : WI) : Int := if x.neg then -(x.hi * 18446744073709551616 + x.lo) else x.hi * 18446744073709551616 + x.lo
def WI.form (x : WI) : Bool := decide (x.hi < 9223372036854775808) && (!x.neg || !(x.hi == 0 && x.lo == 0))
theorem or64_ne {a b : Int} (h1 : 0 ≤ a) (h2 : a ≤ 18446744073709551615) (h3 : 0 ≤ b) (h4 : b ≤ 18446744073709551615) : (bits BinOp.or .u64 a b != 0) = !(a == 0 && b == 0) := by
  rw [u64_or a b h1 (by omega) h3 (by omega)]
  obtain ⟨a, rfl⟩ := Int.eq_ofNat_of_zero_le h1
  obtain ⟨b, rfl⟩ := Int.eq_ofNat_of_zero_le h3
  simp only [Int.toNat_natCast]
  by_cases e : a = 0 ∧ b = 0
  · obtain ⟨rfl, rfl⟩ := e; rfl
  · have h : a ||| b ≠ 0 := by
      intro h
      apply e
      constructor
      · have := Nat.left_le_or (n := a) (m := b); omega
      · have := Nat.right_le_or (n := a) (m := b); omega
    have e2 : ((a : Int) == 0 && (b : Int) == 0) = false := by
      by_cases ha : a = 0
      · have hb : b ≠ 0 := fun hb => e ⟨ha, hb⟩
        simp [hb]
      · simp [ha]
    rw [e2]
    simp only [Bool.not_false, bne_iff_ne]
    omega
set_option maxRecDepth 100000 in
theorem wform_any (x : WI) (w : World) (h : x.wf) : Calls Tryz.prog 159 #[x.v] w fun e w' => e = .returned (.bool x.form) ∧ Below w.heap.size w w' := by
  obtain ⟨n, hi, lo⟩ := x
  obtain ⟨⟨h1, h2⟩, h3, h4⟩ := h
  dsimp only [WI.v] at *
  have HO := Lib.hid (or64_ne h1 h2 h3 h4)
  by_cases ht : hi < 9223372036854775808
  · have e1 : decide (hi < 9223372036854775808) = true := by simp [ht]
    cases n
    · go_enter Tryz.func159, Tryz.ntmps159
      go_wp2_with fail
      go_returns
      exact ⟨by simp [WI.form, ht], by go_grown⟩
    · go_enter Tryz.func159, Tryz.ntmps159
      go_wp2_with fail
      go_returns
      exact ⟨ret_bool (by rw [HO.out]; simp [WI.form, ht]), by go_grown⟩
  · have e1 : decide (hi < 9223372036854775808) = false := by simp [ht]
    go_enter Tryz.func159, Tryz.ntmps159
    go_wp2_with fail
    go_returns
    exact ⟨ret_bool (by unfold WI.form; rw [show decide (hi < 9223372036854775808) = false from e1]; rfl), by go_grown⟩
def sizeF (x y : WI) : Int := if y.hi < x.hi ∨ (x.hi = y.hi ∧ y.lo < x.lo) then 1 else if x.hi = y.hi ∧ x.lo = y.lo then 0 else -1
set_option maxRecDepth 100000 in
theorem wsize_any (x y : WI) (w : World) : Calls Tryz.prog 170 #[x.v, y.v] w fun e w' => e = .returned (.int .i64 (sizeF x y)) ∧ Below w.heap.size w w' := by
  obtain ⟨n, hi, lo⟩ := x
  obtain ⟨n', hi', lo'⟩ := y
  dsimp only [WI.v] at *
  rcases (by omega : hi' < hi ∨ (hi = hi' ∧ lo' < lo) ∨ (hi = hi' ∧ lo = lo') ∨ (hi = hi' ∧ lo < lo') ∨ hi < hi') with h | ⟨h, j⟩ | ⟨h, j⟩ | ⟨h, j⟩ | h
  · have HS := Lib.hid (show sizeF ⟨n, hi, lo⟩ ⟨n', hi', lo'⟩ = 1 by unfold sizeF; rw [if_pos (.inl h)])
    have e1 : decide (hi' < hi) = true := by simp [h]
    clear h
    go_enter Tryz.func170, Tryz.ntmps170
    go_wp2_with fail
    go_returns
    exact ⟨ret_intk HS.out.symm, by go_grown⟩
  · subst h
    have HS := Lib.hid (show sizeF ⟨n, hi, lo⟩ ⟨n', hi, lo'⟩ = 1 by unfold sizeF; rw [if_pos (.inr ⟨rfl, j⟩)])
    have e1 : decide (hi < hi) = false := by simp
    have e2 : decide (lo' < lo) = true := by simp [j]
    clear j
    go_enter Tryz.func170, Tryz.ntmps170
    go_wp2_with fail
    go_returns
    exact ⟨ret_intk HS.out.symm, by go_grown⟩
  · subst h; subst j
    have HS := Lib.hid (show sizeF ⟨n, hi, lo⟩ ⟨n', hi, lo⟩ = 0 by unfold sizeF; rw [if_neg (by simp), if_pos ⟨rfl, rfl⟩])
    have e1 : decide (hi < hi) = false := by simp
    have e2 : decide (lo < lo) = false := by simp
    go_enter Tryz.func170, Tryz.ntmps170
    go_wp2_with fail
    go_returns
    exact ⟨ret_intk HS.out.symm, by go_grown⟩
  · subst h
    have HS := Lib.hid (show sizeF ⟨n, hi, lo⟩ ⟨n', hi, lo'⟩ = -1 by unfold sizeF; rw [if_neg (by simp; omega), if_neg (by simp; omega)])
    have e1 : decide (hi < hi) = false := by simp
    have e2 : decide (lo' < lo) = false := by simp; omega
    have e3 : (lo == lo') = false := by simp; omega
    clear j
    go_enter Tryz.func170, Tryz.ntmps170
    go_wp2_with fail
    go_returns
    exact ⟨ret_intk HS.out.symm, by go_grown⟩
  · have HS := Lib.hid (show sizeF ⟨n, hi, lo⟩ ⟨n', hi', lo'⟩ = -1 by unfold sizeF; rw [if_neg (by simp; omega), if_neg (by simp; omega)])
    have e1 : decide (hi' < hi) = false := by simp; omega
    have e2 : (hi == hi') = false := by simp; omega
    clear h
    go_enter Tryz.func170, Tryz.ntmps170
    go_wp2_with fail
    go_returns
    exact ⟨ret_intk HS.out.symm, by go_grown⟩
def signF (a b : Int) : Int := if a = b then 0 else if a < b then -1 else 1
def cmpF (x y : WI) : Int := if x.form && y.form then signF x.val y.val else 0
theorem size_sign {x y : WI} (hx : x.wf) (hy : y.wf) : sizeF x y = signF (x.hi * 18446744073709551616 + x.lo) (y.hi * 18446744073709551616 + y.lo) := by
  obtain ⟨⟨a1, a2⟩, a3, a4⟩ := hx
  obtain ⟨⟨b1, b2⟩, b3, b4⟩ := hy
  unfold sizeF signF
  by_cases h : y.hi < x.hi ∨ (x.hi = y.hi ∧ y.lo < x.lo)
  · rw [if_pos h, if_neg (by omega), if_neg (by omega)]
  · rw [if_neg h]
    by_cases h2 : x.hi = y.hi ∧ x.lo = y.lo
    · rw [if_pos h2, if_pos (by omega)]
    · rw [if_neg h2, if_neg (by omega), if_pos (by omega)]
theorem sign_neg (a b : Int) : signF (-a) (-b) = signF b a := by
  unfold signF
  by_cases h : a = b
  · rw [if_pos (by omega), if_pos (by omega)]
  · by_cases h2 : b < a
    · rw [if_neg (by omega), if_pos (by omega), if_neg (by omega), if_pos h2]
    · rw [if_neg (by omega), if_neg (by omega), if_neg (by omega), if_neg h2]
theorem form_pos {x : WI} (hw : x.wf) (h : x.form = true) (hn : x.neg = true) : x.val < 0 := by
  obtain ⟨⟨a1, a2⟩, a3, a4⟩ := hw
  unfold WI.form at h
  rw [hn] at h
  simp at h
  unfold WI.val
  rw [if_pos hn]
  omega
theorem val_nn {x : WI} (hw : x.wf) (hn : x.neg = false) : 0 ≤ x.val := by
  obtain ⟨⟨a1, a2⟩, a3, a4⟩ := hw
  unfold WI.val
  rw [hn, if_neg (by simp)]
  omega
set_option maxRecDepth 100000 in
theorem wcmp_any (x y : WI) (w : World) (hx : x.wf) (hy : y.wf) : Calls Tryz.prog 150 #[x.v, y.v] w fun e w' => e = .returned (.int .i64 (cmpF x y)) ∧ Below w.heap.size w w' := by
  have HX := Lib.hid hx
  have HY := Lib.hid hy
  have HS1 := Lib.hid (size_sign hx hy)
  have HS2 := Lib.hid (size_sign hy hx)
  have HC : Hid (cmpF x y = if x.form && y.form then signF x.val y.val else 0) := Lib.hid rfl
  have HP1 := Lib.hid (fun h => form_pos hx h)
  have HP2 := Lib.hid (fun h => form_pos hy h)
  have HN1 := Lib.hid (fun h => val_nn hx h)
  have HN2 := Lib.hid (fun h => val_nn hy h)
  clear hx hy
  have hbA : Below w.heap.size w (w.alloc (.cells x.cs 148)) := by go_grown
  have hbA2 : Below w.heap.size w ((w.alloc (.cells x.cs 148)).alloc (.cells y.cs 148)) := by go_grown
  have kx := keepA (.cells y.cs 148) (heap_alloc_new w (.cells x.cs 148))
  have ky := heap_alloc_new (w.alloc (.cells x.cs 148)) (.cells y.cs 148)
  obtain ⟨n, hi, lo⟩ := x
  obtain ⟨n', hi', lo'⟩ := y
  dsimp only [WI.v, WI.cs] at *
  have hz : (w.alloc (.cells #[.bool n, .int .u64 hi, .int .u64 lo] 148)).heap.size = w.heap.size + 1 := by simp
  rw [hz] at ky
  have KX := Lib.hid kx
  have KY := Lib.hid ky
  have HB := Lib.hid hbA2
  clear kx ky hbA hbA2 hz
  cases hfx : WI.form ⟨n, hi, lo⟩
  · have HR := Lib.hid (show cmpF ⟨n, hi, lo⟩ ⟨n', hi', lo'⟩ = 0 by rw [HC.out, hfx]; rfl)
    go_enter Tryz.func150, Tryz.ntmps150
    go_wp2_with fail
    refine (wform_any ⟨n, hi, lo⟩ _ HX.out).mono ?_
    rintro e w1 ⟨rfl, hb1⟩
    rw [hfx]
    have HB1 := Lib.hid (HB.out.trans (hb1.mono HB.out.size))
    clear hb1
    go_wp2_with fail
    go_returns
    exact ⟨ret_intk HR.out.symm, HB1.out⟩
  · cases hfy : WI.form ⟨n', hi', lo'⟩
    · have HR := Lib.hid (show cmpF ⟨n, hi, lo⟩ ⟨n', hi', lo'⟩ = 0 by rw [HC.out, hfx, hfy]; rfl)
      go_enter Tryz.func150, Tryz.ntmps150
      go_wp2_with fail
      refine (wform_any ⟨n, hi, lo⟩ _ HX.out).mono ?_
      rintro e w1 ⟨rfl, hb1⟩
      rw [hfx]
      have hy1 := keep hb1 KY.out
      have y0 := cell_at hy1 0
      have y1 := cell_at hy1 1
      have y2 := cell_at hy1 2
      simp at y0 y1 y2
      have HB1 := Lib.hid (HB.out.trans (hb1.mono HB.out.size))
      clear hb1 hy1
      go_wp2_with fail
      refine (wform_any ⟨n', hi', lo'⟩ _ HY.out).mono ?_
      rintro e w2 ⟨rfl, hb2⟩
      rw [hfy]
      have HB2 := Lib.hid (HB1.out.trans (hb2.mono HB1.out.size))
      clear hb2
      go_wp2_with fail
      go_returns
      exact ⟨ret_intk HR.out.symm, HB2.out⟩
    · have HR := Lib.hid (show cmpF ⟨n, hi, lo⟩ ⟨n', hi', lo'⟩ = signF (WI.val ⟨n, hi, lo⟩) (WI.val ⟨n', hi', lo'⟩) by rw [HC.out, hfx, hfy]; rfl)
      go_enter Tryz.func150, Tryz.ntmps150
      go_wp2_with fail
      refine (wform_any ⟨n, hi, lo⟩ _ HX.out).mono ?_
      rintro e w1 ⟨rfl, hb1⟩
      rw [hfx]
      have hx1 := keep hb1 KX.out
      have hy1 := keep hb1 KY.out
      have y0 := cell_at hy1 0
      have y1 := cell_at hy1 1
      have y2 := cell_at hy1 2
      simp at y0 y1 y2
      have HB1 := Lib.hid (HB.out.trans (hb1.mono HB.out.size))
      have HX1 := Lib.hid hx1
      have HY1 := Lib.hid hy1
      clear hb1 hy1 hx1
      go_wp2_with fail
      refine (wform_any ⟨n', hi', lo'⟩ _ HY.out).mono ?_
      rintro e w2 ⟨rfl, hb2⟩
      rw [hfy]
      have hx2 := keep hb2 HX1.out
      have hy2 := keep hb2 HY1.out
      clear y0 y1 y2
      have x0 := cell_at hx2 0
      have x1 := cell_at hx2 1
      have x2 := cell_at hx2 2
      have y0 := cell_at hy2 0
      have y1 := cell_at hy2 1
      have y2 := cell_at hy2 2
      simp at x0 x1 x2 y0 y1 y2
      have HB2 := Lib.hid (HB1.out.trans (hb2.mono HB1.out.size))
      have HF := Lib.hid (And.intro hfx hfy)
      clear hb2 hx2 hy2 hfx hfy
      cases n <;> cases n'
      · have HV := Lib.hid (HS1.out.trans (show signF _ _ = signF (WI.val ⟨false, hi, lo⟩) (WI.val ⟨false, hi', lo'⟩) from rfl))
        go_wp2_with fail
        refine (wsize_any ⟨false, hi, lo⟩ ⟨false, hi', lo'⟩ _).mono ?_
        rintro e w3 ⟨rfl, hb3⟩
        have HB3 := Lib.hid (HB2.out.trans (hb3.mono HB2.out.size))
        clear hb3
        go_wp2_with fail
        go_returns
        exact ⟨ret_intk (HV.out.trans HR.out.symm), HB3.out⟩
      · have HV := Lib.hid (show signF (WI.val ⟨false, hi, lo⟩) (WI.val ⟨true, hi', lo'⟩) = 1 by
          have a := HN1.out rfl
          have b := HP2.out HF.out.2 rfl
          unfold signF; rw [if_neg (by omega), if_neg (by omega)])
        go_wp2_with fail
        go_returns
        exact ⟨ret_intk (HV.out.symm.trans HR.out.symm), HB2.out⟩
      · have HV := Lib.hid (show signF (WI.val ⟨true, hi, lo⟩) (WI.val ⟨false, hi', lo'⟩) = -1 by
          have a := HP1.out HF.out.1 rfl
          have b := HN2.out rfl
          unfold signF; rw [if_neg (by omega), if_pos (by omega)])
        go_wp2_with fail
        go_returns
        exact ⟨ret_intk (HV.out.symm.trans HR.out.symm), HB2.out⟩
      · have HV := Lib.hid (HS2.out.trans ((sign_neg _ _).symm.trans (show signF _ _ = signF (WI.val ⟨true, hi, lo⟩) (WI.val ⟨true, hi', lo'⟩) from rfl)))
        go_wp2_with fail
        refine (wsize_any ⟨true, hi', lo'⟩ ⟨true, hi, lo⟩ _).mono ?_
        rintro e w3 ⟨rfl, hb3⟩
        have HB3 := Lib.hid (HB2.out.trans (hb3.mono HB2.out.size))
        clear hb3
        go_wp2_with fail
        go_returns
        exact ⟨ret_intk (HV.out.trans HR.out.symm), HB3.out⟩
end Go.Proofs.YtoadihebdaooaaaGreat
namespace Go.Proofs.YtoadihebdaooaaaGreat
open Go.RowKit
set_option linter.unusedVariables false
def WI.made (n : Bool) (hi lo : Int) : WI := ⟨n && !(hi == 0 && lo == 0), hi, lo⟩
set_option maxRecDepth 100000 in
theorem wmade_any (n : Bool) (hi lo : Int) (w : World) (h1 : 0 ≤ hi) (h2 : hi ≤ 18446744073709551615) (h3 : 0 ≤ lo) (h4 : lo ≤ 18446744073709551615) :
    Calls Tryz.prog 115 #[.bool n, .int .u64 hi, .int .u64 lo] w fun e w' => e = .returned (WI.v (WI.made n hi lo)) ∧ Below w.heap.size w w' := by
  have HO := Lib.hid (or64_ne h1 h2 h3 h4)
  cases n
  · go_enter Tryz.func115, Tryz.ntmps115
    go_wp2_with fail
    refine bodyPost_ret (v := .agg #[.bool false, .int .u64 hi, .int .u64 lo]) (by simp [results, Tryz.results115, go_sem]) rfl ?_
    exact ⟨rfl, by go_grown⟩
  · go_enter Tryz.func115, Tryz.ntmps115
    go_wp2_with fail
    rw [HO.out]
    refine bodyPost_ret (v := .agg #[.bool (!(hi == 0 && lo == 0)), .int .u64 hi, .int .u64 lo]) (by simp [results, Tryz.results115, go_sem]) rfl ?_
    exact ⟨rfl, by go_grown⟩
set_option maxRecDepth 100000 in
theorem wofword_any (n : Int) (w : World) : Calls Tryz.prog 116 #[.int .u64 n] w fun e w' => e = .returned (WI.v ⟨false, 0, n⟩) ∧ Below w.heap.size w w' := by
  go_enter Tryz.func116, Tryz.ntmps116
  go_wp2_with fail
  refine bodyPost_ret (v := .agg #[.bool false, .int .u64 0, .int .u64 n]) (by simp [results, Tryz.results116, go_sem]) rfl ?_
  exact ⟨rfl, by go_grown⟩
set_option maxRecDepth 100000 in
theorem wneg_any (x : WI) (w : World) (hx : x.wf) (hf : x.form = true) : Calls Tryz.prog 173 #[x.v] w fun e w' => e = .returned (WI.v (WI.made (!x.neg) x.hi x.lo)) ∧ Below w.heap.size w w' := by
  have hb : Below w.heap.size w ((w.alloc (.cells x.cs 148)).alloc (.cells #[.bool false, .int .u64 0, .int .u64 0] 148)) := by go_grown
  have kx := keepA (.cells #[.bool false, .int .u64 0, .int .u64 0] 148) (heap_alloc_new w (.cells x.cs 148))
  have kr := heap_alloc_new (w.alloc (.cells x.cs 148)) (.cells #[.bool false, .int .u64 0, .int .u64 0] 148)
  have hz : (w.alloc (.cells x.cs 148)).heap.size = w.heap.size + 1 := by simp
  rw [hz] at kr
  obtain ⟨n, hi, lo⟩ := x
  dsimp only [WI.v, WI.cs] at *
  have HX := Lib.hid hx
  have KX := Lib.hid kx
  have KR := Lib.hid kr
  have HB := Lib.hid hb
  clear kx kr hb hz hx
  go_enter Tryz.func173, Tryz.ntmps173
  go_wp2_with fail
  refine (wform_any ⟨n, hi, lo⟩ _ HX.out).mono ?_
  rintro e w1 ⟨rfl, hb1⟩
  rw [hf]
  have hx1 := keep hb1 KX.out
  have hr1 := keep hb1 KR.out
  have x0 := cell_at hx1 0
  have x1 := cell_at hx1 1
  have x2 := cell_at hx1 2
  simp at x0 x1 x2
  have HB1 := Lib.hid (HB.out.trans (hb1.mono HB.out.size))
  have HR1 := Lib.hid hr1
  clear hb1 hx1 hr1
  go_wp2_with fail
  refine (wmade_any (!n) hi lo _ HX.out.1.1 HX.out.1.2 HX.out.2.1 HX.out.2.2).mono ?_
  rintro e w2 ⟨rfl, hb2⟩
  have hr2 := keep hb2 HR1.out
  have q0 := cell_at hr2 0
  have q1 := cell_at hr2 1
  have q2 := cell_at hr2 2
  have g0 := free_at hr2 0
  have g1 := free_at hr2 1
  have g2 := free_at hr2 2
  simp at q0 q1 q2
  have HB2 := Lib.hid (HB1.out.trans (hb2.mono HB1.out.size))
  clear hb2 x0 x1 x2
  dsimp only [WI.v, WI.made]
  go_wp2_with fail
  refine bodyPost_ret (v := .agg #[.bool (!n && !(hi == 0 && lo == 0)), .int .u64 hi, .int .u64 lo]) (by simp [results, Tryz.results173, go_sem, q0, q1, q2]) rfl ?_
  exact ⟨rfl, ((HB2.out.setCell (by simp) _).setCell (by simp) _).setCell (by simp) _⟩
set_option maxRecDepth 100000 in
theorem wfit_any (n : Bool) (hi lo : Int) (w : World) (h1 : 0 ≤ hi) (h2 : hi < 9223372036854775808) (h3 : 0 ≤ lo) (h4 : lo ≤ 18446744073709551615) :
    Calls Tryz.prog 180 #[.bool n, .int .u64 hi, .int .u64 lo] w fun e w' => e = .returned (.tuple #[WI.v (WI.made n hi lo), .int .i64 0]) ∧ Below w.heap.size w w' := by
  have hb : Below w.heap.size w (w.alloc (.cells #[.bool false, .int .u64 0, .int .u64 0] 148)) := by go_grown
  have kr := heap_alloc_new w (.cells #[.bool false, .int .u64 0, .int .u64 0] 148)
  have HB := Lib.hid hb
  have KR := Lib.hid kr
  have e1 : decide ((9223372036854775808 : Int) ≤ hi) = false := by simp; omega
  clear hb kr
  go_enter Tryz.func180, Tryz.ntmps180
  go_wp2_with fail
  refine (wmade_any n hi lo _ h1 (by omega) h3 h4).mono ?_
  rintro e w2 ⟨rfl, hb2⟩
  have hr2 := keep hb2 KR.out
  have q0 := cell_at hr2 0
  have q1 := cell_at hr2 1
  have q2 := cell_at hr2 2
  have g0 := free_at hr2 0
  have g1 := free_at hr2 1
  have g2 := free_at hr2 2
  simp at q0 q1 q2
  have HB2 := Lib.hid (HB.out.trans (hb2.mono HB.out.size))
  clear hb2
  dsimp only [WI.v, WI.made]
  go_wp2_with fail
  refine bodyPost_ret (v := .tuple #[.agg #[.bool (n && !(hi == 0 && lo == 0)), .int .u64 hi, .int .u64 lo], .int .i64 0]) (by simp [results, Tryz.results180, go_sem, q0, q1, q2]) rfl ?_
  exact ⟨rfl, ((HB2.out.setCell (by simp) _).setCell (by simp) _).setCell (by simp) _⟩
set_option maxRecDepth 100000 in
theorem wcheck_any (x y : WI) (w : World) (hx : x.wf) (hy : y.wf) (fx : x.form = true) (fy : y.form = true) : Calls Tryz.prog 171 #[x.v, y.v, .bool false] w fun e w' => e = .returned (.int .i64 0) ∧ Below w.heap.size w w' := by
  have hb : Below w.heap.size w ((w.alloc (.cells x.cs 148)).alloc (.cells y.cs 148)) := by go_grown
  have ky := heap_alloc_new (w.alloc (.cells x.cs 148)) (.cells y.cs 148)
  have hz : (w.alloc (.cells x.cs 148)).heap.size = w.heap.size + 1 := by simp
  rw [hz] at ky
  obtain ⟨n, hi, lo⟩ := x
  obtain ⟨n', hi', lo'⟩ := y
  dsimp only [WI.v, WI.cs] at *
  have HX := Lib.hid hx
  have HY := Lib.hid hy
  have KY := Lib.hid ky
  have HB := Lib.hid hb
  clear ky hb hz hx hy
  go_enter Tryz.func171, Tryz.ntmps171
  go_wp2_with fail
  refine (wform_any ⟨n, hi, lo⟩ _ HX.out).mono ?_
  rintro e w1 ⟨rfl, hb1⟩
  rw [fx]
  have hy1 := keep hb1 KY.out
  have x0 := cell_at hy1 0
  have x1 := cell_at hy1 1
  have x2 := cell_at hy1 2
  simp at x0 x1 x2
  have HB1 := Lib.hid (HB.out.trans (hb1.mono HB.out.size))
  clear hb1 hy1
  go_wp2_with fail
  refine (wform_any ⟨n', hi', lo'⟩ _ HY.out).mono ?_
  rintro e w2 ⟨rfl, hb2⟩
  rw [fy]
  have HB2 := Lib.hid (HB1.out.trans (hb2.mono HB1.out.size))
  clear hb2
  go_wp2_with fail
  go_returns
  exact ⟨rfl, HB2.out⟩
theorem one_made {n : Bool} {hi lo : Int} (h : lo ≠ 0) : WI.made n hi lo = ⟨n, hi, lo⟩ := by unfold WI.made; simp [h]
theorem form_lo {n : Bool} {lo : Int} (h : lo ≠ 0) : WI.form ⟨n, 0, lo⟩ = true := by unfold WI.form; simp [h]
theorem wf_lo {n : Bool} {lo : Int} (h0 : 0 ≤ lo) (h1 : lo ≤ 18446744073709551615) : WI.wf ⟨n, 0, lo⟩ := ⟨⟨by simp, by simp⟩, h0, h1⟩
set_option maxRecDepth 100000 in
theorem wadd_neg (p : Int) (w : World) (h1 : 1 ≤ p) (h2 : p ≤ 9223372036854775807) : Calls Tryz.prog 172 #[WI.v ⟨true, 0, p⟩, WI.v ⟨true, 0, 1⟩] w fun e w' => e = .returned (.tuple #[WI.v ⟨true, 0, p + 1⟩, .int .i64 0]) ∧ Below w.heap.size w w' := by
  have hb : Below w.heap.size w (((w.alloc (.cells #[.bool true, .int .u64 0, .int .u64 p] 148)).alloc (.cells #[.bool true, .int .u64 0, .int .u64 1] 148)).alloc (.cells #[.bool false, .int .u64 0, .int .u64 0] 148)) := by go_grown
  have kx := keepA (.cells #[.bool false, .int .u64 0, .int .u64 0] 148) (keepA (.cells #[.bool true, .int .u64 0, .int .u64 1] 148) (heap_alloc_new w (.cells #[.bool true, .int .u64 0, .int .u64 p] 148)))
  have ky := keepA (.cells #[.bool false, .int .u64 0, .int .u64 0] 148) (heap_alloc_new (w.alloc (.cells #[.bool true, .int .u64 0, .int .u64 p] 148)) (.cells #[.bool true, .int .u64 0, .int .u64 1] 148))
  have kr := heap_alloc_new ((w.alloc (.cells #[.bool true, .int .u64 0, .int .u64 p] 148)).alloc (.cells #[.bool true, .int .u64 0, .int .u64 1] 148)) (.cells #[.bool false, .int .u64 0, .int .u64 0] 148)
  rw [World.size_alloc] at ky
  rw [World.size_alloc, World.size_alloc] at kr
  have KX := Lib.hid kx
  have KY := Lib.hid ky
  have KR := Lib.hid kr
  have HB := Lib.hid hb
  clear kx ky kr hb
  dsimp only [WI.v]
  have HP := Lib.hid (And.intro h1 h2)
  have a1 : (p + 1 + 0) % 18446744073709551616 = p + 1 := by omega
  have a2 : (p + 1 + 0) / 18446744073709551616 = 0 := by omega
  go_enter Tryz.func172, Tryz.ntmps172
  go_wp2_with fail
  refine (wcheck_any ⟨true, 0, p⟩ ⟨true, 0, 1⟩ _ (wf_lo (by omega) (by omega)) (wf_lo (by omega) (by omega)) (form_lo (by omega)) (form_lo (by omega))).mono ?_
  rintro e w1 ⟨rfl, hb1⟩
  have hx1 := keep hb1 KX.out
  have hy1 := keep hb1 KY.out
  have hr1 := keep hb1 KR.out
  have x0 := cell_at hx1 0
  have x1 := cell_at hx1 1
  have x2 := cell_at hx1 2
  have y0 := cell_at hy1 0
  have y1 := cell_at hy1 1
  have y2 := cell_at hy1 2
  simp at x0 x1 x2 y0 y1 y2
  have HB1 := Lib.hid (HB.out.trans (hb1.mono HB.out.size))
  have HR1 := Lib.hid hr1
  clear hb1 hx1 hy1 hr1
  go_wp2
  rw [run_callFunc_extern Tryz.func179 (by kernel_rfl) (by kernel_rfl) (by kernel_rfl) (e := add64Entry) (by kernel_rfl), run_add64 p 1 0 (by omega) (by omega) (by omega) (by omega)]
  simp only [Result.andThen]
  rw [Oper.upon_value, a1, a2]
  go_wp2
  rw [run_callFunc_extern Tryz.func179 (by kernel_rfl) (by kernel_rfl) (by kernel_rfl) (e := add64Entry) (by kernel_rfl), run_add64 0 0 0 (by omega) (by omega) (by omega) (by omega)]
  simp only [Result.andThen]
  rw [Oper.upon_value]
  go_wp2_with fail
  refine (wfit_any true 0 (p + 1) _ (by omega) (by omega) (by omega) (by omega)).mono ?_
  rintro e w2 ⟨rfl, hb2⟩
  rw [one_made (by omega)]
  have hr2 := keep hb2 HR1.out
  have q0 := cell_at hr2 0
  have q1 := cell_at hr2 1
  have q2 := cell_at hr2 2
  have g0 := free_at hr2 0
  have g1 := free_at hr2 1
  have g2 := free_at hr2 2
  simp at q0 q1 q2
  have HB2 := Lib.hid (HB1.out.trans (hb2.mono HB1.out.size))
  clear hb2 x0 x1 x2 y0 y1 y2
  dsimp only [WI.v]
  go_wp2_with fail
  refine bodyPost_ret (v := .tuple #[.agg #[.bool true, .int .u64 0, .int .u64 (p + 1)], .int .i64 0]) (by simp [results, Tryz.results172, go_sem, q0, q1, q2]) rfl ?_
  exact ⟨rfl, ((HB2.out.setCell (by show w.heap.size ≤ w.heap.size + 1 + 1; omega) _).setCell (by show w.heap.size ≤ w.heap.size + 1 + 1; omega) _).setCell (by show w.heap.size ≤ w.heap.size + 1 + 1; omega) _⟩
set_option maxRecDepth 100000 in
set_option maxHeartbeats 8000000 in
theorem wsub_one (p : Int) (w : World) (h1 : 1 ≤ p) (h2 : p ≤ 9223372036854775807) : Calls Tryz.prog 152 #[WI.v ⟨true, 0, p⟩, WI.v ⟨false, 0, 1⟩] w fun e w' => e = .returned (.tuple #[WI.v ⟨true, 0, p + 1⟩, .int .i64 0]) ∧ Below w.heap.size w w' := by
  have hb : Below w.heap.size w (((w.alloc (.cells #[.bool true, .int .u64 0, .int .u64 p] 148)).alloc (.cells #[.bool false, .int .u64 0, .int .u64 1] 148)).alloc (.cells #[.bool false, .int .u64 0, .int .u64 0] 148)) := by go_grown
  have kx := keepA (.cells #[.bool false, .int .u64 0, .int .u64 0] 148) (keepA (.cells #[.bool false, .int .u64 0, .int .u64 1] 148) (heap_alloc_new w (.cells #[.bool true, .int .u64 0, .int .u64 p] 148)))
  have ky := keepA (.cells #[.bool false, .int .u64 0, .int .u64 0] 148) (heap_alloc_new (w.alloc (.cells #[.bool true, .int .u64 0, .int .u64 p] 148)) (.cells #[.bool false, .int .u64 0, .int .u64 1] 148))
  have kr := heap_alloc_new ((w.alloc (.cells #[.bool true, .int .u64 0, .int .u64 p] 148)).alloc (.cells #[.bool false, .int .u64 0, .int .u64 1] 148)) (.cells #[.bool false, .int .u64 0, .int .u64 0] 148)
  rw [World.size_alloc] at ky
  rw [World.size_alloc, World.size_alloc] at kr
  have KX := Lib.hid kx
  have KY := Lib.hid ky
  have KR := Lib.hid kr
  have HB := Lib.hid hb
  clear kx ky kr hb
  dsimp only [WI.v]
  have HP := Lib.hid (And.intro h1 h2)
  go_enter Tryz.func152, Tryz.ntmps152
  go_wp2_with fail
  refine (wcheck_any ⟨true, 0, p⟩ ⟨false, 0, 1⟩ _ (wf_lo (by omega) (by omega)) (wf_lo (by omega) (by omega)) (form_lo (by omega)) (form_lo (by omega))).mono ?_
  rintro e w1 ⟨rfl, hb1⟩
  have hx1 := keep hb1 KX.out
  have hy1 := keep hb1 KY.out
  have hr1 := keep hb1 KR.out
  have x0 := cell_at hx1 0
  have x1 := cell_at hx1 1
  have x2 := cell_at hx1 2
  have y0 := cell_at hy1 0
  have y1 := cell_at hy1 1
  have y2 := cell_at hy1 2
  simp at x0 x1 x2 y0 y1 y2
  have HB1 := Lib.hid (HB.out.trans (hb1.mono HB.out.size))
  have HR1 := Lib.hid hr1
  have HX1 := Lib.hid hx1
  clear hb1 hx1 hy1 hr1
  have fin : ∀ w3, Below w1.heap.size w1 w3 → w3.heap[w.heap.size + 1 + 1]? = some (.cells #[.bool false, .int .u64 0, .int .u64 0] 148 (0, 0)) := fun w3 h => keep h HR1.out
  have FIN := Lib.hid fin
  clear fin
  go_upto_region 4 with (fail)
  go_region_with (first
    | (go_at_call 173; refine (wneg_any ⟨false, 0, 1⟩ _ (wf_lo (by omega) (by omega)) (form_lo (by omega))).mono ?_; rintro e w2 ⟨rfl, hb2⟩; rw [one_made (by simp)]; dsimp only [WI.v]; have HB2 := Lib.hid (show Below w1.heap.size w1 w2 from ((Below.refl w1.heap.size w1).drew).trans (hb2.mono (by simp))); clear hb2; have z0 := cell_at (keep HB2.out HX1.out) 0; have z1 := cell_at (keep HB2.out HX1.out) 1; have z2 := cell_at (keep HB2.out HX1.out) 2; simp at z0 z1 z2)
    | (go_at_call 172; refine (wadd_neg p _ HP.out.1 HP.out.2).mono ?_; rintro e w3 ⟨rfl, hb3⟩; dsimp only [WI.v]; have HB3 := Lib.hid (HB2.out.trans (hb3.mono HB2.out.size)); clear hb3; have hr2 := FIN.out _ HB3.out; have q0 := cell_at hr2 0; have q1 := cell_at hr2 1; have q2 := cell_at hr2 2; have g0 := free_at hr2 0; have g1 := free_at hr2 1; have g2 := free_at hr2 2; simp at q0 q1 q2; have HB4 := Lib.hid (HB1.out.trans (HB3.out.mono HB1.out.size)))
    )
  all_goals
    go_wp2_with fail
    refine bodyPost_ret (v := .tuple #[.agg #[.bool true, .int .u64 0, .int .u64 (p + 1)], .int .i64 0]) (by simp [results, Tryz.results152, go_sem, q0, q1, q2]) rfl ?_
    exact ⟨rfl, ((HB4.out.setCell (by show w.heap.size ≤ w.heap.size + 1 + 1; omega) _).setCell (by show w.heap.size ≤ w.heap.size + 1 + 1; omega) _).setCell (by show w.heap.size ≤ w.heap.size + 1 + 1; omega) _⟩
end Go.Proofs.YtoadihebdaooaaaGreat
