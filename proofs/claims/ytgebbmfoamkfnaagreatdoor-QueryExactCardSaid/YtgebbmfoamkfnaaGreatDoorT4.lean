/- Contracts of the great whole numbers that fields need: made, OfWord, Of, Neg, Sub. · Contracts of a field's bounds: power, Greatest, Least, Fits. · The rule wp_region_grow with the frame as a letter: for regions in great frames. -/
import Derived.Test.YtgebbmfoamkfnaaGreatDoorT3
import Derived.Laws.Externs
import Derived.Deep.RegionHeld3
namespace Go.Proofs.YtgebbmfoamkfnaaGreatDoor
open Go.RowKit
set_option linter.unusedVariables false
def WI.made (n : Bool) (hi lo : Int) : WI := ⟨n && !(hi == 0 && lo == 0), hi, lo⟩
set_option maxRecDepth 100000 in
theorem wmade_any (n : Bool) (hi lo : Int) (w : World) (h1 : 0 ≤ hi) (h2 : hi ≤ 18446744073709551615) (h3 : 0 ≤ lo) (h4 : lo ≤ 18446744073709551615) :
  Calls Tryz.prog 65 #[.bool n, .int .u64 hi, .int .u64 lo] w fun e w' => e = .returned (WI.v (WI.made n hi lo)) ∧ Below w.heap.size w w' := by
 have HO := Lib.hid (or64_ne h1 h2 h3 h4)
 cases n
 ·go_enter Tryz.func65, Tryz.ntmps65
  go_wp2_with fail
  refine bodyPost_ret (v := .agg #[.bool false, .int .u64 hi, .int .u64 lo]) (by simp [results, Tryz.results65, go_sem]) rfl ?_
  exact ⟨rfl, by go_grown⟩
 ·go_enter Tryz.func65, Tryz.ntmps65
  go_wp2_with fail
  rw [HO.out]
  refine bodyPost_ret (v := .agg #[.bool (!(hi == 0 && lo == 0)), .int .u64 hi, .int .u64 lo]) (by simp [results, Tryz.results65, go_sem]) rfl ?_
  exact ⟨rfl, by go_grown⟩
set_option maxRecDepth 100000 in
theorem wofword_any (n : Int) (w : World) : Calls Tryz.prog 66 #[.int .u64 n] w fun e w' => e = .returned (WI.v ⟨false, 0, n⟩) ∧ Below w.heap.size w w' := by
 go_enter Tryz.func66, Tryz.ntmps66
 go_wp2_with fail
 refine bodyPost_ret (v := .agg #[.bool false, .int .u64 0, .int .u64 n]) (by simp [results, Tryz.results66, go_sem]) rfl ?_
 exact ⟨rfl, by go_grown⟩
set_option maxRecDepth 100000 in
theorem wneg_any (x : WI) (w : World) (hx : x.wf) (hf : x.form = true) : Calls Tryz.prog 207 #[x.v] w fun e w' => e = .returned (WI.v (WI.made (!x.neg) x.hi x.lo)) ∧ Below w.heap.size w w' := by
 have hb : Below w.heap.size w ((w.alloc (.cells x.cs 87)).alloc (.cells #[.bool false, .int .u64 0, .int .u64 0] 87)) := by go_grown
 have kx := keepA (.cells #[.bool false, .int .u64 0, .int .u64 0] 87) (heap_alloc_new w (.cells x.cs 87))
 have kr := heap_alloc_new (w.alloc (.cells x.cs 87)) (.cells #[.bool false, .int .u64 0, .int .u64 0] 87)
 have hz : (w.alloc (.cells x.cs 87)).heap.size = w.heap.size + 1 := by simp
 rw [hz] at kr
 obtain ⟨n, hi, lo⟩ := x
 dsimp only [WI.v, WI.cs] at *
 have HX := Lib.hid hx
 have KX := Lib.hid kx
 have KR := Lib.hid kr
 have HB := Lib.hid hb
 clear kx kr hb hz hx
 go_enter Tryz.func207, Tryz.ntmps207
 go_wp2_with fail
 refine (wform_any ⟨n, hi, lo⟩ _ HX.out).mono ?_
 rintro e w1 ⟨rfl, hb1⟩
 rw [hf]
 have hx1 := keep hb1 KX.out
 have hr1 := keep hb1 KR.out
 have x0 := cell_at hx1 0
 have x1 := cell_at hx1 1
 have x2 := cell_at hx1 2
 simp at x0 x1 x2
 have HB1 := Lib.hid (HB.out.trans (hb1.mono HB.out.size))
 have HR1 := Lib.hid hr1
 clear hb1 hx1 hr1
 go_wp2_with fail
 refine (wmade_any (!n) hi lo _ HX.out.1.1 HX.out.1.2 HX.out.2.1 HX.out.2.2).mono ?_
 rintro e w2 ⟨rfl, hb2⟩
 have hr2 := keep hb2 HR1.out
 have q0 := cell_at hr2 0
 have q1 := cell_at hr2 1
 have q2 := cell_at hr2 2
 have g0 := free_at hr2 0
 have g1 := free_at hr2 1
 have g2 := free_at hr2 2
 simp at q0 q1 q2
 have HB2 := Lib.hid (HB1.out.trans (hb2.mono HB1.out.size))
 clear hb2 x0 x1 x2
 dsimp only [WI.v, WI.made]
 go_wp2_with fail
 refine bodyPost_ret (v := .agg #[.bool (!n && !(hi == 0 && lo == 0)), .int .u64 hi, .int .u64 lo]) (by simp [results, Tryz.results207, go_sem, q0, q1, q2]) rfl ?_
 exact ⟨rfl, ((HB2.out.setCell (by simp) _).setCell (by simp) _).setCell (by simp) _⟩
set_option maxRecDepth 100000 in
theorem wfit_any (n : Bool) (hi lo : Int) (w : World) (h1 : 0 ≤ hi) (h2 : hi < 9223372036854775808) (h3 : 0 ≤ lo) (h4 : lo ≤ 18446744073709551615) :
  Calls Tryz.prog 219 #[.bool n, .int .u64 hi, .int .u64 lo] w fun e w' => e = .returned (.tuple #[WI.v (WI.made n hi lo), .int .i64 0]) ∧ Below w.heap.size w w' := by
 have hb : Below w.heap.size w (w.alloc (.cells #[.bool false, .int .u64 0, .int .u64 0] 87)) := by go_grown
 have kr := heap_alloc_new w (.cells #[.bool false, .int .u64 0, .int .u64 0] 87)
 have HB := Lib.hid hb
 have KR := Lib.hid kr
 have e1 : decide ((9223372036854775808 : Int) ≤ hi) = false := by simp; omega
 clear hb kr
 go_enter Tryz.func219, Tryz.ntmps219
 go_wp2_with fail
 refine (wmade_any n hi lo _ h1 (by omega) h3 h4).mono ?_
 rintro e w2 ⟨rfl, hb2⟩
 have hr2 := keep hb2 KR.out
 have q0 := cell_at hr2 0
 have q1 := cell_at hr2 1
 have q2 := cell_at hr2 2
 have g0 := free_at hr2 0
 have g1 := free_at hr2 1
 have g2 := free_at hr2 2
 simp at q0 q1 q2
 have HB2 := Lib.hid (HB.out.trans (hb2.mono HB.out.size))
 clear hb2
 dsimp only [WI.v, WI.made]
 go_wp2_with fail
 refine bodyPost_ret (v := .tuple #[.agg #[.bool (n && !(hi == 0 && lo == 0)), .int .u64 hi, .int .u64 lo], .int .i64 0]) (by simp [results, Tryz.results219, go_sem, q0, q1, q2]) rfl ?_
 exact ⟨rfl, ((HB2.out.setCell (by simp) _).setCell (by simp) _).setCell (by simp) _⟩
set_option maxRecDepth 100000 in
theorem wcheck_any (x y : WI) (w : World) (hx : x.wf) (hy : y.wf) (fx : x.form = true) (fy : y.form = true) : Calls Tryz.prog 213 #[x.v, y.v, .bool false] w fun e w' => e = .returned (.int .i64 0) ∧ Below w.heap.size w w' := by
 have hb : Below w.heap.size w ((w.alloc (.cells x.cs 87)).alloc (.cells y.cs 87)) := by go_grown
 have ky := heap_alloc_new (w.alloc (.cells x.cs 87)) (.cells y.cs 87)
 have hz : (w.alloc (.cells x.cs 87)).heap.size = w.heap.size + 1 := by simp
 rw [hz] at ky
 obtain ⟨n, hi, lo⟩ := x
 obtain ⟨n', hi', lo'⟩ := y
 dsimp only [WI.v, WI.cs] at *
 have HX := Lib.hid hx
 have HY := Lib.hid hy
 have KY := Lib.hid ky
 have HB := Lib.hid hb
 clear ky hb hz hx hy
 go_enter Tryz.func213, Tryz.ntmps213
 go_wp2_with fail
 refine (wform_any ⟨n, hi, lo⟩ _ HX.out).mono ?_
 rintro e w1 ⟨rfl, hb1⟩
 rw [fx]
 have hy1 := keep hb1 KY.out
 have x0 := cell_at hy1 0
 have x1 := cell_at hy1 1
 have x2 := cell_at hy1 2
 simp at x0 x1 x2
 have HB1 := Lib.hid (HB.out.trans (hb1.mono HB.out.size))
 clear hb1 hy1
 go_wp2_with fail
 refine (wform_any ⟨n', hi', lo'⟩ _ HY.out).mono ?_
 rintro e w2 ⟨rfl, hb2⟩
 rw [fy]
 have HB2 := Lib.hid (HB1.out.trans (hb2.mono HB1.out.size))
 clear hb2
 go_wp2_with fail
 go_returns
 exact ⟨rfl, HB2.out⟩
theorem one_made {n : Bool} {hi lo : Int} (h : lo ≠ 0) : WI.made n hi lo = ⟨n, hi, lo⟩ := by unfold WI.made; simp [h]
theorem form_lo {n : Bool} {lo : Int} (h : lo ≠ 0) : WI.form ⟨n, 0, lo⟩ = true := by unfold WI.form; simp [h]
theorem wf_lo {n : Bool} {lo : Int} (h0 : 0 ≤ lo) (h1 : lo ≤ 18446744073709551615) : WI.wf ⟨n, 0, lo⟩ := ⟨⟨by simp, by simp⟩, h0, h1⟩
set_option maxRecDepth 100000 in
theorem wadd_neg (p : Int) (w : World) (h1 : 1 ≤ p) (h2 : p ≤ 9223372036854775807) : Calls Tryz.prog 214 #[WI.v ⟨true, 0, p⟩, WI.v ⟨true, 0, 1⟩] w fun e w' => e = .returned (.tuple #[WI.v ⟨true, 0, p + 1⟩, .int .i64 0]) ∧ Below w.heap.size w w' := by
 have hb : Below w.heap.size w (((w.alloc (.cells #[.bool true, .int .u64 0, .int .u64 p] 87)).alloc (.cells #[.bool true, .int .u64 0, .int .u64 1] 87)).alloc (.cells #[.bool false, .int .u64 0, .int .u64 0] 87)) := by go_grown
 have kx := keepA (.cells #[.bool false, .int .u64 0, .int .u64 0] 87) (keepA (.cells #[.bool true, .int .u64 0, .int .u64 1] 87) (heap_alloc_new w (.cells #[.bool true, .int .u64 0, .int .u64 p] 87)))
 have ky := keepA (.cells #[.bool false, .int .u64 0, .int .u64 0] 87) (heap_alloc_new (w.alloc (.cells #[.bool true, .int .u64 0, .int .u64 p] 87)) (.cells #[.bool true, .int .u64 0, .int .u64 1] 87))
 have kr := heap_alloc_new ((w.alloc (.cells #[.bool true, .int .u64 0, .int .u64 p] 87)).alloc (.cells #[.bool true, .int .u64 0, .int .u64 1] 87)) (.cells #[.bool false, .int .u64 0, .int .u64 0] 87)
 rw [World.size_alloc] at ky
 rw [World.size_alloc, World.size_alloc] at kr
 have KX := Lib.hid kx
 have KY := Lib.hid ky
 have KR := Lib.hid kr
 have HB := Lib.hid hb
 clear kx ky kr hb
 dsimp only [WI.v]
 have HP := Lib.hid (And.intro h1 h2)
 have a1 : (p + 1 + 0) % 18446744073709551616 = p + 1 := by omega
 have a2 : (p + 1 + 0) / 18446744073709551616 = 0 := by omega
 go_enter Tryz.func214, Tryz.ntmps214
 go_wp2_with fail
 refine (wcheck_any ⟨true, 0, p⟩ ⟨true, 0, 1⟩ _ (wf_lo (by omega) (by omega)) (wf_lo (by omega) (by omega)) (form_lo (by omega)) (form_lo (by omega))).mono ?_
 rintro e w1 ⟨rfl, hb1⟩
 have hx1 := keep hb1 KX.out
 have hy1 := keep hb1 KY.out
 have hr1 := keep hb1 KR.out
 have x0 := cell_at hx1 0
 have x1 := cell_at hx1 1
 have x2 := cell_at hx1 2
 have y0 := cell_at hy1 0
 have y1 := cell_at hy1 1
 have y2 := cell_at hy1 2
 simp at x0 x1 x2 y0 y1 y2
 have HB1 := Lib.hid (HB.out.trans (hb1.mono HB.out.size))
 have HR1 := Lib.hid hr1
 clear hb1 hx1 hy1 hr1
 go_wp2
 rw [run_callFunc_extern Tryz.func218 (by kernel_rfl) (by kernel_rfl) (by kernel_rfl) (e := add64Entry) (by kernel_rfl), run_add64 p 1 0 (by omega) (by omega) (by omega) (by omega)]
 simp only [Result.andThen]
 rw [Oper.upon_value, a1, a2]
 go_wp2
 rw [run_callFunc_extern Tryz.func218 (by kernel_rfl) (by kernel_rfl) (by kernel_rfl) (e := add64Entry) (by kernel_rfl), run_add64 0 0 0 (by omega) (by omega) (by omega) (by omega)]
 simp only [Result.andThen]
 rw [Oper.upon_value]
 go_wp2_with fail
 refine (wfit_any true 0 (p + 1) _ (by omega) (by omega) (by omega) (by omega)).mono ?_
 rintro e w2 ⟨rfl, hb2⟩
 rw [one_made (by omega)]
 have hr2 := keep hb2 HR1.out
 have q0 := cell_at hr2 0
 have q1 := cell_at hr2 1
 have q2 := cell_at hr2 2
 have g0 := free_at hr2 0
 have g1 := free_at hr2 1
 have g2 := free_at hr2 2
 simp at q0 q1 q2
 have HB2 := Lib.hid (HB1.out.trans (hb2.mono HB1.out.size))
 clear hb2 x0 x1 x2 y0 y1 y2
 dsimp only [WI.v]
 go_wp2_with fail
 refine bodyPost_ret (v := .tuple #[.agg #[.bool true, .int .u64 0, .int .u64 (p + 1)], .int .i64 0]) (by simp [results, Tryz.results214, go_sem, q0, q1, q2]) rfl ?_
 exact ⟨rfl, ((HB2.out.setCell (by show w.heap.size ≤ w.heap.size + 1 + 1; omega) _).setCell (by show w.heap.size ≤ w.heap.size + 1 + 1; omega) _).setCell (by show w.heap.size ≤ w.heap.size + 1 + 1; omega) _⟩
set_option maxRecDepth 100000 in
set_option maxHeartbeats 8000000 in
theorem wsub_one (p : Int) (w : World) (h1 : 1 ≤ p) (h2 : p ≤ 9223372036854775807) : Calls Tryz.prog 206 #[WI.v ⟨true, 0, p⟩, WI.v ⟨false, 0, 1⟩] w fun e w' => e = .returned (.tuple #[WI.v ⟨true, 0, p + 1⟩, .int .i64 0]) ∧ Below w.heap.size w w' := by
 have hb : Below w.heap.size w (((w.alloc (.cells #[.bool true, .int .u64 0, .int .u64 p] 87)).alloc (.cells #[.bool false, .int .u64 0, .int .u64 1] 87)).alloc (.cells #[.bool false, .int .u64 0, .int .u64 0] 87)) := by go_grown
 have kx := keepA (.cells #[.bool false, .int .u64 0, .int .u64 0] 87) (keepA (.cells #[.bool false, .int .u64 0, .int .u64 1] 87) (heap_alloc_new w (.cells #[.bool true, .int .u64 0, .int .u64 p] 87)))
 have ky := keepA (.cells #[.bool false, .int .u64 0, .int .u64 0] 87) (heap_alloc_new (w.alloc (.cells #[.bool true, .int .u64 0, .int .u64 p] 87)) (.cells #[.bool false, .int .u64 0, .int .u64 1] 87))
 have kr := heap_alloc_new ((w.alloc (.cells #[.bool true, .int .u64 0, .int .u64 p] 87)).alloc (.cells #[.bool false, .int .u64 0, .int .u64 1] 87)) (.cells #[.bool false, .int .u64 0, .int .u64 0] 87)
 rw [World.size_alloc] at ky
 rw [World.size_alloc, World.size_alloc] at kr
 have KX := Lib.hid kx
 have KY := Lib.hid ky
 have KR := Lib.hid kr
 have HB := Lib.hid hb
 clear kx ky kr hb
 dsimp only [WI.v]
 have HP := Lib.hid (And.intro h1 h2)
 go_enter Tryz.func206, Tryz.ntmps206
 go_wp2_with fail
 refine (wcheck_any ⟨true, 0, p⟩ ⟨false, 0, 1⟩ _ (wf_lo (by omega) (by omega)) (wf_lo (by omega) (by omega)) (form_lo (by omega)) (form_lo (by omega))).mono ?_
 rintro e w1 ⟨rfl, hb1⟩
 have hx1 := keep hb1 KX.out
 have hy1 := keep hb1 KY.out
 have hr1 := keep hb1 KR.out
 have x0 := cell_at hx1 0
 have x1 := cell_at hx1 1
 have x2 := cell_at hx1 2
 have y0 := cell_at hy1 0
 have y1 := cell_at hy1 1
 have y2 := cell_at hy1 2
 simp at x0 x1 x2 y0 y1 y2
 have HB1 := Lib.hid (HB.out.trans (hb1.mono HB.out.size))
 have HR1 := Lib.hid hr1
 have HX1 := Lib.hid hx1
 clear hb1 hx1 hy1 hr1
 have fin : ∀ w3, Below w1.heap.size w1 w3 → w3.heap[w.heap.size + 1 + 1]? = some (.cells #[.bool false, .int .u64 0, .int .u64 0] 87 (0, 0)) := fun w3 h => keep h HR1.out
 have FIN := Lib.hid fin
 clear fin
 go_upto_region 4 with (fail)
 go_region_with (first
  | (go_at_call 207; refine (wneg_any ⟨false, 0, 1⟩ _ (wf_lo (by omega) (by omega)) (form_lo (by omega))).mono ?_; rintro e w2 ⟨rfl, hb2⟩; rw [one_made (by simp)]; dsimp only [WI.v]; have HB2 := Lib.hid (show Below w1.heap.size w1 w2 from ((Below.refl w1.heap.size w1).drew).trans (hb2.mono (by simp))); clear hb2; have z0 := cell_at (keep HB2.out HX1.out) 0; have z1 := cell_at (keep HB2.out HX1.out) 1; have z2 := cell_at (keep HB2.out HX1.out) 2; simp at z0 z1 z2)
  | (go_at_call 214; refine (wadd_neg p _ HP.out.1 HP.out.2).mono ?_; rintro e w3 ⟨rfl, hb3⟩; dsimp only [WI.v]; have HB3 := Lib.hid (HB2.out.trans (hb3.mono HB2.out.size)); clear hb3; have hr2 := FIN.out _ HB3.out; have q0 := cell_at hr2 0; have q1 := cell_at hr2 1; have q2 := cell_at hr2 2; have g0 := free_at hr2 0; have g1 := free_at hr2 1; have g2 := free_at hr2 2; simp at q0 q1 q2; have HB4 := Lib.hid (HB1.out.trans (HB3.out.mono HB1.out.size)))
  )
 all_goals
  go_wp2_with fail
  refine bodyPost_ret (v := .tuple #[.agg #[.bool true, .int .u64 0, .int .u64 (p + 1)], .int .i64 0]) (by simp [results, Tryz.results206, go_sem, q0, q1, q2]) rfl ?_
  exact ⟨rfl, ((HB4.out.setCell (by show w.heap.size ≤ w.heap.size + 1 + 1; omega) _).setCell (by show w.heap.size ≤ w.heap.size + 1 + 1; omega) _).setCell (by show w.heap.size ≤ w.heap.size + 1 + 1; omega) _⟩
end Go.Proofs.YtgebbmfoamkfnaaGreatDoor
namespace Go.Proofs.YtgebbmfoamkfnaaGreatDoor
open Go.RowKit
set_option linter.unusedVariables false
def kSig (k : Int) : Bool := decide (2 ≤ k ∧ k ≤ 5)
def kMax (k : Int) : Int := if k = 1 then 1 else if k = 2 then 127 else if k = 3 then 32767 else if k = 4 then 2147483647 else if k = 5 then 9223372036854775807 else if k = 6 then 255 else if k = 7 then 65535 else if k = 8 then 4294967295 else 18446744073709551615
def kMin (k : Int) : Int := if kSig k then -(kMax k + 1) else 0
def leastW (k : Int) : WI := if kSig k then ⟨true, 0, kMax k + 1⟩ else ⟨false, 0, 0⟩
def greatW (k : Int) : WI := ⟨false, 0, kMax k⟩
theorem kMax_bd (k : Int) : 1 ≤ kMax k ∧ kMax k ≤ 18446744073709551615 ∧ (kSig k = true → kMax k ≤ 9223372036854775807) := by
 unfold kMax kSig
 refine ⟨?_, ?_, ?_⟩
 ·repeat' split <;> omega
 ·repeat' split <;> omega
 ·intro h
  simp at h
  repeat' split <;> omega
theorem greatW_wf (k : Int) : (greatW k).wf := wf_lo (by have := kMax_bd k; omega) (by have := kMax_bd k; omega)
theorem greatW_form (k : Int) : (greatW k).form = true := form_lo (by have := kMax_bd k; omega)
theorem greatW_val (k : Int) : (greatW k).val = kMax k := by simp [greatW, WI.val]
theorem leastW_wf (k : Int) : (leastW k).wf := by
 unfold leastW
 cases h : kSig k
 ·exact wf_lo (by simp) (by simp)
 ·have := kMax_bd k
  exact wf_lo (by omega) (by have := this.2.2 h; omega)
theorem leastW_form (k : Int) : (leastW k).form = true := by
 unfold leastW
 cases h : kSig k
 ·rfl
 ·have := kMax_bd k
  exact form_lo (by omega)
theorem leastW_val (k : Int) : (leastW k).val = kMin k := by
 unfold leastW kMin
 cases h : kSig k
 ·rfl
 ·simp [WI.val]
theorem shapes_full (W : World) (k : Int) (h1 : 1 ≤ k) (h2 : k ≤ 10) : ∃ s, (W.alloc shapesObj).cell? ⟨W.heap.size, k.toNat * 3, none⟩ = some (.string s) ∧
  (W.alloc shapesObj).cell? ⟨W.heap.size, k.toNat * 3 + 1, none⟩ = some (.int .i64 (kSize k)) ∧ (W.alloc shapesObj).cell? ⟨W.heap.size, k.toNat * 3 + 2, none⟩ = some (.bool (kSig k)) := by
 have h' : k = 1 ∨ k = 2 ∨ k = 3 ∨ k = 4 ∨ k = 5 ∨ k = 6 ∨ k = 7 ∨ k = 8 ∨ k = 9 ∨ k = 10 := by omega
 have hh : (W.alloc shapesObj).heap[W.heap.size]? = some shapesObj := heap_alloc_new W _
 rcases h' with rfl | rfl | rfl | rfl | rfl | rfl | rfl | rfl | rfl | rfl
 all_goals
  apply Exists.intro
  refine ⟨?_, ?_, ?_⟩
  all_goals (unfold World.cell?; rw [hh]; rfl)
theorem of_full (k : Int) (w : World) (h1 : 1 ≤ k) (h2 : k ≤ 10) : Calls Tryz.prog 173 #[.int .i64 k] w fun e w' => ∃ s, e = .returned (.agg #[.string s, .int .i64 (kSize k), .bool (kSig k)]) ∧ Below w.heap.size w w' := by
 obtain ⟨s, c0, c1, c2⟩ := shapes_full (w.alloc (Obj.cells #[Value.string { data := #[] }, Value.int IntKind.i64 0, Value.bool false] 277)) k h1 h2
 rw [World.size_alloc] at c0 c1 c2
 have hk := kindB_true h1 h2
 go_enter Tryz.func173, Tryz.ntmps173
 go_wp2_with (first | (go_at_call 199; refine (shapes_any _).mono ?_; rintro e w' ⟨rfl, rfl⟩) | (go_at_call 157; refine (isKind_any _ _).mono ?_; rintro e w' ⟨rfl, rfl⟩))
 go_returns
 exact ⟨s, rfl, by go_grown⟩
def pMax (n : Int) : Int := if n = 8 then 255 else if n = 16 then 65535 else if n = 32 then 4294967295 else 18446744073709551615
theorem power_any (n : Int) (w : World) (h : n = 8 ∨ n = 16 ∨ n = 32 ∨ n = 64) : Calls Tryz.prog 159 #[.int .i64 n] w fun e w' => e = .returned (.int .u64 (pMax n)) ∧ w = w' := by
 rcases h with rfl | rfl | rfl | rfl
 all_goals
  go_enter Tryz.func159, Tryz.ntmps159
  go_wp2_with fail
  go_returns
  exact ⟨rfl, rfl⟩
set_option maxRecDepth 100000 in
theorem wof_pos (n : Int) (w : World) (h0 : 0 ≤ n) (h1 : n ≤ 9223372036854775807) : Calls Tryz.prog 26 #[.int .i64 n] w fun e w' => e = .returned (WI.v ⟨false, 0, n⟩) ∧ Below w.heap.size w w' := by
 have hb : Below w.heap.size w (w.alloc (.cells #[.bool false, .int .u64 0, .int .u64 0] 87)) := by go_grown
 have kr := heap_alloc_new w (.cells #[.bool false, .int .u64 0, .int .u64 0] 87)
 have HB := Lib.hid hb
 have KR := Lib.hid kr
 have e1 : decide (n < 0) = false := by simp; omega
 clear hb kr
 go_enter Tryz.func26, Tryz.ntmps26
 go_wp2_with fail
 refine (wofword_any n _).mono ?_
 rintro e w2 ⟨rfl, hb2⟩
 have hr2 := keep hb2 KR.out
 have q0 := cell_at hr2 0
 have q1 := cell_at hr2 1
 have q2 := cell_at hr2 2
 have g0 := free_at hr2 0
 have g1 := free_at hr2 1
 have g2 := free_at hr2 2
 simp at q0 q1 q2
 have HB2 := Lib.hid (HB.out.trans (hb2.mono HB.out.size))
 clear hb2
 dsimp only [WI.v]
 go_wp2_with fail
 refine bodyPost_ret (v := .agg #[.bool false, .int .u64 0, .int .u64 n]) (by simp [results, Tryz.results26, go_sem, q0, q1, q2]) rfl ?_
 exact ⟨rfl, ((HB2.out.setCell (by simp) _).setCell (by simp) _).setCell (by simp) _⟩
set_option maxRecDepth 100000 in
set_option maxHeartbeats 4000000 in
theorem greatest_any (k : Int) (w : World) (h1 : 1 ≤ k) (h2 : k ≤ 10) : Calls Tryz.prog 185 #[.int .i64 k] w fun e w' => e = .returned (WI.v (greatW k)) ∧ Below w.heap.size w w' := by
 have hb : Below w.heap.size w (w.alloc (.cells #[.bool false, .int .u64 0, .int .u64 0] 87)) := by go_grown
 have kr := heap_alloc_new w (.cells #[.bool false, .int .u64 0, .int .u64 0] 87)
 have HB := Lib.hid hb
 have KR := Lib.hid kr
 clear hb kr
 have h' : k = 1 ∨ k = 2 ∨ k = 3 ∨ k = 4 ∨ k = 5 ∨ k = 6 ∨ k = 7 ∨ k = 8 ∨ k = 9 ∨ k = 10 := by omega
 clear h1 h2
 obtain ⟨g, hg⟩ : ∃ g, g = greatW k := ⟨_, rfl⟩
 have HG := Lib.hid hg
 clear hg
 rcases h' with rfl | rfl | rfl | rfl | rfl | rfl | rfl | rfl | rfl | rfl
 all_goals
  go_enter Tryz.func185, Tryz.ntmps185
  go_wp2_with fail
  refine (of_full _ _ (by omega) (by omega)).mono ?_
  rintro e w1 ⟨s, rfl, hb1⟩
  simp only [kSize, kSig]
  have hr1 := keep hb1 KR.out
  have HB1 := Lib.hid (HB.out.trans (hb1.mono HB.out.size))
  have HR1 := Lib.hid hr1
  clear hb1 hr1
  go_wp2_with (first | (go_at_call 159; refine (power_any _ _ (by simp)).mono ?_; rintro e w' ⟨rfl, rfl⟩; simp only [pMax]))
  first | (refine (wof_pos _ _ (by omega) (by omega)).mono ?_) | (refine (wofword_any _ _).mono ?_)
  rintro e w2 ⟨rfl, hb2⟩
  dsimp only [WI.v]
  have hr2 := keep hb2 (keepA _ HR1.out)
  have q0 := cell_at hr2 0
  have q1 := cell_at hr2 1
  have q2 := cell_at hr2 2
  have g0 := free_at hr2 0
  have g1 := free_at hr2 1
  have g2 := free_at hr2 2
  simp at q0 q1 q2
  have HB2 := Lib.hid ((HB1.out.alloc HB1.out.size _).trans (hb2.mono (HB1.out.alloc HB1.out.size _).size))
  clear hb2
  go_wp2_with fail
  refine bodyPost_ret (v := WI.v g) (by rw [HG.out]; simp [results, Tryz.results185, go_sem, q0, q1, q2, WI.v, greatW, kMax]) rfl ?_
  exact ⟨by rw [HG.out], ((HB2.out.setCell (by simp) _).setCell (by simp) _).setCell (by simp) _⟩
theorem fldShape (s : ByteArray) (n : Int) (b : Bool) (w : World) : Sem.run Tryz.prog (Instr.field 277 (.agg #[.string s, .int .i64 n, .bool b]) 2) w = .ok (.bool b) w := by kernel_rfl
set_option maxRecDepth 100000 in
set_option maxHeartbeats 4000000 in
theorem least_any (k : Int) (w : World) (h1 : 1 ≤ k) (h2 : k ≤ 10) : Calls Tryz.prog 184 #[.int .i64 k] w fun e w' => e = .returned (WI.v (leastW k)) ∧ Below w.heap.size w w' := by
 have hb : Below w.heap.size w (w.alloc (.cells #[.bool false, .int .u64 0, .int .u64 0] 87)) := by go_grown
 have kr := heap_alloc_new w (.cells #[.bool false, .int .u64 0, .int .u64 0] 87)
 have HB := Lib.hid hb
 have KR := Lib.hid kr
 clear hb kr
 cases hs : kSig k
 ·have HL := Lib.hid (show leastW k = ⟨false, 0, 0⟩ by unfold leastW; rw [hs]; rfl)
  go_enter Tryz.func184, Tryz.ntmps184
  go_wp2_with fail
  refine (of_full _ _ h1 h2).mono ?_
  rintro e w1 ⟨s, rfl, hb1⟩
  rw [hs]
  have hr2 := keep hb1 KR.out
  have q0 := cell_at hr2 0
  have q1 := cell_at hr2 1
  have q2 := cell_at hr2 2
  have g0 := free_at hr2 0
  have g1 := free_at hr2 1
  have g2 := free_at hr2 2
  simp at q0 q1 q2
  have HB2 := Lib.hid (HB.out.trans (hb1.mono HB.out.size))
  have hfld := fldShape s (kSize k) false
  clear hb1 hs
  go_wp2_with fail
  refine bodyPost_ret (v := WI.v ⟨false, 0, 0⟩) (by simp [results, Tryz.results184, go_sem, q0, q1, q2, WI.v]) rfl ?_
  exact ⟨by rw [HL.out], ((HB2.out.setCell (by simp) _).setCell (by simp) _).setCell (by simp) _⟩
 ·have HL := Lib.hid (show leastW k = ⟨true, 0, kMax k + 1⟩ by unfold leastW; rw [hs]; rfl)
  have hm := kMax_bd k
  have hm1 := hm.1
  have hm2 := hm.2.2 hs
  have HM := Lib.hid (And.intro hm1 hm2)
  clear hm hm1 hm2
  go_enter Tryz.func184, Tryz.ntmps184
  go_wp2_with fail
  refine (of_full _ _ h1 h2).mono ?_
  rintro e w1 ⟨s, rfl, hb1⟩
  rw [hs]
  have HR1 := Lib.hid (keep hb1 KR.out)
  have HB1 := Lib.hid (HB.out.trans (hb1.mono HB.out.size))
  have hfld := fldShape s (kSize k) true
  clear hb1 hs
  go_wp2_with fail
  clear hfld
  refine (greatest_any _ _ h1 h2).mono ?_
  rintro e w2 ⟨rfl, hb2⟩
  have HR2 := Lib.hid (keep hb2 HR1.out)
  have HB2 := Lib.hid (HB1.out.trans (hb2.mono HB1.out.size))
  clear hb2
  go_wp2_with fail
  refine (wneg_any (greatW k) _ (greatW_wf k) (greatW_form k)).mono ?_
  rintro e w3 ⟨rfl, hb3⟩
  have hmd : WI.made (!(greatW k).neg) (greatW k).hi (greatW k).lo = ⟨true, 0, kMax k⟩ := one_made (by have := HM.out.1; show kMax k ≠ 0; omega)
  rw [hmd]
  have HR3 := Lib.hid (keep hb3 HR2.out)
  have HB3 := Lib.hid (HB2.out.trans (hb3.mono HB2.out.size))
  clear hb3 hmd
  go_wp2_with fail
  refine (wof_pos 1 _ (by omega) (by omega)).mono ?_
  rintro e w4 ⟨rfl, hb4⟩
  have HR4 := Lib.hid (keep hb4 HR3.out)
  have HB4 := Lib.hid (HB3.out.trans (hb4.mono HB3.out.size))
  clear hb4
  go_wp2_with fail
  refine (wsub_one (kMax k) _ HM.out.1 HM.out.2).mono ?_
  rintro e w5 ⟨rfl, hb5⟩
  have hr5 := keep hb5 HR4.out
  have HB5 := Lib.hid (HB4.out.trans (hb5.mono HB4.out.size))
  have HR6 := Lib.hid (keepA (.cells #[.bool true, .int .u64 0, .int .u64 (kMax k + 1)] 87) hr5)
  have HN6 := Lib.hid (heap_alloc_new w5 (.cells #[.bool true, .int .u64 0, .int .u64 (kMax k + 1)] 87))
  have HB6 := Lib.hid (HB5.out.alloc HB5.out.size (.cells #[.bool true, .int .u64 0, .int .u64 (kMax k + 1)] 87))
  clear hb5 hr5
  dsimp only [WI.v]
  go_upto_region 4 with (fail)
  generalize w5.alloc (.cells #[.bool true, .int .u64 0, .int .u64 (kMax k + 1)] 87) = w6 at *
  generalize w5.heap.size = nb at *
  have q0 := cell_at HR6.out 0
  have q1 := cell_at HR6.out 1
  have q2 := cell_at HR6.out 2
  have g0 := free_at HR6.out 0
  have g1 := free_at HR6.out 1
  have g2 := free_at HR6.out 2
  have n0 := cell_at HN6.out 0
  have n1 := cell_at HN6.out 1
  have n2 := cell_at HN6.out 2
  simp at q0 q1 q2 n0 n1 n2
  go_wp2_with fail
  refine bodyPost_ret (v := WI.v ⟨true, 0, kMax k + 1⟩) (by simp [results, Tryz.results184, go_sem, q0, q1, q2, WI.v]) rfl ?_
  exact ⟨by rw [HL.out], ((HB6.out.setCell (by simp) _).setCell (by simp) _).setCell (by simp) _⟩
end Go.Proofs.YtgebbmfoamkfnaaGreatDoor
namespace Go.Proofs.YtgebbmfoamkfnaaGreatDoor
open Go.RowKit
set_option linter.unusedVariables false
section
variable {P : Program} {l : List Oper} {Q : Exit → Act → World → Prop} {a0 : Act} {w0 : World}
theorem putAll_size {vs : Nat → Value} : ∀ (l : List Oper) (k : Nat) (a : Act), (putAll vs k l a).tmps.size = a.tmps.size
 | [], _, _ => rfl
 | o :: r, k, a => by
  unfold putAll
  rw [putAll_size r (k + 1) _]
  cases o.dst <;> simp [Act.put]
theorem putAll_miss {vs : Nat → Value} {d : Nat} : ∀ (l : List Oper) (k : Nat) (a : Act), (l.all fun o => o.dst != some d) = true → (putAll vs k l a).tmps[d]? = a.tmps[d]?
 | [], _, _, _ => rfl
 | o :: r, k, a, h => by
  rw [List.all_cons, Bool.and_eq_true] at h
  unfold putAll
  rw [putAll_miss r (k + 1) _ h.2]
  cases hd : o.dst with
  | none => rfl
  | some e =>
   have : e ≠ d := fun he => by subst he; rw [hd] at h; simp at h
   simp [Act.put, this]
theorem putAll_hit {vs : Nat → Value} {j d : Nat} {o : Oper} (hn : noDup l = true) (ho : l[j]? = some o) (hd : o.dst = some d) (hs : d < a0.tmps.size) : (putAll vs 0 l a0).tmps[d]? = some (vs j) := by
 have h := putAll_upd (vs := vs) (v := vs j) l 0 j a0 o hn ho
 have e : putAll (updV vs (0 + j) (vs j)) 0 l a0 = putAll vs 0 l a0 := putAll_congr l 0 a0 (fun i _ => by
  unfold updV
  by_cases hi : i = 0 + j
  ·rw [if_pos hi, hi, Nat.zero_add]
  ·rw [if_neg hi])
 rw [e] at h
 rw [← h, hd]
 have hs' : d < (putAll vs 0 l a0).tmps.size := by rw [putAll_size]; exact hs
 simp [Act.put, hs']
structure FrameIs (l : List Oper) (vs : Nat → Value) (a0 A : Act) : Prop where
 hit : ∀ (j d : Nat), (l[j]?).bind (·.dst) = some d → d < a0.tmps.size → A.tmps[d]? = some (vs j)
 miss : ∀ (d : Nat), (l.all fun o => o.dst != some d) = true → A.tmps[d]? = a0.tmps[d]?
theorem frameIs_put (hn : noDup l = true) (vs : Nat → Value) : FrameIs l vs a0 (putAll vs 0 l a0) := by
 refine ⟨fun j d h hs => ?_, fun d h => putAll_miss l 0 a0 h⟩
 cases ho : l[j]? with
 | none => rw [ho] at h; cases h
 | some o => rw [ho] at h; exact putAll_hit hn ho h hs
theorem wp_region_frame {id : Nat} (hm : P.follows .mixedOrders = true) (hn : noDup l = true) (he : edgesB 0 l = true) (R : Nat → Value → World → Prop) (stable : ∀ i v w w', R i v w → Below w.heap.size w w' → R i v w')
  (step : ∀ (vs : Nat → Value) (w : World) (i : Nat) (o : Oper) (A : Act), FrameIs l vs a0 A → Below w0.heap.size w0 w → l[i]? = some o → (∀ e ∈ o.after, Region.binds .any e = true → R e.on (vs e.on) w) → StepGoal P l o A w (R i) Q)
  (fin : ∀ (vs : Nat → Value) (w : World), Below w0.heap.size w0 w → (∀ i, i < l.length → R i (vs i) w) → Q .normal (putAll vs 0 l a0) w) :
  (Code.region id l.toArray true).wp P Q a0 w0 :=
 wp_region_grow hm hn he R stable (fun vs w i o hb ho hd => step vs w i o _ (frameIs_put hn vs) hb ho hd) fin
theorem FrameIs.m {vs : Nat → Value} {A : Act} (F : FrameIs l vs a0 A) {d : Nat} {v : Value} (h1 : (l.all fun o => o.dst != some d) = true) (hv : a0.tmps[d]? = some v) : A.tmps[d]?.getD undef = v := by
 rw [F.miss d h1, hv]; rfl
def FrameL (l : List Oper) (vs : Nat → Value) (n : Nat) (A : Act) : Prop := ∀ (j d : Nat), (l[j]?).bind (·.dst) = some d → d < n → A.tmps[d]? = some (vs j)
theorem FrameIs.light {vs : Nat → Value} {A : Act} (F : FrameIs l vs a0 A) {n : Nat} (h : a0.tmps.size = n) : FrameL l vs n A := fun j d h1 h2 => F.hit j d h1 (by rw [h]; exact h2)
theorem FrameL.h {vs : Nat → Value} {A : Act} {n : Nat} (F : FrameL l vs n A) {j d : Nat} {v : Value} (h1 : (l[j]?).bind (·.dst) = some d) (h2 : d < n) (hv : vs j = v) : A.tmps[d]?.getD undef = v := by
 rw [F j d h1 h2, hv]; rfl
theorem frame_wanted {vs : Nat → Value} {A : Act} {n : Nat} (F : FrameL l vs n A) {o : Oper} {g d : Nat} {b c : Bool} (hg : o.guard = some (g, b)) (h1 : (l[g]?).bind (·.dst) = some d) (h2 : d < n) (hv : vs g = .bool c) :
  Region.wanted o (yielded l.toArray A.tmps) = (c == b) := by
 unfold Region.wanted yielded
 rw [hg]
 simp only [List.getElem?_toArray]
 rw [h1]
 simp only [Option.bind_some]
 rw [F g d h1 h2, hv]
 cases c <;> cases b <;> rfl
theorem step_yes {vs : Nat → Value} {A : Act} {n : Nat} {w : World} {R : Value → World → Prop} (F : FrameL l vs n A) {o : Oper} {g d : Nat} {b : Bool} (hg : o.guard = some (g, b)) (h1 : (l[g]?).bind (·.dst) = some d) (h2 : d < n) (hv : vs g = .bool b)
  (h : o.wp P A w (fun a' w' => ∃ v, a' = A.put o.dst v ∧ R v w' ∧ Below w.heap.size w w') Q) : StepGoal P l o A w R Q := by
 unfold StepGoal
 rw [if_pos (by rw [frame_wanted F hg h1 h2 hv]; cases b <;> rfl)]
 exact h
theorem step_not {vs : Nat → Value} {A : Act} {n : Nat} {w : World} {R : Value → World → Prop} (F : FrameL l vs n A) {o : Oper} {g d : Nat} {b : Bool} (hg : o.guard = some (g, b)) (h1 : (l[g]?).bind (·.dst) = some d) (h2 : d < n) (hv : vs g = .bool !b)
  (h : R undef w) : StepGoal P l o A w R Q := by
 unfold StepGoal
 rw [if_neg (by rw [frame_wanted F hg h1 h2 hv]; cases b <;> simp)]
 exact h
theorem step_run {A : Act} {w : World} {R : Value → World → Prop} {o : Oper} {v : Value} (hv : (execOp A.eval o).run P w = .ok (.value v) w) (hR : R v w) :
  o.wp P A w (fun a' w' => ∃ v, a' = A.put o.dst v ∧ R v w' ∧ Below w.heap.size w w') Q := by
 unfold Oper.wp
 rw [hv]
 exact ⟨v, rfl, hR, Below.refl _ _⟩
end
end Go.Proofs.YtgebbmfoamkfnaaGreatDoor
