/- Contracts of the great whole numbers that fields need: made, OfWord, Of, Neg, Sub. -/
import Derived.Test.YtoadihebdaooaaaGreatS1
import Derived.Laws.Externs
namespace Go.Proofs.YtoadihebdaooaaaGreat
open Go.RowKit
set_option linter.unusedVariables false
def WI.made (n : Bool) (hi lo : Int) : WI := ⟨n && !(hi == 0 && lo == 0), hi, lo⟩
set_option maxRecDepth 100000 in
theorem wmade_any (n : Bool) (hi lo : Int) (w : World) (h1 : 0 ≤ hi) (h2 : hi ≤ 18446744073709551615) (h3 : 0 ≤ lo) (h4 : lo ≤ 18446744073709551615) :
    Calls Tryz.prog 115 #[.bool n, .int .u64 hi, .int .u64 lo] w fun e w' => e = .returned (WI.v (WI.made n hi lo)) ∧ Below w.heap.size w w' := by
  have HO := Lib.hid (or64_ne h1 h2 h3 h4)
  cases n
  · go_enter Tryz.func115, Tryz.ntmps115
    go_wp2_with fail
    refine bodyPost_ret (v := .agg #[.bool false, .int .u64 hi, .int .u64 lo]) (by simp [results, Tryz.results115, go_sem]) rfl ?_
    exact ⟨rfl, by go_grown⟩
  · go_enter Tryz.func115, Tryz.ntmps115
    go_wp2_with fail
    rw [HO.out]
    refine bodyPost_ret (v := .agg #[.bool (!(hi == 0 && lo == 0)), .int .u64 hi, .int .u64 lo]) (by simp [results, Tryz.results115, go_sem]) rfl ?_
    exact ⟨rfl, by go_grown⟩
set_option maxRecDepth 100000 in
theorem wofword_any (n : Int) (w : World) : Calls Tryz.prog 116 #[.int .u64 n] w fun e w' => e = .returned (WI.v ⟨false, 0, n⟩) ∧ Below w.heap.size w w' := by
  go_enter Tryz.func116, Tryz.ntmps116
  go_wp2_with fail
  refine bodyPost_ret (v := .agg #[.bool false, .int .u64 0, .int .u64 n]) (by simp [results, Tryz.results116, go_sem]) rfl ?_
  exact ⟨rfl, by go_grown⟩
set_option maxRecDepth 100000 in
theorem wneg_any (x : WI) (w : World) (hx : x.wf) (hf : x.form = true) : Calls Tryz.prog 173 #[x.v] w fun e w' => e = .returned (WI.v (WI.made (!x.neg) x.hi x.lo)) ∧ Below w.heap.size w w' := by
  have hb : Below w.heap.size w ((w.alloc (.cells x.cs 148)).alloc (.cells #[.bool false, .int .u64 0, .int .u64 0] 148)) := by go_grown
  have kx := keepA (.cells #[.bool false, .int .u64 0, .int .u64 0] 148) (heap_alloc_new w (.cells x.cs 148))
  have kr := heap_alloc_new (w.alloc (.cells x.cs 148)) (.cells #[.bool false, .int .u64 0, .int .u64 0] 148)
  have hz : (w.alloc (.cells x.cs 148)).heap.size = w.heap.size + 1 := by simp
  rw [hz] at kr
  obtain ⟨n, hi, lo⟩ := x
  dsimp only [WI.v, WI.cs] at *
  have HX := Lib.hid hx
  have KX := Lib.hid kx
  have KR := Lib.hid kr
  have HB := Lib.hid hb
  clear kx kr hb hz hx
  go_enter Tryz.func173, Tryz.ntmps173
  go_wp2_with fail
  refine (wform_any ⟨n, hi, lo⟩ _ HX.out).mono ?_
  rintro e w1 ⟨rfl, hb1⟩
  rw [hf]
  have hx1 := keep hb1 KX.out
  have hr1 := keep hb1 KR.out
  have x0 := cell_at hx1 0
  have x1 := cell_at hx1 1
  have x2 := cell_at hx1 2
  simp at x0 x1 x2
  have HB1 := Lib.hid (HB.out.trans (hb1.mono HB.out.size))
  have HR1 := Lib.hid hr1
  clear hb1 hx1 hr1
  go_wp2_with fail
  refine (wmade_any (!n) hi lo _ HX.out.1.1 HX.out.1.2 HX.out.2.1 HX.out.2.2).mono ?_
  rintro e w2 ⟨rfl, hb2⟩
  have hr2 := keep hb2 HR1.out
  have q0 := cell_at hr2 0
  have q1 := cell_at hr2 1
  have q2 := cell_at hr2 2
  have g0 := free_at hr2 0
  have g1 := free_at hr2 1
  have g2 := free_at hr2 2
  simp at q0 q1 q2
  have HB2 := Lib.hid (HB1.out.trans (hb2.mono HB1.out.size))
  clear hb2 x0 x1 x2
  dsimp only [WI.v, WI.made]
  go_wp2_with fail
  refine bodyPost_ret (v := .agg #[.bool (!n && !(hi == 0 && lo == 0)), .int .u64 hi, .int .u64 lo]) (by simp [results, Tryz.results173, go_sem, q0, q1, q2]) rfl ?_
  exact ⟨rfl, ((HB2.out.setCell (by simp) _).setCell (by simp) _).setCell (by simp) _⟩
set_option maxRecDepth 100000 in
theorem wfit_any (n : Bool) (hi lo : Int) (w : World) (h1 : 0 ≤ hi) (h2 : hi < 9223372036854775808) (h3 : 0 ≤ lo) (h4 : lo ≤ 18446744073709551615) :
    Calls Tryz.prog 180 #[.bool n, .int .u64 hi, .int .u64 lo] w fun e w' => e = .returned (.tuple #[WI.v (WI.made n hi lo), .int .i64 0]) ∧ Below w.heap.size w w' := by
  have hb : Below w.heap.size w (w.alloc (.cells #[.bool false, .int .u64 0, .int .u64 0] 148)) := by go_grown
  have kr := heap_alloc_new w (.cells #[.bool false, .int .u64 0, .int .u64 0] 148)
  have HB := Lib.hid hb
  have KR := Lib.hid kr
  have e1 : decide ((9223372036854775808 : Int) ≤ hi) = false := by simp; omega
  clear hb kr
  go_enter Tryz.func180, Tryz.ntmps180
  go_wp2_with fail
  refine (wmade_any n hi lo _ h1 (by omega) h3 h4).mono ?_
  rintro e w2 ⟨rfl, hb2⟩
  have hr2 := keep hb2 KR.out
  have q0 := cell_at hr2 0
  have q1 := cell_at hr2 1
  have q2 := cell_at hr2 2
  have g0 := free_at hr2 0
  have g1 := free_at hr2 1
  have g2 := free_at hr2 2
  simp at q0 q1 q2
  have HB2 := Lib.hid (HB.out.trans (hb2.mono HB.out.size))
  clear hb2
  dsimp only [WI.v, WI.made]
  go_wp2_with fail
  refine bodyPost_ret (v := .tuple #[.agg #[.bool (n && !(hi == 0 && lo == 0)), .int .u64 hi, .int .u64 lo], .int .i64 0]) (by simp [results, Tryz.results180, go_sem, q0, q1, q2]) rfl ?_
  exact ⟨rfl, ((HB2.out.setCell (by simp) _).setCell (by simp) _).setCell (by simp) _⟩
set_option maxRecDepth 100000 in
theorem wcheck_any (x y : WI) (w : World) (hx : x.wf) (hy : y.wf) (fx : x.form = true) (fy : y.form = true) : Calls Tryz.prog 171 #[x.v, y.v, .bool false] w fun e w' => e = .returned (.int .i64 0) ∧ Below w.heap.size w w' := by
  have hb : Below w.heap.size w ((w.alloc (.cells x.cs 148)).alloc (.cells y.cs 148)) := by go_grown
  have ky := heap_alloc_new (w.alloc (.cells x.cs 148)) (.cells y.cs 148)
  have hz : (w.alloc (.cells x.cs 148)).heap.size = w.heap.size + 1 := by simp
  rw [hz] at ky
  obtain ⟨n, hi, lo⟩ := x
  obtain ⟨n', hi', lo'⟩ := y
  dsimp only [WI.v, WI.cs] at *
  have HX := Lib.hid hx
  have HY := Lib.hid hy
  have KY := Lib.hid ky
  have HB := Lib.hid hb
  clear ky hb hz hx hy
  go_enter Tryz.func171, Tryz.ntmps171
  go_wp2_with fail
  refine (wform_any ⟨n, hi, lo⟩ _ HX.out).mono ?_
  rintro e w1 ⟨rfl, hb1⟩
  rw [fx]
  have hy1 := keep hb1 KY.out
  have x0 := cell_at hy1 0
  have x1 := cell_at hy1 1
  have x2 := cell_at hy1 2
  simp at x0 x1 x2
  have HB1 := Lib.hid (HB.out.trans (hb1.mono HB.out.size))
  clear hb1 hy1
  go_wp2_with fail
  refine (wform_any ⟨n', hi', lo'⟩ _ HY.out).mono ?_
  rintro e w2 ⟨rfl, hb2⟩
  rw [fy]
  have HB2 := Lib.hid (HB1.out.trans (hb2.mono HB1.out.size))
  clear hb2
  go_wp2_with fail
  go_returns
  exact ⟨rfl, HB2.out⟩
theorem one_made {n : Bool} {hi lo : Int} (h : lo ≠ 0) : WI.made n hi lo = ⟨n, hi, lo⟩ := by unfold WI.made; simp [h]
theorem form_lo {n : Bool} {lo : Int} (h : lo ≠ 0) : WI.form ⟨n, 0, lo⟩ = true := by unfold WI.form; simp [h]
theorem wf_lo {n : Bool} {lo : Int} (h0 : 0 ≤ lo) (h1 : lo ≤ 18446744073709551615) : WI.wf ⟨n, 0, lo⟩ := ⟨⟨by simp, by simp⟩, h0, h1⟩
set_option maxRecDepth 100000 in
theorem wadd_neg (p : Int) (w : World) (h1 : 1 ≤ p) (h2 : p ≤ 9223372036854775807) : Calls Tryz.prog 172 #[WI.v ⟨true, 0, p⟩, WI.v ⟨true, 0, 1⟩] w fun e w' => e = .returned (.tuple #[WI.v ⟨true, 0, p + 1⟩, .int .i64 0]) ∧ Below w.heap.size w w' := by
  have hb : Below w.heap.size w (((w.alloc (.cells #[.bool true, .int .u64 0, .int .u64 p] 148)).alloc (.cells #[.bool true, .int .u64 0, .int .u64 1] 148)).alloc (.cells #[.bool false, .int .u64 0, .int .u64 0] 148)) := by go_grown
  have kx := keepA (.cells #[.bool false, .int .u64 0, .int .u64 0] 148) (keepA (.cells #[.bool true, .int .u64 0, .int .u64 1] 148) (heap_alloc_new w (.cells #[.bool true, .int .u64 0, .int .u64 p] 148)))
  have ky := keepA (.cells #[.bool false, .int .u64 0, .int .u64 0] 148) (heap_alloc_new (w.alloc (.cells #[.bool true, .int .u64 0, .int .u64 p] 148)) (.cells #[.bool true, .int .u64 0, .int .u64 1] 148))
  have kr := heap_alloc_new ((w.alloc (.cells #[.bool true, .int .u64 0, .int .u64 p] 148)).alloc (.cells #[.bool true, .int .u64 0, .int .u64 1] 148)) (.cells #[.bool false, .int .u64 0, .int .u64 0] 148)
  rw [World.size_alloc] at ky
  rw [World.size_alloc, World.size_alloc] at kr
  have KX := Lib.hid kx
  have KY := Lib.hid ky
  have KR := Lib.hid kr
  have HB := Lib.hid hb
  clear kx ky kr hb
  dsimp only [WI.v]
  have HP := Lib.hid (And.intro h1 h2)
  have a1 : (p + 1 + 0) % 18446744073709551616 = p + 1 := by omega
  have a2 : (p + 1 + 0) / 18446744073709551616 = 0 := by omega
  go_enter Tryz.func172, Tryz.ntmps172
  go_wp2_with fail
  refine (wcheck_any ⟨true, 0, p⟩ ⟨true, 0, 1⟩ _ (wf_lo (by omega) (by omega)) (wf_lo (by omega) (by omega)) (form_lo (by omega)) (form_lo (by omega))).mono ?_
  rintro e w1 ⟨rfl, hb1⟩
  have hx1 := keep hb1 KX.out
  have hy1 := keep hb1 KY.out
  have hr1 := keep hb1 KR.out
  have x0 := cell_at hx1 0
  have x1 := cell_at hx1 1
  have x2 := cell_at hx1 2
  have y0 := cell_at hy1 0
  have y1 := cell_at hy1 1
  have y2 := cell_at hy1 2
  simp at x0 x1 x2 y0 y1 y2
  have HB1 := Lib.hid (HB.out.trans (hb1.mono HB.out.size))
  have HR1 := Lib.hid hr1
  clear hb1 hx1 hy1 hr1
  go_wp2
  rw [run_callFunc_extern Tryz.func179 (by kernel_rfl) (by kernel_rfl) (by kernel_rfl) (e := add64Entry) (by kernel_rfl), run_add64 p 1 0 (by omega) (by omega) (by omega) (by omega)]
  simp only [Result.andThen]
  rw [Oper.upon_value, a1, a2]
  go_wp2
  rw [run_callFunc_extern Tryz.func179 (by kernel_rfl) (by kernel_rfl) (by kernel_rfl) (e := add64Entry) (by kernel_rfl), run_add64 0 0 0 (by omega) (by omega) (by omega) (by omega)]
  simp only [Result.andThen]
  rw [Oper.upon_value]
  go_wp2_with fail
  refine (wfit_any true 0 (p + 1) _ (by omega) (by omega) (by omega) (by omega)).mono ?_
  rintro e w2 ⟨rfl, hb2⟩
  rw [one_made (by omega)]
  have hr2 := keep hb2 HR1.out
  have q0 := cell_at hr2 0
  have q1 := cell_at hr2 1
  have q2 := cell_at hr2 2
  have g0 := free_at hr2 0
  have g1 := free_at hr2 1
  have g2 := free_at hr2 2
  simp at q0 q1 q2
  have HB2 := Lib.hid (HB1.out.trans (hb2.mono HB1.out.size))
  clear hb2 x0 x1 x2 y0 y1 y2
  dsimp only [WI.v]
  go_wp2_with fail
  refine bodyPost_ret (v := .tuple #[.agg #[.bool true, .int .u64 0, .int .u64 (p + 1)], .int .i64 0]) (by simp [results, Tryz.results172, go_sem, q0, q1, q2]) rfl ?_
  exact ⟨rfl, ((HB2.out.setCell (by show w.heap.size ≤ w.heap.size + 1 + 1; omega) _).setCell (by show w.heap.size ≤ w.heap.size + 1 + 1; omega) _).setCell (by show w.heap.size ≤ w.heap.size + 1 + 1; omega) _⟩
set_option maxRecDepth 100000 in
set_option maxHeartbeats 8000000 in
theorem wsub_one (p : Int) (w : World) (h1 : 1 ≤ p) (h2 : p ≤ 9223372036854775807) : Calls Tryz.prog 152 #[WI.v ⟨true, 0, p⟩, WI.v ⟨false, 0, 1⟩] w fun e w' => e = .returned (.tuple #[WI.v ⟨true, 0, p + 1⟩, .int .i64 0]) ∧ Below w.heap.size w w' := by
  have hb : Below w.heap.size w (((w.alloc (.cells #[.bool true, .int .u64 0, .int .u64 p] 148)).alloc (.cells #[.bool false, .int .u64 0, .int .u64 1] 148)).alloc (.cells #[.bool false, .int .u64 0, .int .u64 0] 148)) := by go_grown
  have kx := keepA (.cells #[.bool false, .int .u64 0, .int .u64 0] 148) (keepA (.cells #[.bool false, .int .u64 0, .int .u64 1] 148) (heap_alloc_new w (.cells #[.bool true, .int .u64 0, .int .u64 p] 148)))
  have ky := keepA (.cells #[.bool false, .int .u64 0, .int .u64 0] 148) (heap_alloc_new (w.alloc (.cells #[.bool true, .int .u64 0, .int .u64 p] 148)) (.cells #[.bool false, .int .u64 0, .int .u64 1] 148))
  have kr := heap_alloc_new ((w.alloc (.cells #[.bool true, .int .u64 0, .int .u64 p] 148)).alloc (.cells #[.bool false, .int .u64 0, .int .u64 1] 148)) (.cells #[.bool false, .int .u64 0, .int .u64 0] 148)
  rw [World.size_alloc] at ky
  rw [World.size_alloc, World.size_alloc] at kr
  have KX := Lib.hid kx
  have KY := Lib.hid ky
  have KR := Lib.hid kr
  have HB := Lib.hid hb
  clear kx ky kr hb
  dsimp only [WI.v]
  have HP := Lib.hid (And.intro h1 h2)
  go_enter Tryz.func152, Tryz.ntmps152
  go_wp2_with fail
  refine (wcheck_any ⟨true, 0, p⟩ ⟨false, 0, 1⟩ _ (wf_lo (by omega) (by omega)) (wf_lo (by omega) (by omega)) (form_lo (by omega)) (form_lo (by omega))).mono ?_
  rintro e w1 ⟨rfl, hb1⟩
  have hx1 := keep hb1 KX.out
  have hy1 := keep hb1 KY.out
  have hr1 := keep hb1 KR.out
  have x0 := cell_at hx1 0
  have x1 := cell_at hx1 1
  have x2 := cell_at hx1 2
  have y0 := cell_at hy1 0
  have y1 := cell_at hy1 1
  have y2 := cell_at hy1 2
  simp at x0 x1 x2 y0 y1 y2
  have HB1 := Lib.hid (HB.out.trans (hb1.mono HB.out.size))
  have HR1 := Lib.hid hr1
  have HX1 := Lib.hid hx1
  clear hb1 hx1 hy1 hr1
  have fin : ∀ w3, Below w1.heap.size w1 w3 → w3.heap[w.heap.size + 1 + 1]? = some (.cells #[.bool false, .int .u64 0, .int .u64 0] 148 (0, 0)) := fun w3 h => keep h HR1.out
  have FIN := Lib.hid fin
  clear fin
  go_upto_region 4 with (fail)
  go_region_with (first
    | (go_at_call 173; refine (wneg_any ⟨false, 0, 1⟩ _ (wf_lo (by omega) (by omega)) (form_lo (by omega))).mono ?_; rintro e w2 ⟨rfl, hb2⟩; rw [one_made (by simp)]; dsimp only [WI.v]; have HB2 := Lib.hid (show Below w1.heap.size w1 w2 from ((Below.refl w1.heap.size w1).drew).trans (hb2.mono (by simp))); clear hb2; have z0 := cell_at (keep HB2.out HX1.out) 0; have z1 := cell_at (keep HB2.out HX1.out) 1; have z2 := cell_at (keep HB2.out HX1.out) 2; simp at z0 z1 z2)
    | (go_at_call 172; refine (wadd_neg p _ HP.out.1 HP.out.2).mono ?_; rintro e w3 ⟨rfl, hb3⟩; dsimp only [WI.v]; have HB3 := Lib.hid (HB2.out.trans (hb3.mono HB2.out.size)); clear hb3; have hr2 := FIN.out _ HB3.out; have q0 := cell_at hr2 0; have q1 := cell_at hr2 1; have q2 := cell_at hr2 2; have g0 := free_at hr2 0; have g1 := free_at hr2 1; have g2 := free_at hr2 2; simp at q0 q1 q2; have HB4 := Lib.hid (HB1.out.trans (HB3.out.mono HB1.out.size)))
    )
  all_goals
    go_wp2_with fail
    refine bodyPost_ret (v := .tuple #[.agg #[.bool true, .int .u64 0, .int .u64 (p + 1)], .int .i64 0]) (by simp [results, Tryz.results152, go_sem, q0, q1, q2]) rfl ?_
    exact ⟨rfl, ((HB4.out.setCell (by show w.heap.size ≤ w.heap.size + 1 + 1; omega) _).setCell (by show w.heap.size ≤ w.heap.size + 1 + 1; omega) _).setCell (by show w.heap.size ≤ w.heap.size + 1 + 1; omega) _⟩
end Go.Proofs.YtoadihebdaooaaaGreat
