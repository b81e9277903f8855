/- Contracts of wide.Add and wide.Sub where the signs differ. · Contracts of wide.Sub where the difference is not above 0. -/
import Derived.Test.YtgebbmfoamkfnaaGreatDoorT19
import Derived.Laws.Externs
namespace Go.Proofs.YtgebbmfoamkfnaaGreatDoor
open Go.RowKit
set_option linter.unusedVariables false
def sub64E : Array Value → Sem Value := fun args => do
 let (x, y, b) ← Extern.MathBitsCarry.three "Sub64" args
 pure (Extern.MathBitsCarry.pair ((x + Extern.MathBitsCarry.m64 - y - b) % Extern.MathBitsCarry.m64) (if x < y + b then 1 else 0))
theorem run_sub64E {P : Program} (x y : Int) (h0 : 0 ≤ y) (h1 : y ≤ x) (h2 : x ≤ 18446744073709551615) (w : World) :
  (sub64E #[.int .u64 x, .int .u64 y, .int .u64 0]).run P w = .ok (.tuple #[.int .u64 (x - y), .int .u64 0]) w := by
 have key : (sub64E #[.int .u64 x, .int .u64 y, .int .u64 0]).run P w =
   .ok (Extern.MathBitsCarry.pair ((x.toNat + Extern.MathBitsCarry.m64 - y.toNat - 0) % Extern.MathBitsCarry.m64) (if x.toNat < y.toNat + 0 then 1 else 0)) w := rfl
 rw [key]
 obtain ⟨X, rfl⟩ := Int.eq_ofNat_of_zero_le (show 0 ≤ x by omega)
 obtain ⟨Y, rfl⟩ := Int.eq_ofNat_of_zero_le h0
 have e : (X + 18446744073709551616 - Y - 0) % 18446744073709551616 = X - Y := by omega
 have e2 : ¬ X < Y + 0 := by omega
 have e3 : ((X - Y : Nat) : Int) = (X : Int) - Y := by omega
 simp only [Extern.MathBitsCarry.pair, Extern.MathBitsCarry.m64, Int.toNat_natCast]
 rw [show (2 ^ 64 : Nat) = 18446744073709551616 from rfl, e, if_neg e2, Int.ofNat_eq_natCast, e3]
 rfl
theorem made_zero {n : Bool} : WI.made n 0 0 = ⟨false, 0, 0⟩ := by unfold WI.made; simp
theorem sizeF_lt {n m : Bool} {p q : Int} (h : p < q) : sizeF ⟨n, 0, p⟩ ⟨m, 0, q⟩ = -1 := by
 unfold sizeF; simp; omega
theorem sizeF_eq {n m : Bool} {p : Int} : sizeF ⟨n, 0, p⟩ ⟨m, 0, p⟩ = 0 := by
 unfold sizeF; simp
theorem swap_world (w : World) (a b r : Nat) (x0 x1 x2 y0 y1 y2 : Value) (T : TypeId) (o : Obj) (ha : w.heap[a]? = some (.cells #[x0, x1, x2] T (0, 0))) (hb : w.heap[b]? = some (.cells #[y0, y1, y2] T (0, 0))) (hr : w.heap[r]? = some o) (hab : a ≠ b) (hra : r ≠ a) (hrb : r ≠ b) :
  ∃ w3, w3 = (((((w.setCell ⟨a, 0, none⟩ y0).setCell ⟨a, 1, none⟩ y1).setCell ⟨a, 2, none⟩ y2).setCell ⟨b, 0, none⟩ x0).setCell ⟨b, 1, none⟩ x1).setCell ⟨b, 2, none⟩ x2 ∧
   w3.heap[a]? = some (.cells #[y0, y1, y2] T (0, 0)) ∧ w3.heap[b]? = some (.cells #[x0, x1, x2] T (0, 0)) ∧ w3.heap[r]? = some o ∧ ∀ B, B ≤ a → B ≤ b → Below B w w3 := by
 refine ⟨_, rfl, ?_, ?_, ?_, ?_⟩
 ·rw [hset_ne _ _ _ _ hab, hset_ne _ _ _ _ hab, hset_ne _ _ _ _ hab, hset _ _ _ _ _ _ _ (hset _ _ _ _ _ _ _ (hset _ _ _ _ _ _ _ ha))]; rfl
 ·have h1 : (((w.setCell ⟨a, 0, none⟩ y0).setCell ⟨a, 1, none⟩ y1).setCell ⟨a, 2, none⟩ y2).heap[b]? = some (.cells #[y0, y1, y2] T (0, 0)) := by
   rw [hset_ne _ _ _ _ (Ne.symm hab), hset_ne _ _ _ _ (Ne.symm hab), hset_ne _ _ _ _ (Ne.symm hab)]; exact hb
  rw [hset _ _ _ _ _ _ _ (hset _ _ _ _ _ _ _ (hset _ _ _ _ _ _ _ h1))]; rfl
 ·rw [hset_ne _ _ _ _ hrb, hset_ne _ _ _ _ hrb, hset_ne _ _ _ _ hrb, hset_ne _ _ _ _ hra, hset_ne _ _ _ _ hra, hset_ne _ _ _ _ hra]; exact hr
 ·intro B h1 h2
  exact ((((((Below.refl B w).setCell h1 _).setCell h1 _).setCell h1 _).setCell h2 _).setCell h2 _).setCell h2 _
set_option maxRecDepth 100000 in
set_option maxHeartbeats 2000000 in
theorem wadd_lt (p q : Int) (w : World) (h0 : 0 ≤ p) (h1 : p < q) (h2 : q ≤ 18446744073709551615) : Calls Tryz.prog 214 #[WI.v ⟨false, 0, p⟩, WI.v ⟨true, 0, q⟩] w fun e w' => e = .returned (.tuple #[WI.v ⟨true, 0, q - p⟩, .int .i64 0]) ∧ Below w.heap.size w w' := by
 have hb : Below w.heap.size w (((w.alloc (.cells #[.bool false, .int .u64 0, .int .u64 p] 87)).alloc (.cells #[.bool true, .int .u64 0, .int .u64 q] 87)).alloc (.cells #[.bool false, .int .u64 0, .int .u64 0] 87)) := by go_grown
 have kx := keepA (.cells #[.bool false, .int .u64 0, .int .u64 0] 87) (keepA (.cells #[.bool true, .int .u64 0, .int .u64 q] 87) (heap_alloc_new w (.cells #[.bool false, .int .u64 0, .int .u64 p] 87)))
 have ky := keepA (.cells #[.bool false, .int .u64 0, .int .u64 0] 87) (heap_alloc_new (w.alloc (.cells #[.bool false, .int .u64 0, .int .u64 p] 87)) (.cells #[.bool true, .int .u64 0, .int .u64 q] 87))
 have kr := heap_alloc_new ((w.alloc (.cells #[.bool false, .int .u64 0, .int .u64 p] 87)).alloc (.cells #[.bool true, .int .u64 0, .int .u64 q] 87)) (.cells #[.bool false, .int .u64 0, .int .u64 0] 87)
 rw [World.size_alloc] at ky
 rw [World.size_alloc, World.size_alloc] at kr
 have KX := Lib.hid kx
 have KY := Lib.hid ky
 have KR := Lib.hid kr
 have HB := Lib.hid hb
 clear kx ky kr hb
 dsimp only [WI.v]
 go_enter Tryz.func214, Tryz.ntmps214
 go_wp2_with fail
 refine (wcheck_any ⟨false, 0, p⟩ ⟨true, 0, q⟩ _ ⟨⟨by simp, by simp⟩, h0, by show p ≤ _; omega⟩ (wf_lo (by omega) (by omega)) (by simp [WI.form]) (form_lo (by omega))).mono ?_
 rintro e w1 ⟨rfl, hb1⟩
 have hx1 := keep hb1 KX.out
 have hy1 := keep hb1 KY.out
 have hr1 := keep hb1 KR.out
 have x0 := cell_at hx1 0
 have x1 := cell_at hx1 1
 have x2 := cell_at hx1 2
 have y0 := cell_at hy1 0
 have y1 := cell_at hy1 1
 have y2 := cell_at hy1 2
 simp at x0 x1 x2 y0 y1 y2
 have HB1 := Lib.hid (HB.out.trans (hb1.mono HB.out.size))
 have HR1 := Lib.hid hr1
 have HX1 := Lib.hid hx1
 have HY1 := Lib.hid hy1
 clear hb1 hx1 hy1 hr1
 go_wp2_with fail
 refine (wsize_any ⟨false, 0, p⟩ ⟨true, 0, q⟩ _).mono ?_
 rintro e w2 ⟨rfl, hb2⟩
 rw [sizeF_lt h1]
 have hx2 := keep hb2 HX1.out
 have hy2 := keep hb2 HY1.out
 have hr2 := keep hb2 HR1.out
 have u0 := cell_at hx2 0
 have u1 := cell_at hx2 1
 have u2 := cell_at hx2 2
 have v0 := cell_at hy2 0
 have v1 := cell_at hy2 1
 have v2 := cell_at hy2 2
 have fu0 := free_at hx2 0
 have fu1 := free_at hx2 1
 have fu2 := free_at hx2 2
 have fv0 := free_at hy2 0
 have fv1 := free_at hy2 1
 have fv2 := free_at hy2 2
 simp at u0 u1 u2 v0 v1 v2
 have HB2 := Lib.hid (HB1.out.trans (hb2.mono HB1.out.size))
 have HX2 := Lib.hid hx2
 have HY2 := Lib.hid hy2
 have HR2 := Lib.hid hr2
 clear hb2 hx2 hy2 hr2 x0 x1 x2 y0 y1 y2
 go_wp2_with fail
 obtain ⟨w3, hw3, hx3, hy3, hr3, hb3⟩ := swap_world w2 _ _ _ _ _ _ _ _ _ _ _ HX2.out HY2.out HR2.out (by omega) (by omega) (by omega)
 rw [← hw3]
 clear hw3 u0 u1 u2 v0 v1 v2 fu0 fu1 fu2 fv0 fv1 fv2
 have u0 := cell_at hx3 0
 have u1 := cell_at hx3 1
 have u2 := cell_at hx3 2
 have v0 := cell_at hy3 0
 have v1 := cell_at hy3 1
 have v2 := cell_at hy3 2
 simp at u0 u1 u2 v0 v1 v2
 have HB3 := Lib.hid (HB2.out.trans (hb3 w.heap.size (by omega) (by omega)))
 have HR3 := Lib.hid hr3
 clear hb3 hx3 hy3 hr3
 rw [run_callFunc_extern Tryz.func220 (by kernel_rfl) (by kernel_rfl) (by kernel_rfl) (e := sub64E) (by kernel_rfl), run_sub64E q p (by omega) (by omega) (by omega)]
 simp only [Result.andThen]
 rw [Oper.upon_value]
 go_wp2
 rw [run_callFunc_extern Tryz.func220 (by kernel_rfl) (by kernel_rfl) (by kernel_rfl) (e := sub64E) (by kernel_rfl), run_sub64E 0 0 (by omega) (by omega) (by omega)]
 simp only [Result.andThen]
 rw [Oper.upon_value]
 go_wp2_with fail
 refine (wfit_any true 0 (q - p) _ (by omega) (by omega) (by omega) (by omega)).mono ?_
 rintro e w4 ⟨rfl, hb4⟩
 rw [one_made (by omega)]
 have hr4 := keep hb4 HR3.out
 have q0 := cell_at hr4 0
 have q1 := cell_at hr4 1
 have q2 := cell_at hr4 2
 have g0 := free_at hr4 0
 have g1 := free_at hr4 1
 have g2 := free_at hr4 2
 simp at q0 q1 q2
 have HB4 := Lib.hid (HB3.out.trans (hb4.mono HB3.out.size))
 clear hb4 u0 u1 u2 v0 v1 v2
 dsimp only [WI.v]
 go_wp2_with fail
 refine bodyPost_ret (v := .tuple #[.agg #[.bool true, .int .u64 0, .int .u64 (q - p)], .int .i64 0]) (by simp [results, Tryz.results214, go_sem, q0, q1, q2]) rfl ?_
 exact ⟨rfl, ((HB4.out.setCell (by show w.heap.size ≤ w.heap.size + 1 + 1; omega) _).setCell (by show w.heap.size ≤ w.heap.size + 1 + 1; omega) _).setCell (by show w.heap.size ≤ w.heap.size + 1 + 1; omega) _⟩
set_option maxRecDepth 100000 in
set_option maxHeartbeats 2000000 in
theorem wadd_eq (q : Int) (w : World) (h0 : 1 ≤ q) (h2 : q ≤ 18446744073709551615) : Calls Tryz.prog 214 #[WI.v ⟨false, 0, q⟩, WI.v ⟨true, 0, q⟩] w fun e w' => e = .returned (.tuple #[WI.v ⟨false, 0, 0⟩, .int .i64 0]) ∧ Below w.heap.size w w' := by
 have hb : Below w.heap.size w (((w.alloc (.cells #[.bool false, .int .u64 0, .int .u64 q] 87)).alloc (.cells #[.bool true, .int .u64 0, .int .u64 q] 87)).alloc (.cells #[.bool false, .int .u64 0, .int .u64 0] 87)) := by go_grown
 have kx := keepA (.cells #[.bool false, .int .u64 0, .int .u64 0] 87) (keepA (.cells #[.bool true, .int .u64 0, .int .u64 q] 87) (heap_alloc_new w (.cells #[.bool false, .int .u64 0, .int .u64 q] 87)))
 have ky := keepA (.cells #[.bool false, .int .u64 0, .int .u64 0] 87) (heap_alloc_new (w.alloc (.cells #[.bool false, .int .u64 0, .int .u64 q] 87)) (.cells #[.bool true, .int .u64 0, .int .u64 q] 87))
 have kr := heap_alloc_new ((w.alloc (.cells #[.bool false, .int .u64 0, .int .u64 q] 87)).alloc (.cells #[.bool true, .int .u64 0, .int .u64 q] 87)) (.cells #[.bool false, .int .u64 0, .int .u64 0] 87)
 rw [World.size_alloc] at ky
 rw [World.size_alloc, World.size_alloc] at kr
 have KX := Lib.hid kx
 have KY := Lib.hid ky
 have KR := Lib.hid kr
 have HB := Lib.hid hb
 clear kx ky kr hb
 dsimp only [WI.v]
 go_enter Tryz.func214, Tryz.ntmps214
 go_wp2_with fail
 refine (wcheck_any ⟨false, 0, q⟩ ⟨true, 0, q⟩ _ (wf_lo (by omega) (by omega)) (wf_lo (by omega) (by omega)) (by simp [WI.form]) (form_lo (by omega))).mono ?_
 rintro e w1 ⟨rfl, hb1⟩
 have hx1 := keep hb1 KX.out
 have hy1 := keep hb1 KY.out
 have hr1 := keep hb1 KR.out
 have x0 := cell_at hx1 0
 have x1 := cell_at hx1 1
 have x2 := cell_at hx1 2
 have y0 := cell_at hy1 0
 have y1 := cell_at hy1 1
 have y2 := cell_at hy1 2
 simp at x0 x1 x2 y0 y1 y2
 have HB1 := Lib.hid (HB.out.trans (hb1.mono HB.out.size))
 have HR1 := Lib.hid hr1
 have HX1 := Lib.hid hx1
 have HY1 := Lib.hid hy1
 clear hb1 hx1 hy1 hr1
 go_wp2_with fail
 refine (wsize_any ⟨false, 0, q⟩ ⟨true, 0, q⟩ _).mono ?_
 rintro e w2 ⟨rfl, hb2⟩
 rw [sizeF_eq]
 have hx2 := keep hb2 HX1.out
 have hy2 := keep hb2 HY1.out
 have hr2 := keep hb2 HR1.out
 have u0 := cell_at hx2 0
 have u1 := cell_at hx2 1
 have u2 := cell_at hx2 2
 have v0 := cell_at hy2 0
 have v1 := cell_at hy2 1
 have v2 := cell_at hy2 2
 have fu0 := free_at hx2 0
 have fu1 := free_at hx2 1
 have fu2 := free_at hx2 2
 have fv0 := free_at hy2 0
 have fv1 := free_at hy2 1
 have fv2 := free_at hy2 2
 simp at u0 u1 u2 v0 v1 v2
 have HB2 := Lib.hid (HB1.out.trans (hb2.mono HB1.out.size))
 have HX2 := Lib.hid hx2
 have HY2 := Lib.hid hy2
 have HR2 := Lib.hid hr2
 clear hb2 hx2 hy2 hr2 x0 x1 x2 y0 y1 y2
 have HB3 := HB2
 have HR3 := HR2
 go_wp2_with fail
 rw [run_callFunc_extern Tryz.func220 (by kernel_rfl) (by kernel_rfl) (by kernel_rfl) (e := sub64E) (by kernel_rfl), run_sub64E q q (by omega) (by omega) (by omega), Int.sub_self]
 simp only [Result.andThen]
 rw [Oper.upon_value]
 go_wp2
 rw [run_callFunc_extern Tryz.func220 (by kernel_rfl) (by kernel_rfl) (by kernel_rfl) (e := sub64E) (by kernel_rfl), run_sub64E 0 0 (by omega) (by omega) (by omega)]
 simp only [Result.andThen]
 rw [Oper.upon_value]
 go_wp2_with fail
 refine (wfit_any false 0 0 _ (by omega) (by omega) (by omega) (by omega)).mono ?_
 rintro e w4 ⟨rfl, hb4⟩
 rw [made_zero]
 have hr4 := keep hb4 HR3.out
 have q0 := cell_at hr4 0
 have q1 := cell_at hr4 1
 have q2 := cell_at hr4 2
 have g0 := free_at hr4 0
 have g1 := free_at hr4 1
 have g2 := free_at hr4 2
 simp at q0 q1 q2
 have HB4 := Lib.hid (HB3.out.trans (hb4.mono HB3.out.size))
 clear hb4 u0 u1 u2 v0 v1 v2
 dsimp only [WI.v]
 go_wp2_with fail
 refine bodyPost_ret (v := .tuple #[.agg #[.bool false, .int .u64 0, .int .u64 0], .int .i64 0]) (by simp [results, Tryz.results214, go_sem, q0, q1, q2]) rfl ?_
 exact ⟨rfl, ((HB4.out.setCell (by show w.heap.size ≤ w.heap.size + 1 + 1; omega) _).setCell (by show w.heap.size ≤ w.heap.size + 1 + 1; omega) _).setCell (by show w.heap.size ≤ w.heap.size + 1 + 1; omega) _⟩
end Go.Proofs.YtgebbmfoamkfnaaGreatDoor
namespace Go.Proofs.YtgebbmfoamkfnaaGreatDoor
open Go.RowKit
set_option linter.unusedVariables false
theorem wadd_mix (p q : Int) (w : World) (h0 : 0 ≤ p) (h1 : p ≤ q) (h2 : 1 ≤ q) (h3 : q ≤ 18446744073709551615) : Calls Tryz.prog 214 #[WI.v ⟨false, 0, p⟩, WI.v ⟨true, 0, q⟩] w fun e w' => e = .returned (.tuple #[WI.v (WI.made true 0 (q - p)), .int .i64 0]) ∧ Below w.heap.size w w' := by
 by_cases he : p = q
 ·subst he
  rw [Int.sub_self, made_zero]
  exact wadd_eq p w h2 h3
 ·rw [one_made (by omega)]
  exact wadd_lt p q w h0 (by omega) h3
set_option maxRecDepth 100000 in
set_option maxHeartbeats 8000000 in
theorem wsub_pos (p q : Int) (w : World) (h0 : 0 ≤ p) (h1 : p ≤ q) (h2 : 1 ≤ q) (h3 : q ≤ 18446744073709551615) : Calls Tryz.prog 206 #[WI.v ⟨false, 0, p⟩, WI.v ⟨false, 0, q⟩] w fun e w' => e = .returned (.tuple #[WI.v (WI.made true 0 (q - p)), .int .i64 0]) ∧ Below w.heap.size w w' := by
 have hb : Below w.heap.size w (((w.alloc (.cells #[.bool false, .int .u64 0, .int .u64 p] 87)).alloc (.cells #[.bool false, .int .u64 0, .int .u64 q] 87)).alloc (.cells #[.bool false, .int .u64 0, .int .u64 0] 87)) := by go_grown
 have kx := keepA (.cells #[.bool false, .int .u64 0, .int .u64 0] 87) (keepA (.cells #[.bool false, .int .u64 0, .int .u64 q] 87) (heap_alloc_new w (.cells #[.bool false, .int .u64 0, .int .u64 p] 87)))
 have ky := keepA (.cells #[.bool false, .int .u64 0, .int .u64 0] 87) (heap_alloc_new (w.alloc (.cells #[.bool false, .int .u64 0, .int .u64 p] 87)) (.cells #[.bool false, .int .u64 0, .int .u64 q] 87))
 have kr := heap_alloc_new ((w.alloc (.cells #[.bool false, .int .u64 0, .int .u64 p] 87)).alloc (.cells #[.bool false, .int .u64 0, .int .u64 q] 87)) (.cells #[.bool false, .int .u64 0, .int .u64 0] 87)
 rw [World.size_alloc] at ky
 rw [World.size_alloc, World.size_alloc] at kr
 have KX := Lib.hid kx
 have KY := Lib.hid ky
 have KR := Lib.hid kr
 have HB := Lib.hid hb
 clear kx ky kr hb
 have HA : Hid (∀ w, Calls Tryz.prog 214 #[WI.v ⟨false, 0, p⟩, WI.v ⟨true, 0, q⟩] w fun e w' => e = .returned (.tuple #[WI.v (WI.made true 0 (q - p)), .int .i64 0]) ∧ Below w.heap.size w w') := Lib.hid (fun w => wadd_mix p q w h0 h1 h2 h3)
 obtain ⟨⟨rn, rh, rl⟩, hr⟩ : ∃ r, r = WI.made true 0 (q - p) := ⟨_, rfl⟩
 rw [← hr] at HA ⊢
 clear hr
 dsimp only [WI.v] at *
 have HN : Hid (WI.made (!(⟨false, 0, q⟩ : WI).neg) (⟨false, 0, q⟩ : WI).hi (⟨false, 0, q⟩ : WI).lo = ⟨true, 0, q⟩) := Lib.hid (by show WI.made true 0 q = _; exact one_made (by omega))
 have H0 := Lib.hid (show WI.wf ⟨false, 0, p⟩ from ⟨⟨by simp, by simp⟩, h0, by show p ≤ _; omega⟩)
 go_enter Tryz.func206, Tryz.ntmps206
 go_wp2_with fail
 refine (wcheck_any ⟨false, 0, p⟩ ⟨false, 0, q⟩ _ H0.out (wf_lo (by omega) (by omega)) (by simp [WI.form]) (form_lo (by omega))).mono ?_
 rintro e w1 ⟨rfl, hb1⟩
 have hx1 := keep hb1 KX.out
 have hy1 := keep hb1 KY.out
 have hr1 := keep hb1 KR.out
 have x0 := cell_at hx1 0
 have x1 := cell_at hx1 1
 have x2 := cell_at hx1 2
 have y0 := cell_at hy1 0
 have y1 := cell_at hy1 1
 have y2 := cell_at hy1 2
 simp at x0 x1 x2 y0 y1 y2
 have HB1 := Lib.hid (HB.out.trans (hb1.mono HB.out.size))
 have HR1 := Lib.hid hr1
 have HX1 := Lib.hid hx1
 clear hb1 hx1 hy1 hr1
 have fin : ∀ w3, Below w1.heap.size w1 w3 → w3.heap[w.heap.size + 1 + 1]? = some (.cells #[.bool false, .int .u64 0, .int .u64 0] 87 (0, 0)) := fun w3 h => keep h HR1.out
 have FIN := Lib.hid fin
 clear fin
 go_upto_region 4 with (fail)
 go_region_with (first
  | (go_at_call 207; refine (wneg_any ⟨false, 0, q⟩ _ (wf_lo (by omega) (by omega)) (form_lo (by omega))).mono ?_; rintro e w2 ⟨rfl, hb2⟩; rw [HN.out]; dsimp only [WI.v]; have HB2 := Lib.hid (show Below w1.heap.size w1 w2 from ((Below.refl w1.heap.size w1).drew).trans (hb2.mono (by simp))); clear hb2; have z0 := cell_at (keep HB2.out HX1.out) 0; have z1 := cell_at (keep HB2.out HX1.out) 1; have z2 := cell_at (keep HB2.out HX1.out) 2; simp at z0 z1 z2)
  | (go_at_call 214; refine (HA.out _).mono ?_; rintro e w3 ⟨rfl, hb3⟩; dsimp only [WI.v]; have HB3 := Lib.hid (HB2.out.trans (hb3.mono HB2.out.size)); clear hb3; have hr2 := FIN.out _ HB3.out; have q0 := cell_at hr2 0; have q1 := cell_at hr2 1; have q2 := cell_at hr2 2; have g0 := free_at hr2 0; have g1 := free_at hr2 1; have g2 := free_at hr2 2; simp at q0 q1 q2; have HB4 := Lib.hid (HB1.out.trans (HB3.out.mono HB1.out.size)))
  )
 all_goals
  go_wp2_with fail
  refine bodyPost_ret (v := .tuple #[.agg #[.bool rn, .int .u64 rh, .int .u64 rl], .int .i64 0]) (by simp [results, Tryz.results206, go_sem, q0, q1, q2]) rfl ?_
  exact ⟨rfl, ((HB4.out.setCell (by show w.heap.size ≤ w.heap.size + 1 + 1; omega) _).setCell (by show w.heap.size ≤ w.heap.size + 1 + 1; omega) _).setCell (by show w.heap.size ≤ w.heap.size + 1 + 1; omega) _⟩
end Go.Proofs.YtgebbmfoamkfnaaGreatDoor
