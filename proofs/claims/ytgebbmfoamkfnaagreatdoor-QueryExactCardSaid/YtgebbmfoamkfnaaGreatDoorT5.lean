/- Contract of field.Fits. Printed by mkS4.py. -/
import Derived.Test.YtgebbmfoamkfnaaGreatDoorT4
namespace Go.Proofs.YtgebbmfoamkfnaaGreatDoor
open Go.RowKit
set_option linter.unusedVariables false
def fitsF (k : Int) (x : WI) : Bool := kindB k && x.form && decide (kMin k ≤ x.val) && decide (x.val ≤ kMax k)
theorem sign_ge {a b : Int} : 0 ≤ signF a b ↔ b ≤ a := by
 unfold signF
 by_cases h : a = b
 ·rw [if_pos h]; omega
 ·rw [if_neg h]
  by_cases h2 : a < b
  ·rw [if_pos h2]; omega
  ·rw [if_neg h2]; omega
theorem sign_le {a b : Int} : signF a b ≤ 0 ↔ a ≤ b := by
 unfold signF
 by_cases h : a = b
 ·rw [if_pos h]; omega
 ·rw [if_neg h]
  by_cases h2 : a < b
  ·rw [if_pos h2]; omega
  ·rw [if_neg h2]; omega
theorem kindB_bd {k : Int} (h : kindB k = true) : 1 ≤ k ∧ k ≤ 10 := by
 by_cases h' : 1 ≤ k ∧ k ≤ 10
 ·exact h'
 ·rw [kindB_false h'] at h; cases h
def fits_kind (k : Int) (n : Bool) (hi lo : Int) : List (Value → World → Prop) :=
 [IsV (.int .i64 k),
  IsV (.bool false),
  IsV (.bool false),
  IsV undef,
  IsV undef,
  IsV (.bool false),
  IsV (.bool false),
  IsV undef,
  IsV undef,
  IsV undef,
  IsV undef,
  IsV undef,
  IsV (.bool false),
  IsV (.bool false),
  IsV undef,
  IsV undef,
  IsV undef,
  IsV undef,
  IsV undef,
  IsV (.bool false),
  IsV (.bool false)]
theorem fits_kind_lasts (k : Int) (n : Bool) (hi lo : Int) : ∀ p ∈ fits_kind k n hi lo, Lasts p := by
 simp only [fits_kind, List.mem_cons, List.not_mem_nil, or_false]
 rintro p hp
 repeat (rcases hp with rfl | hp; exact lasts_v _)
def fits_form (k : Int) (n : Bool) (hi lo : Int) : List (Value → World → Prop) :=
 [IsV (.int .i64 k),
  IsV (.bool true),
  IsV (.bool true),
  IsV (.agg #[.bool n, .int .u64 hi, .int .u64 lo]),
  IsV (.bool false),
  IsV (.bool false),
  IsV (.bool false),
  IsV undef,
  IsV undef,
  IsV undef,
  IsV undef,
  IsV undef,
  IsV (.bool false),
  IsV (.bool false),
  IsV undef,
  IsV undef,
  IsV undef,
  IsV undef,
  IsV undef,
  IsV (.bool false),
  IsV (.bool false)]
theorem fits_form_lasts (k : Int) (n : Bool) (hi lo : Int) : ∀ p ∈ fits_form k n hi lo, Lasts p := by
 simp only [fits_form, List.mem_cons, List.not_mem_nil, or_false]
 rintro p hp
 repeat (rcases hp with rfl | hp; exact lasts_v _)
def fits_low (k : Int) (n : Bool) (hi lo : Int) : List (Value → World → Prop) :=
 [IsV (.int .i64 k),
  IsV (.bool true),
  IsV (.bool true),
  IsV (.agg #[.bool n, .int .u64 hi, .int .u64 lo]),
  IsV (.bool true),
  IsV (.bool true),
  IsV (.bool true),
  IsV (.agg #[.bool n, .int .u64 hi, .int .u64 lo]),
  IsV (.int .i64 k),
  IsV (leastW k).v,
  IsV (.int .i64 (cmpF ⟨n, hi, lo⟩ (leastW k))),
  IsV (.bool false),
  IsV (.bool false),
  IsV (.bool false),
  IsV undef,
  IsV undef,
  IsV undef,
  IsV undef,
  IsV undef,
  IsV (.bool false),
  IsV (.bool false)]
theorem fits_low_lasts (k : Int) (n : Bool) (hi lo : Int) : ∀ p ∈ fits_low k n hi lo, Lasts p := by
 simp only [fits_low, List.mem_cons, List.not_mem_nil, or_false]
 rintro p hp
 repeat (rcases hp with rfl | hp; exact lasts_v _)
def fits_all (k : Int) (n : Bool) (hi lo : Int) : List (Value → World → Prop) :=
 [IsV (.int .i64 k),
  IsV (.bool true),
  IsV (.bool true),
  IsV (.agg #[.bool n, .int .u64 hi, .int .u64 lo]),
  IsV (.bool true),
  IsV (.bool true),
  IsV (.bool true),
  IsV (.agg #[.bool n, .int .u64 hi, .int .u64 lo]),
  IsV (.int .i64 k),
  IsV (leastW k).v,
  IsV (.int .i64 (cmpF ⟨n, hi, lo⟩ (leastW k))),
  IsV (.bool true),
  IsV (.bool true),
  IsV (.bool true),
  IsV (.agg #[.bool n, .int .u64 hi, .int .u64 lo]),
  IsV (.int .i64 k),
  IsV (greatW k).v,
  IsV (.int .i64 (cmpF ⟨n, hi, lo⟩ (greatW k))),
  IsV (.bool (decide (cmpF ⟨n, hi, lo⟩ (greatW k) ≤ 0))),
  IsV (.bool (decide (cmpF ⟨n, hi, lo⟩ (greatW k) ≤ 0))),
  IsV (.bool (decide (cmpF ⟨n, hi, lo⟩ (greatW k) ≤ 0)))]
theorem fits_all_lasts (k : Int) (n : Bool) (hi lo : Int) : ∀ p ∈ fits_all k n hi lo, Lasts p := by
 simp only [fits_all, List.mem_cons, List.not_mem_nil, or_false]
 rintro p hp
 repeat (rcases hp with rfl | hp; exact lasts_v _)
set_option maxRecDepth 100000 in
set_option maxHeartbeats 4000000 in
theorem fits_any (k : Int) (x : WI) (w : World) (hx : x.wf) : Calls Tryz.prog 151 #[.int .i64 k, x.v] w fun e w' => e = .returned (.bool (fitsF k x)) ∧ Below w.heap.size w w' := by
 have hb : Below w.heap.size w (w.alloc (.cells x.cs 87)) := by go_grown
 have kx := heap_alloc_new w (.cells x.cs 87)
 have HC : Hid (fitsF k x = (kindB k && x.form && decide (kMin k ≤ x.val) && decide (x.val ≤ kMax k))) := Lib.hid rfl
 have HX := Lib.hid hx
 have KX := Lib.hid kx
 have HB := Lib.hid hb
 have HV1 := Lib.hid (show x.form = true → cmpF x (leastW k) = signF x.val (kMin k) from fun h => by unfold cmpF; rw [h, leastW_form, leastW_val]; rfl)
 have HV2 := Lib.hid (show x.form = true → cmpF x (greatW k) = signF x.val (kMax k) from fun h => by unfold cmpF; rw [h, greatW_form, greatW_val]; rfl)
 clear kx hb hx
 obtain ⟨n, hi, lo⟩ := x
 dsimp only [WI.v, WI.cs] at *
 cases hk : kindB k
 ·have HK := Lib.hid hk
  have HR := Lib.hid (show false = fitsF k ⟨n, hi, lo⟩ by rw [HC.out, hk]; rfl)
  clear hk
  go_enter Tryz.func151, Tryz.ntmps151
  go_wp2_with fail
  refine wp_region_frame (by kernel_rfl) (by kernel_rfl) (by kernel_rfl) (byList (fits_kind k n hi lo)) (lasts_list (fits_kind_lasts k n hi lo)) ?_ ?_
  ·intro vs w' iq o A F hb ho hd
   have m0 : A.tmps[0]?.getD undef = (.int .i64 k) := F.m (by kernel_rfl) rfl
   have m3 : A.tmps[3]?.getD undef = (.pointer (some ⟨w.heap.size, 0, none⟩)) := F.m (by kernel_rfl) rfl
   have G := F.light (n := 25) (by kernel_rfl)
   clear F
   have hx' := keep hb KX.out
   have z0 := cell_at hx' 0
   have z1 := cell_at hx' 1
   have z2 := cell_at hx' 2
   simp at z0 z1 z2
   clear hx' hb
   revert ho hd
   match iq with
   | 0 => intro ho hd; obtain rfl := (Option.some.inj ho).symm; clear hd ho; refine step_open rfl ?_; clear G; exact step_run (v := (.int .i64 k)) (by go_simp) rfl
   | 1 => intro ho hd; obtain rfl := (Option.some.inj ho).symm; have d0 : vs 0 = (.int .i64 k) := hd ⟨0, .data⟩ (by simp) rfl; clear hd ho; have h5 := G.h (j := 0) (d := 5) rfl (by decide) d0; refine step_open rfl ?_; clear G; go_simp; refine (isKind_any _ _).mono ?_; rintro e w2 ⟨rfl, rfl⟩; rw [HK.out]; exact ⟨_, rfl, rfl, Below.refl _ _⟩
   | 2 => intro ho hd; obtain rfl := (Option.some.inj ho).symm; have d1 : vs 1 = (.bool false) := hd ⟨1, .data⟩ (by simp) rfl; clear hd ho; have h6 := G.h (j := 1) (d := 6) rfl (by decide) d1; refine step_open rfl ?_; clear G; exact step_run (v := (.bool false)) (by go_simp) rfl
   | 3 => intro ho hd; obtain rfl := (Option.some.inj ho).symm; have d2 : vs 2 = (.bool false) := hd ⟨2, .guard⟩ (by simp) rfl; clear hd ho; exact step_not G rfl rfl (by decide) d2 rfl
   | 4 => intro ho hd; obtain rfl := (Option.some.inj ho).symm; have d2 : vs 2 = (.bool false) := hd ⟨2, .guard⟩ (by simp) rfl; clear hd ho; exact step_not G rfl rfl (by decide) d2 rfl
   | 5 => intro ho hd; obtain rfl := (Option.some.inj ho).symm; have d2 : vs 2 = (.bool false) := hd ⟨2, .data⟩ (by simp) rfl; have d4 : vs 4 = undef := hd ⟨4, .data⟩ (by simp) rfl; clear hd ho; have h7 := G.h (j := 2) (d := 7) rfl (by decide) d2; have h9 := G.h (j := 4) (d := 9) rfl (by decide) d4; refine step_open rfl ?_; clear G; exact step_run (v := (.bool false)) (by go_simp) rfl
   | 6 => intro ho hd; obtain rfl := (Option.some.inj ho).symm; have d5 : vs 5 = (.bool false) := hd ⟨5, .data⟩ (by simp) rfl; clear hd ho; have h10 := G.h (j := 5) (d := 10) rfl (by decide) d5; refine step_open rfl ?_; clear G; exact step_run (v := (.bool false)) (by go_simp) rfl
   | 7 => intro ho hd; obtain rfl := (Option.some.inj ho).symm; have d6 : vs 6 = (.bool false) := hd ⟨6, .guard⟩ (by simp) rfl; clear hd ho; exact step_not G rfl rfl (by decide) d6 rfl
   | 8 => intro ho hd; obtain rfl := (Option.some.inj ho).symm; have d6 : vs 6 = (.bool false) := hd ⟨6, .guard⟩ (by simp) rfl; clear hd ho; exact step_not G rfl rfl (by decide) d6 rfl
   | 9 => intro ho hd; obtain rfl := (Option.some.inj ho).symm; have d6 : vs 6 = (.bool false) := hd ⟨6, .guard⟩ (by simp) rfl; clear hd ho; exact step_not G rfl rfl (by decide) d6 rfl
   | 10 => intro ho hd; obtain rfl := (Option.some.inj ho).symm; have d6 : vs 6 = (.bool false) := hd ⟨6, .guard⟩ (by simp) rfl; clear hd ho; exact step_not G rfl rfl (by decide) d6 rfl
   | 11 => intro ho hd; obtain rfl := (Option.some.inj ho).symm; have d6 : vs 6 = (.bool false) := hd ⟨6, .guard⟩ (by simp) rfl; clear hd ho; exact step_not G rfl rfl (by decide) d6 rfl
   | 12 => intro ho hd; obtain rfl := (Option.some.inj ho).symm; have d6 : vs 6 = (.bool false) := hd ⟨6, .data⟩ (by simp) rfl; have d11 : vs 11 = undef := hd ⟨11, .data⟩ (by simp) rfl; clear hd ho; have h11 := G.h (j := 6) (d := 11) rfl (by decide) d6; have h16 := G.h (j := 11) (d := 16) rfl (by decide) d11; refine step_open rfl ?_; clear G; exact step_run (v := (.bool false)) (by go_simp) rfl
   | 13 => intro ho hd; obtain rfl := (Option.some.inj ho).symm; have d12 : vs 12 = (.bool false) := hd ⟨12, .data⟩ (by simp) rfl; clear hd ho; have h17 := G.h (j := 12) (d := 17) rfl (by decide) d12; refine step_open rfl ?_; clear G; exact step_run (v := (.bool false)) (by go_simp) rfl
   | 14 => intro ho hd; obtain rfl := (Option.some.inj ho).symm; have d13 : vs 13 = (.bool false) := hd ⟨13, .guard⟩ (by simp) rfl; clear hd ho; exact step_not G rfl rfl (by decide) d13 rfl
   | 15 => intro ho hd; obtain rfl := (Option.some.inj ho).symm; have d13 : vs 13 = (.bool false) := hd ⟨13, .guard⟩ (by simp) rfl; clear hd ho; exact step_not G rfl rfl (by decide) d13 rfl
   | 16 => intro ho hd; obtain rfl := (Option.some.inj ho).symm; have d13 : vs 13 = (.bool false) := hd ⟨13, .guard⟩ (by simp) rfl; clear hd ho; exact step_not G rfl rfl (by decide) d13 rfl
   | 17 => intro ho hd; obtain rfl := (Option.some.inj ho).symm; have d13 : vs 13 = (.bool false) := hd ⟨13, .guard⟩ (by simp) rfl; clear hd ho; exact step_not G rfl rfl (by decide) d13 rfl
   | 18 => intro ho hd; obtain rfl := (Option.some.inj ho).symm; have d13 : vs 13 = (.bool false) := hd ⟨13, .guard⟩ (by simp) rfl; clear hd ho; exact step_not G rfl rfl (by decide) d13 rfl
   | 19 => intro ho hd; obtain rfl := (Option.some.inj ho).symm; have d13 : vs 13 = (.bool false) := hd ⟨13, .data⟩ (by simp) rfl; have d18 : vs 18 = undef := hd ⟨18, .data⟩ (by simp) rfl; clear hd ho; have h18 := G.h (j := 13) (d := 18) rfl (by decide) d13; have h23 := G.h (j := 18) (d := 23) rfl (by decide) d18; refine step_open rfl ?_; clear G; exact step_run (v := (.bool false)) (by go_simp) rfl
   | 20 => intro ho hd; obtain rfl := (Option.some.inj ho).symm; have d19 : vs 19 = (.bool false) := hd ⟨19, .data⟩ (by simp) rfl; clear hd ho; have h24 := G.h (j := 19) (d := 24) rfl (by decide) d19; refine step_open rfl ?_; clear G; exact step_run (v := (.bool false)) (by go_simp) rfl
   | n + 21 => intro ho hd; simp at ho
  ·intro vs w' hb hR
   have hv : vs 20 = (.bool false) := hR 20 (by simp)
   have HB1 := Lib.hid (HB.out.trans (hb.mono HB.out.size))
   simp only [putAll, Act.put, List.setIfInBounds_toArray, List.set_cons_succ, List.set_cons_zero]
   rw [hv]
   clear hR hb hv
   go_wp2_with fail
   go_returns
   exact ⟨ret_bool HR.out, HB1.out⟩
 ·have HK := Lib.hid hk
  have HKK := Lib.hid (kindB_bd hk)
  clear hk
  cases hf : WI.form ⟨n, hi, lo⟩
  ·have HF := Lib.hid hf
   have HR := Lib.hid (show false = fitsF k ⟨n, hi, lo⟩ by rw [HC.out, HK.out, hf]; rfl)
   clear hf
   go_enter Tryz.func151, Tryz.ntmps151
   go_wp2_with fail
   refine wp_region_frame (by kernel_rfl) (by kernel_rfl) (by kernel_rfl) (byList (fits_form k n hi lo)) (lasts_list (fits_form_lasts k n hi lo)) ?_ ?_
   ·intro vs w' iq o A F hb ho hd
    have m0 : A.tmps[0]?.getD undef = (.int .i64 k) := F.m (by kernel_rfl) rfl
    have m3 : A.tmps[3]?.getD undef = (.pointer (some ⟨w.heap.size, 0, none⟩)) := F.m (by kernel_rfl) rfl
    have G := F.light (n := 25) (by kernel_rfl)
    clear F
    have hx' := keep hb KX.out
    have z0 := cell_at hx' 0
    have z1 := cell_at hx' 1
    have z2 := cell_at hx' 2
    simp at z0 z1 z2
    clear hx' hb
    revert ho hd
    match iq with
    | 0 => intro ho hd; obtain rfl := (Option.some.inj ho).symm; clear hd ho; refine step_open rfl ?_; clear G; exact step_run (v := (.int .i64 k)) (by go_simp) rfl
    | 1 => intro ho hd; obtain rfl := (Option.some.inj ho).symm; have d0 : vs 0 = (.int .i64 k) := hd ⟨0, .data⟩ (by simp) rfl; clear hd ho; have h5 := G.h (j := 0) (d := 5) rfl (by decide) d0; refine step_open rfl ?_; clear G; go_simp; refine (isKind_any _ _).mono ?_; rintro e w2 ⟨rfl, rfl⟩; rw [HK.out]; exact ⟨_, rfl, rfl, Below.refl _ _⟩
    | 2 => intro ho hd; obtain rfl := (Option.some.inj ho).symm; have d1 : vs 1 = (.bool true) := hd ⟨1, .data⟩ (by simp) rfl; clear hd ho; have h6 := G.h (j := 1) (d := 6) rfl (by decide) d1; refine step_open rfl ?_; clear G; exact step_run (v := (.bool true)) (by go_simp) rfl
    | 3 => intro ho hd; obtain rfl := (Option.some.inj ho).symm; have d2 : vs 2 = (.bool true) := hd ⟨2, .guard⟩ (by simp) rfl; clear hd ho; refine step_yes G rfl rfl (by decide) d2 ?_; clear G; exact step_run (v := (.agg #[.bool n, .int .u64 hi, .int .u64 lo])) (by go_simp) rfl
    | 4 => intro ho hd; obtain rfl := (Option.some.inj ho).symm; have d3 : vs 3 = (.agg #[.bool n, .int .u64 hi, .int .u64 lo]) := hd ⟨3, .data⟩ (by simp) rfl; have d2 : vs 2 = (.bool true) := hd ⟨2, .guard⟩ (by simp) rfl; clear hd ho; have h8 := G.h (j := 3) (d := 8) rfl (by decide) d3; refine step_yes G rfl rfl (by decide) d2 ?_; clear G; go_simp; refine (wform_any ⟨n, hi, lo⟩ _ HX.out).mono ?_; rintro e w2 ⟨rfl, hb2⟩; rw [HF.out]; exact ⟨_, rfl, rfl, hb2⟩
    | 5 => intro ho hd; obtain rfl := (Option.some.inj ho).symm; have d2 : vs 2 = (.bool true) := hd ⟨2, .data⟩ (by simp) rfl; have d4 : vs 4 = (.bool false) := hd ⟨4, .data⟩ (by simp) rfl; clear hd ho; have h7 := G.h (j := 2) (d := 7) rfl (by decide) d2; have h9 := G.h (j := 4) (d := 9) rfl (by decide) d4; refine step_open rfl ?_; clear G; exact step_run (v := (.bool false)) (by go_simp) rfl
    | 6 => intro ho hd; obtain rfl := (Option.some.inj ho).symm; have d5 : vs 5 = (.bool false) := hd ⟨5, .data⟩ (by simp) rfl; clear hd ho; have h10 := G.h (j := 5) (d := 10) rfl (by decide) d5; refine step_open rfl ?_; clear G; exact step_run (v := (.bool false)) (by go_simp) rfl
    | 7 => intro ho hd; obtain rfl := (Option.some.inj ho).symm; have d6 : vs 6 = (.bool false) := hd ⟨6, .guard⟩ (by simp) rfl; clear hd ho; exact step_not G rfl rfl (by decide) d6 rfl
    | 8 => intro ho hd; obtain rfl := (Option.some.inj ho).symm; have d6 : vs 6 = (.bool false) := hd ⟨6, .guard⟩ (by simp) rfl; clear hd ho; exact step_not G rfl rfl (by decide) d6 rfl
    | 9 => intro ho hd; obtain rfl := (Option.some.inj ho).symm; have d6 : vs 6 = (.bool false) := hd ⟨6, .guard⟩ (by simp) rfl; clear hd ho; exact step_not G rfl rfl (by decide) d6 rfl
    | 10 => intro ho hd; obtain rfl := (Option.some.inj ho).symm; have d6 : vs 6 = (.bool false) := hd ⟨6, .guard⟩ (by simp) rfl; clear hd ho; exact step_not G rfl rfl (by decide) d6 rfl
    | 11 => intro ho hd; obtain rfl := (Option.some.inj ho).symm; have d6 : vs 6 = (.bool false) := hd ⟨6, .guard⟩ (by simp) rfl; clear hd ho; exact step_not G rfl rfl (by decide) d6 rfl
    | 12 => intro ho hd; obtain rfl := (Option.some.inj ho).symm; have d6 : vs 6 = (.bool false) := hd ⟨6, .data⟩ (by simp) rfl; have d11 : vs 11 = undef := hd ⟨11, .data⟩ (by simp) rfl; clear hd ho; have h11 := G.h (j := 6) (d := 11) rfl (by decide) d6; have h16 := G.h (j := 11) (d := 16) rfl (by decide) d11; refine step_open rfl ?_; clear G; exact step_run (v := (.bool false)) (by go_simp) rfl
    | 13 => intro ho hd; obtain rfl := (Option.some.inj ho).symm; have d12 : vs 12 = (.bool false) := hd ⟨12, .data⟩ (by simp) rfl; clear hd ho; have h17 := G.h (j := 12) (d := 17) rfl (by decide) d12; refine step_open rfl ?_; clear G; exact step_run (v := (.bool false)) (by go_simp) rfl
    | 14 => intro ho hd; obtain rfl := (Option.some.inj ho).symm; have d13 : vs 13 = (.bool false) := hd ⟨13, .guard⟩ (by simp) rfl; clear hd ho; exact step_not G rfl rfl (by decide) d13 rfl
    | 15 => intro ho hd; obtain rfl := (Option.some.inj ho).symm; have d13 : vs 13 = (.bool false) := hd ⟨13, .guard⟩ (by simp) rfl; clear hd ho; exact step_not G rfl rfl (by decide) d13 rfl
    | 16 => intro ho hd; obtain rfl := (Option.some.inj ho).symm; have d13 : vs 13 = (.bool false) := hd ⟨13, .guard⟩ (by simp) rfl; clear hd ho; exact step_not G rfl rfl (by decide) d13 rfl
    | 17 => intro ho hd; obtain rfl := (Option.some.inj ho).symm; have d13 : vs 13 = (.bool false) := hd ⟨13, .guard⟩ (by simp) rfl; clear hd ho; exact step_not G rfl rfl (by decide) d13 rfl
    | 18 => intro ho hd; obtain rfl := (Option.some.inj ho).symm; have d13 : vs 13 = (.bool false) := hd ⟨13, .guard⟩ (by simp) rfl; clear hd ho; exact step_not G rfl rfl (by decide) d13 rfl
    | 19 => intro ho hd; obtain rfl := (Option.some.inj ho).symm; have d13 : vs 13 = (.bool false) := hd ⟨13, .data⟩ (by simp) rfl; have d18 : vs 18 = undef := hd ⟨18, .data⟩ (by simp) rfl; clear hd ho; have h18 := G.h (j := 13) (d := 18) rfl (by decide) d13; have h23 := G.h (j := 18) (d := 23) rfl (by decide) d18; refine step_open rfl ?_; clear G; exact step_run (v := (.bool false)) (by go_simp) rfl
    | 20 => intro ho hd; obtain rfl := (Option.some.inj ho).symm; have d19 : vs 19 = (.bool false) := hd ⟨19, .data⟩ (by simp) rfl; clear hd ho; have h24 := G.h (j := 19) (d := 24) rfl (by decide) d19; refine step_open rfl ?_; clear G; exact step_run (v := (.bool false)) (by go_simp) rfl
    | n + 21 => intro ho hd; simp at ho
   ·intro vs w' hb hR
    have hv : vs 20 = (.bool false) := hR 20 (by simp)
    have HB1 := Lib.hid (HB.out.trans (hb.mono HB.out.size))
    simp only [putAll, Act.put, List.setIfInBounds_toArray, List.set_cons_succ, List.set_cons_zero]
    rw [hv]
    clear hR hb hv
    go_wp2_with fail
    go_returns
    exact ⟨ret_bool HR.out, HB1.out⟩
  ·have HF := Lib.hid hf
   clear hf
   by_cases hl : 0 ≤ cmpF ⟨n, hi, lo⟩ (leastW k)
   ·have e1 : decide (0 ≤ cmpF ⟨n, hi, lo⟩ (leastW k)) = true := by simp [hl]
    have HR := Lib.hid (show decide (cmpF ⟨n, hi, lo⟩ (greatW k) ≤ 0) = fitsF k ⟨n, hi, lo⟩ by
     rw [HV1.out HF.out, sign_ge] at hl
     rw [HC.out, HK.out, HF.out, HV2.out HF.out, show decide (signF (WI.val ⟨n, hi, lo⟩) (kMax k) ≤ 0) = decide (WI.val ⟨n, hi, lo⟩ ≤ kMax k) from decide_eq_decide.2 sign_le]
     simp [hl])
    clear hl
    go_enter Tryz.func151, Tryz.ntmps151
    go_wp2_with fail
    refine wp_region_frame (by kernel_rfl) (by kernel_rfl) (by kernel_rfl) (byList (fits_all k n hi lo)) (lasts_list (fits_all_lasts k n hi lo)) ?_ ?_
    ·intro vs w' iq o A F hb ho hd
     have m0 : A.tmps[0]?.getD undef = (.int .i64 k) := F.m (by kernel_rfl) rfl
     have m3 : A.tmps[3]?.getD undef = (.pointer (some ⟨w.heap.size, 0, none⟩)) := F.m (by kernel_rfl) rfl
     have G := F.light (n := 25) (by kernel_rfl)
     clear F
     have hx' := keep hb KX.out
     have z0 := cell_at hx' 0
     have z1 := cell_at hx' 1
     have z2 := cell_at hx' 2
     simp at z0 z1 z2
     clear hx' hb
     revert ho hd
     match iq with
     | 0 => intro ho hd; obtain rfl := (Option.some.inj ho).symm; clear hd ho; refine step_open rfl ?_; clear G; exact step_run (v := (.int .i64 k)) (by go_simp) rfl
     | 1 => intro ho hd; obtain rfl := (Option.some.inj ho).symm; have d0 : vs 0 = (.int .i64 k) := hd ⟨0, .data⟩ (by simp) rfl; clear hd ho; have h5 := G.h (j := 0) (d := 5) rfl (by decide) d0; refine step_open rfl ?_; clear G; go_simp; refine (isKind_any _ _).mono ?_; rintro e w2 ⟨rfl, rfl⟩; rw [HK.out]; exact ⟨_, rfl, rfl, Below.refl _ _⟩
     | 2 => intro ho hd; obtain rfl := (Option.some.inj ho).symm; have d1 : vs 1 = (.bool true) := hd ⟨1, .data⟩ (by simp) rfl; clear hd ho; have h6 := G.h (j := 1) (d := 6) rfl (by decide) d1; refine step_open rfl ?_; clear G; exact step_run (v := (.bool true)) (by go_simp) rfl
     | 3 => intro ho hd; obtain rfl := (Option.some.inj ho).symm; have d2 : vs 2 = (.bool true) := hd ⟨2, .guard⟩ (by simp) rfl; clear hd ho; refine step_yes G rfl rfl (by decide) d2 ?_; clear G; exact step_run (v := (.agg #[.bool n, .int .u64 hi, .int .u64 lo])) (by go_simp) rfl
     | 4 => intro ho hd; obtain rfl := (Option.some.inj ho).symm; have d3 : vs 3 = (.agg #[.bool n, .int .u64 hi, .int .u64 lo]) := hd ⟨3, .data⟩ (by simp) rfl; have d2 : vs 2 = (.bool true) := hd ⟨2, .guard⟩ (by simp) rfl; clear hd ho; have h8 := G.h (j := 3) (d := 8) rfl (by decide) d3; refine step_yes G rfl rfl (by decide) d2 ?_; clear G; go_simp; refine (wform_any ⟨n, hi, lo⟩ _ HX.out).mono ?_; rintro e w2 ⟨rfl, hb2⟩; rw [HF.out]; exact ⟨_, rfl, rfl, hb2⟩
     | 5 => intro ho hd; obtain rfl := (Option.some.inj ho).symm; have d2 : vs 2 = (.bool true) := hd ⟨2, .data⟩ (by simp) rfl; have d4 : vs 4 = (.bool true) := hd ⟨4, .data⟩ (by simp) rfl; clear hd ho; have h7 := G.h (j := 2) (d := 7) rfl (by decide) d2; have h9 := G.h (j := 4) (d := 9) rfl (by decide) d4; refine step_open rfl ?_; clear G; exact step_run (v := (.bool true)) (by go_simp) rfl
     | 6 => intro ho hd; obtain rfl := (Option.some.inj ho).symm; have d5 : vs 5 = (.bool true) := hd ⟨5, .data⟩ (by simp) rfl; clear hd ho; have h10 := G.h (j := 5) (d := 10) rfl (by decide) d5; refine step_open rfl ?_; clear G; exact step_run (v := (.bool true)) (by go_simp) rfl
     | 7 => intro ho hd; obtain rfl := (Option.some.inj ho).symm; have d6 : vs 6 = (.bool true) := hd ⟨6, .guard⟩ (by simp) rfl; clear hd ho; refine step_yes G rfl rfl (by decide) d6 ?_; clear G; exact step_run (v := (.agg #[.bool n, .int .u64 hi, .int .u64 lo])) (by go_simp) rfl
     | 8 => intro ho hd; obtain rfl := (Option.some.inj ho).symm; have d6 : vs 6 = (.bool true) := hd ⟨6, .guard⟩ (by simp) rfl; clear hd ho; refine step_yes G rfl rfl (by decide) d6 ?_; clear G; exact step_run (v := (.int .i64 k)) (by go_simp) rfl
     | 9 => intro ho hd; obtain rfl := (Option.some.inj ho).symm; have d8 : vs 8 = (.int .i64 k) := hd ⟨8, .data⟩ (by simp) rfl; have d6 : vs 6 = (.bool true) := hd ⟨6, .guard⟩ (by simp) rfl; clear hd ho; have h13 := G.h (j := 8) (d := 13) rfl (by decide) d8; refine step_yes G rfl rfl (by decide) d6 ?_; clear G; go_simp; refine (least_any _ _ HKK.out.1 HKK.out.2).mono ?_; rintro e w2 ⟨rfl, hb2⟩; exact ⟨_, rfl, rfl, hb2⟩
     | 10 => intro ho hd; obtain rfl := (Option.some.inj ho).symm; have d7 : vs 7 = (.agg #[.bool n, .int .u64 hi, .int .u64 lo]) := hd ⟨7, .data⟩ (by simp) rfl; have d9 : vs 9 = (leastW k).v := hd ⟨9, .data⟩ (by simp) rfl; have d6 : vs 6 = (.bool true) := hd ⟨6, .guard⟩ (by simp) rfl; clear hd ho; have h12 := G.h (j := 7) (d := 12) rfl (by decide) d7; have h14 := G.h (j := 9) (d := 14) rfl (by decide) d9; refine step_yes G rfl rfl (by decide) d6 ?_; clear G; go_simp; refine (wcmp_any ⟨n, hi, lo⟩ (leastW k) _ HX.out (leastW_wf k)).mono ?_; rintro e w2 ⟨rfl, hb2⟩; exact ⟨_, rfl, rfl, hb2⟩
     | 11 => intro ho hd; obtain rfl := (Option.some.inj ho).symm; have d10 : vs 10 = (.int .i64 (cmpF ⟨n, hi, lo⟩ (leastW k))) := hd ⟨10, .data⟩ (by simp) rfl; have d6 : vs 6 = (.bool true) := hd ⟨6, .guard⟩ (by simp) rfl; clear hd ho; have h15 := G.h (j := 10) (d := 15) rfl (by decide) d10; refine step_yes G rfl rfl (by decide) d6 ?_; clear G; exact step_run (v := (.bool true)) (by go_simp) rfl
     | 12 => intro ho hd; obtain rfl := (Option.some.inj ho).symm; have d6 : vs 6 = (.bool true) := hd ⟨6, .data⟩ (by simp) rfl; have d11 : vs 11 = (.bool true) := hd ⟨11, .data⟩ (by simp) rfl; clear hd ho; have h11 := G.h (j := 6) (d := 11) rfl (by decide) d6; have h16 := G.h (j := 11) (d := 16) rfl (by decide) d11; refine step_open rfl ?_; clear G; exact step_run (v := (.bool true)) (by go_simp) rfl
     | 13 => intro ho hd; obtain rfl := (Option.some.inj ho).symm; have d12 : vs 12 = (.bool true) := hd ⟨12, .data⟩ (by simp) rfl; clear hd ho; have h17 := G.h (j := 12) (d := 17) rfl (by decide) d12; refine step_open rfl ?_; clear G; exact step_run (v := (.bool true)) (by go_simp) rfl
     | 14 => intro ho hd; obtain rfl := (Option.some.inj ho).symm; have d13 : vs 13 = (.bool true) := hd ⟨13, .guard⟩ (by simp) rfl; clear hd ho; refine step_yes G rfl rfl (by decide) d13 ?_; clear G; exact step_run (v := (.agg #[.bool n, .int .u64 hi, .int .u64 lo])) (by go_simp) rfl
     | 15 => intro ho hd; obtain rfl := (Option.some.inj ho).symm; have d13 : vs 13 = (.bool true) := hd ⟨13, .guard⟩ (by simp) rfl; clear hd ho; refine step_yes G rfl rfl (by decide) d13 ?_; clear G; exact step_run (v := (.int .i64 k)) (by go_simp) rfl
     | 16 => intro ho hd; obtain rfl := (Option.some.inj ho).symm; have d15 : vs 15 = (.int .i64 k) := hd ⟨15, .data⟩ (by simp) rfl; have d13 : vs 13 = (.bool true) := hd ⟨13, .guard⟩ (by simp) rfl; clear hd ho; have h20 := G.h (j := 15) (d := 20) rfl (by decide) d15; refine step_yes G rfl rfl (by decide) d13 ?_; clear G; go_simp; refine (greatest_any _ _ HKK.out.1 HKK.out.2).mono ?_; rintro e w2 ⟨rfl, hb2⟩; exact ⟨_, rfl, rfl, hb2⟩
     | 17 => intro ho hd; obtain rfl := (Option.some.inj ho).symm; have d14 : vs 14 = (.agg #[.bool n, .int .u64 hi, .int .u64 lo]) := hd ⟨14, .data⟩ (by simp) rfl; have d16 : vs 16 = (greatW k).v := hd ⟨16, .data⟩ (by simp) rfl; have d13 : vs 13 = (.bool true) := hd ⟨13, .guard⟩ (by simp) rfl; clear hd ho; have h19 := G.h (j := 14) (d := 19) rfl (by decide) d14; have h21 := G.h (j := 16) (d := 21) rfl (by decide) d16; refine step_yes G rfl rfl (by decide) d13 ?_; clear G; go_simp; refine (wcmp_any ⟨n, hi, lo⟩ (greatW k) _ HX.out (greatW_wf k)).mono ?_; rintro e w2 ⟨rfl, hb2⟩; exact ⟨_, rfl, rfl, hb2⟩
     | 18 => intro ho hd; obtain rfl := (Option.some.inj ho).symm; have d17 : vs 17 = (.int .i64 (cmpF ⟨n, hi, lo⟩ (greatW k))) := hd ⟨17, .data⟩ (by simp) rfl; have d13 : vs 13 = (.bool true) := hd ⟨13, .guard⟩ (by simp) rfl; clear hd ho; have h22 := G.h (j := 17) (d := 22) rfl (by decide) d17; refine step_yes G rfl rfl (by decide) d13 ?_; clear G; exact step_run (v := (.bool (decide (cmpF ⟨n, hi, lo⟩ (greatW k) ≤ 0)))) (by go_simp) rfl
     | 19 => intro ho hd; obtain rfl := (Option.some.inj ho).symm; have d13 : vs 13 = (.bool true) := hd ⟨13, .data⟩ (by simp) rfl; have d18 : vs 18 = (.bool (decide (cmpF ⟨n, hi, lo⟩ (greatW k) ≤ 0))) := hd ⟨18, .data⟩ (by simp) rfl; clear hd ho; have h18 := G.h (j := 13) (d := 18) rfl (by decide) d13; have h23 := G.h (j := 18) (d := 23) rfl (by decide) d18; refine step_open rfl ?_; clear G; exact step_run (v := (.bool (decide (cmpF ⟨n, hi, lo⟩ (greatW k) ≤ 0)))) (by go_simp) rfl
     | 20 => intro ho hd; obtain rfl := (Option.some.inj ho).symm; have d19 : vs 19 = (.bool (decide (cmpF ⟨n, hi, lo⟩ (greatW k) ≤ 0))) := hd ⟨19, .data⟩ (by simp) rfl; clear hd ho; have h24 := G.h (j := 19) (d := 24) rfl (by decide) d19; refine step_open rfl ?_; clear G; exact step_run (v := (.bool (decide (cmpF ⟨n, hi, lo⟩ (greatW k) ≤ 0)))) (by go_simp) rfl
     | n + 21 => intro ho hd; simp at ho
    ·intro vs w' hb hR
     have hv : vs 20 = (.bool (decide (cmpF ⟨n, hi, lo⟩ (greatW k) ≤ 0))) := hR 20 (by simp)
     have HB1 := Lib.hid (HB.out.trans (hb.mono HB.out.size))
     simp only [putAll, Act.put, List.setIfInBounds_toArray, List.set_cons_succ, List.set_cons_zero]
     rw [hv]
     clear hR hb hv
     go_wp2_with fail
     go_returns
     exact ⟨ret_bool HR.out, HB1.out⟩
   ·have e1 : decide (0 ≤ cmpF ⟨n, hi, lo⟩ (leastW k)) = false := by simp only [decide_eq_false_iff_not]; exact hl
    have HR := Lib.hid (show false = fitsF k ⟨n, hi, lo⟩ by
     rw [HV1.out HF.out, sign_ge] at hl
     rw [HC.out, HK.out, HF.out]
     simp only [show decide (kMin k ≤ WI.val ⟨n, hi, lo⟩) = false from decide_eq_false hl, Bool.and_false, Bool.false_and])
    clear hl
    go_enter Tryz.func151, Tryz.ntmps151
    go_wp2_with fail
    refine wp_region_frame (by kernel_rfl) (by kernel_rfl) (by kernel_rfl) (byList (fits_low k n hi lo)) (lasts_list (fits_low_lasts k n hi lo)) ?_ ?_
    ·intro vs w' iq o A F hb ho hd
     have m0 : A.tmps[0]?.getD undef = (.int .i64 k) := F.m (by kernel_rfl) rfl
     have m3 : A.tmps[3]?.getD undef = (.pointer (some ⟨w.heap.size, 0, none⟩)) := F.m (by kernel_rfl) rfl
     have G := F.light (n := 25) (by kernel_rfl)
     clear F
     have hx' := keep hb KX.out
     have z0 := cell_at hx' 0
     have z1 := cell_at hx' 1
     have z2 := cell_at hx' 2
     simp at z0 z1 z2
     clear hx' hb
     revert ho hd
     match iq with
     | 0 => intro ho hd; obtain rfl := (Option.some.inj ho).symm; clear hd ho; refine step_open rfl ?_; clear G; exact step_run (v := (.int .i64 k)) (by go_simp) rfl
     | 1 => intro ho hd; obtain rfl := (Option.some.inj ho).symm; have d0 : vs 0 = (.int .i64 k) := hd ⟨0, .data⟩ (by simp) rfl; clear hd ho; have h5 := G.h (j := 0) (d := 5) rfl (by decide) d0; refine step_open rfl ?_; clear G; go_simp; refine (isKind_any _ _).mono ?_; rintro e w2 ⟨rfl, rfl⟩; rw [HK.out]; exact ⟨_, rfl, rfl, Below.refl _ _⟩
     | 2 => intro ho hd; obtain rfl := (Option.some.inj ho).symm; have d1 : vs 1 = (.bool true) := hd ⟨1, .data⟩ (by simp) rfl; clear hd ho; have h6 := G.h (j := 1) (d := 6) rfl (by decide) d1; refine step_open rfl ?_; clear G; exact step_run (v := (.bool true)) (by go_simp) rfl
     | 3 => intro ho hd; obtain rfl := (Option.some.inj ho).symm; have d2 : vs 2 = (.bool true) := hd ⟨2, .guard⟩ (by simp) rfl; clear hd ho; refine step_yes G rfl rfl (by decide) d2 ?_; clear G; exact step_run (v := (.agg #[.bool n, .int .u64 hi, .int .u64 lo])) (by go_simp) rfl
     | 4 => intro ho hd; obtain rfl := (Option.some.inj ho).symm; have d3 : vs 3 = (.agg #[.bool n, .int .u64 hi, .int .u64 lo]) := hd ⟨3, .data⟩ (by simp) rfl; have d2 : vs 2 = (.bool true) := hd ⟨2, .guard⟩ (by simp) rfl; clear hd ho; have h8 := G.h (j := 3) (d := 8) rfl (by decide) d3; refine step_yes G rfl rfl (by decide) d2 ?_; clear G; go_simp; refine (wform_any ⟨n, hi, lo⟩ _ HX.out).mono ?_; rintro e w2 ⟨rfl, hb2⟩; rw [HF.out]; exact ⟨_, rfl, rfl, hb2⟩
     | 5 => intro ho hd; obtain rfl := (Option.some.inj ho).symm; have d2 : vs 2 = (.bool true) := hd ⟨2, .data⟩ (by simp) rfl; have d4 : vs 4 = (.bool true) := hd ⟨4, .data⟩ (by simp) rfl; clear hd ho; have h7 := G.h (j := 2) (d := 7) rfl (by decide) d2; have h9 := G.h (j := 4) (d := 9) rfl (by decide) d4; refine step_open rfl ?_; clear G; exact step_run (v := (.bool true)) (by go_simp) rfl
     | 6 => intro ho hd; obtain rfl := (Option.some.inj ho).symm; have d5 : vs 5 = (.bool true) := hd ⟨5, .data⟩ (by simp) rfl; clear hd ho; have h10 := G.h (j := 5) (d := 10) rfl (by decide) d5; refine step_open rfl ?_; clear G; exact step_run (v := (.bool true)) (by go_simp) rfl
     | 7 => intro ho hd; obtain rfl := (Option.some.inj ho).symm; have d6 : vs 6 = (.bool true) := hd ⟨6, .guard⟩ (by simp) rfl; clear hd ho; refine step_yes G rfl rfl (by decide) d6 ?_; clear G; exact step_run (v := (.agg #[.bool n, .int .u64 hi, .int .u64 lo])) (by go_simp) rfl
     | 8 => intro ho hd; obtain rfl := (Option.some.inj ho).symm; have d6 : vs 6 = (.bool true) := hd ⟨6, .guard⟩ (by simp) rfl; clear hd ho; refine step_yes G rfl rfl (by decide) d6 ?_; clear G; exact step_run (v := (.int .i64 k)) (by go_simp) rfl
     | 9 => intro ho hd; obtain rfl := (Option.some.inj ho).symm; have d8 : vs 8 = (.int .i64 k) := hd ⟨8, .data⟩ (by simp) rfl; have d6 : vs 6 = (.bool true) := hd ⟨6, .guard⟩ (by simp) rfl; clear hd ho; have h13 := G.h (j := 8) (d := 13) rfl (by decide) d8; refine step_yes G rfl rfl (by decide) d6 ?_; clear G; go_simp; refine (least_any _ _ HKK.out.1 HKK.out.2).mono ?_; rintro e w2 ⟨rfl, hb2⟩; exact ⟨_, rfl, rfl, hb2⟩
     | 10 => intro ho hd; obtain rfl := (Option.some.inj ho).symm; have d7 : vs 7 = (.agg #[.bool n, .int .u64 hi, .int .u64 lo]) := hd ⟨7, .data⟩ (by simp) rfl; have d9 : vs 9 = (leastW k).v := hd ⟨9, .data⟩ (by simp) rfl; have d6 : vs 6 = (.bool true) := hd ⟨6, .guard⟩ (by simp) rfl; clear hd ho; have h12 := G.h (j := 7) (d := 12) rfl (by decide) d7; have h14 := G.h (j := 9) (d := 14) rfl (by decide) d9; refine step_yes G rfl rfl (by decide) d6 ?_; clear G; go_simp; refine (wcmp_any ⟨n, hi, lo⟩ (leastW k) _ HX.out (leastW_wf k)).mono ?_; rintro e w2 ⟨rfl, hb2⟩; exact ⟨_, rfl, rfl, hb2⟩
     | 11 => intro ho hd; obtain rfl := (Option.some.inj ho).symm; have d10 : vs 10 = (.int .i64 (cmpF ⟨n, hi, lo⟩ (leastW k))) := hd ⟨10, .data⟩ (by simp) rfl; have d6 : vs 6 = (.bool true) := hd ⟨6, .guard⟩ (by simp) rfl; clear hd ho; have h15 := G.h (j := 10) (d := 15) rfl (by decide) d10; refine step_yes G rfl rfl (by decide) d6 ?_; clear G; exact step_run (v := (.bool false)) (by go_simp) rfl
     | 12 => intro ho hd; obtain rfl := (Option.some.inj ho).symm; have d6 : vs 6 = (.bool true) := hd ⟨6, .data⟩ (by simp) rfl; have d11 : vs 11 = (.bool false) := hd ⟨11, .data⟩ (by simp) rfl; clear hd ho; have h11 := G.h (j := 6) (d := 11) rfl (by decide) d6; have h16 := G.h (j := 11) (d := 16) rfl (by decide) d11; refine step_open rfl ?_; clear G; exact step_run (v := (.bool false)) (by go_simp) rfl
     | 13 => intro ho hd; obtain rfl := (Option.some.inj ho).symm; have d12 : vs 12 = (.bool false) := hd ⟨12, .data⟩ (by simp) rfl; clear hd ho; have h17 := G.h (j := 12) (d := 17) rfl (by decide) d12; refine step_open rfl ?_; clear G; exact step_run (v := (.bool false)) (by go_simp) rfl
     | 14 => intro ho hd; obtain rfl := (Option.some.inj ho).symm; have d13 : vs 13 = (.bool false) := hd ⟨13, .guard⟩ (by simp) rfl; clear hd ho; exact step_not G rfl rfl (by decide) d13 rfl
     | 15 => intro ho hd; obtain rfl := (Option.some.inj ho).symm; have d13 : vs 13 = (.bool false) := hd ⟨13, .guard⟩ (by simp) rfl; clear hd ho; exact step_not G rfl rfl (by decide) d13 rfl
     | 16 => intro ho hd; obtain rfl := (Option.some.inj ho).symm; have d13 : vs 13 = (.bool false) := hd ⟨13, .guard⟩ (by simp) rfl; clear hd ho; exact step_not G rfl rfl (by decide) d13 rfl
     | 17 => intro ho hd; obtain rfl := (Option.some.inj ho).symm; have d13 : vs 13 = (.bool false) := hd ⟨13, .guard⟩ (by simp) rfl; clear hd ho; exact step_not G rfl rfl (by decide) d13 rfl
     | 18 => intro ho hd; obtain rfl := (Option.some.inj ho).symm; have d13 : vs 13 = (.bool false) := hd ⟨13, .guard⟩ (by simp) rfl; clear hd ho; exact step_not G rfl rfl (by decide) d13 rfl
     | 19 => intro ho hd; obtain rfl := (Option.some.inj ho).symm; have d13 : vs 13 = (.bool false) := hd ⟨13, .data⟩ (by simp) rfl; have d18 : vs 18 = undef := hd ⟨18, .data⟩ (by simp) rfl; clear hd ho; have h18 := G.h (j := 13) (d := 18) rfl (by decide) d13; have h23 := G.h (j := 18) (d := 23) rfl (by decide) d18; refine step_open rfl ?_; clear G; exact step_run (v := (.bool false)) (by go_simp) rfl
     | 20 => intro ho hd; obtain rfl := (Option.some.inj ho).symm; have d19 : vs 19 = (.bool false) := hd ⟨19, .data⟩ (by simp) rfl; clear hd ho; have h24 := G.h (j := 19) (d := 24) rfl (by decide) d19; refine step_open rfl ?_; clear G; exact step_run (v := (.bool false)) (by go_simp) rfl
     | n + 21 => intro ho hd; simp at ho
    ·intro vs w' hb hR
     have hv : vs 20 = (.bool false) := hR 20 (by simp)
     have HB1 := Lib.hid (HB.out.trans (hb.mono HB.out.size))
     simp only [putAll, Act.put, List.setIfInBounds_toArray, List.set_cons_succ, List.set_cons_zero]
     rw [hv]
     clear hR hb hv
     go_wp2_with fail
     go_returns
     exact ⟨ret_bool HR.out, HB1.out⟩
end Go.Proofs.YtgebbmfoamkfnaaGreatDoor
