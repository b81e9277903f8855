/- world.CheckCaps and world.New, whoever the caps. Printed by mkL7.py. -/
import Derived.Test.YthmpknlgkflhiabGreatQ45
namespace Go.Proofs.YthmpknlgkflhiabGreat
open Go.RowKit
set_option linter.unusedVariables false
section
variable {w w' : World}
set_option maxRecDepth 100000 in
set_option maxHeartbeats 1000000 in
theorem checkCaps_bad1 (a1 a2 a3 a4 a5 a6 : Int)  (h1 : ¬ (1 ≤ a1 ∧ a1 ≤ 256)) (w : World) : Calls Tryz.prog 27 #[.agg #[.int .i64 a1, .int .i64 a2, .int .i64 a3, .int .i64 a4, .int .i64 a5, .int .i64 a6]] w fun e w' => e = .returned (.int .i64 1) ∧ Below w.heap.size w w' := by
 have k1 := fun (W : World) => isWithin_any a1 1 256 W
 rw [decide_eq_false h1] at k1
 have K1 := Lib.hid k1
 clear k1 h1
 go_enter Tryz.func27, Tryz.ntmps27
 go_wp2_with fail
 refine (K1.out _).mono ?_
 rintro e w1 ⟨rfl, rfl⟩
 go_wp2_with fail
 go_ret
 exact ⟨rfl, by go_grown⟩
set_option maxRecDepth 100000 in
set_option maxHeartbeats 1000000 in
theorem checkCaps_bad2 (a1 a2 a3 a4 a5 a6 : Int) (h1 : 1 ≤ a1 ∧ a1 ≤ 256) (h2 : ¬ (1 ≤ a2 ∧ a2 ≤ 256)) (w : World) : Calls Tryz.prog 27 #[.agg #[.int .i64 a1, .int .i64 a2, .int .i64 a3, .int .i64 a4, .int .i64 a5, .int .i64 a6]] w fun e w' => e = .returned (.int .i64 1) ∧ Below w.heap.size w w' := by
 have k1 := fun (W : World) => isWithin_any a1 1 256 W
 rw [decide_eq_true h1] at k1
 have K1 := Lib.hid k1
 have k2 := fun (W : World) => isWithin_any a2 1 256 W
 rw [decide_eq_false h2] at k2
 have K2 := Lib.hid k2
 clear k1 h1 k2 h2
 go_enter Tryz.func27, Tryz.ntmps27
 go_wp2_with fail
 refine (K1.out _).mono ?_
 rintro e w1 ⟨rfl, rfl⟩
 go_wp2_with fail
 refine (K2.out _).mono ?_
 rintro e w1 ⟨rfl, rfl⟩
 go_wp2_with fail
 go_ret
 exact ⟨rfl, by go_grown⟩
set_option maxRecDepth 100000 in
set_option maxHeartbeats 1000000 in
theorem checkCaps_bad3 (a1 a2 a3 a4 a5 a6 : Int) (h1 : 1 ≤ a1 ∧ a1 ≤ 256) (h2 : 1 ≤ a2 ∧ a2 ≤ 256) (h3 : ¬ (1 ≤ a3 ∧ a3 ≤ 64)) (w : World) : Calls Tryz.prog 27 #[.agg #[.int .i64 a1, .int .i64 a2, .int .i64 a3, .int .i64 a4, .int .i64 a5, .int .i64 a6]] w fun e w' => e = .returned (.int .i64 1) ∧ Below w.heap.size w w' := by
 have k1 := fun (W : World) => isWithin_any a1 1 256 W
 rw [decide_eq_true h1] at k1
 have K1 := Lib.hid k1
 have k2 := fun (W : World) => isWithin_any a2 1 256 W
 rw [decide_eq_true h2] at k2
 have K2 := Lib.hid k2
 have k3 := fun (W : World) => isWithin_any a3 1 64 W
 rw [decide_eq_false h3] at k3
 have K3 := Lib.hid k3
 clear k1 h1 k2 h2 k3 h3
 go_enter Tryz.func27, Tryz.ntmps27
 go_wp2_with fail
 refine (K1.out _).mono ?_
 rintro e w1 ⟨rfl, rfl⟩
 go_wp2_with fail
 refine (K2.out _).mono ?_
 rintro e w1 ⟨rfl, rfl⟩
 go_wp2_with fail
 refine (K3.out _).mono ?_
 rintro e w1 ⟨rfl, rfl⟩
 go_wp2_with fail
 go_ret
 exact ⟨rfl, by go_grown⟩
set_option maxRecDepth 100000 in
set_option maxHeartbeats 1000000 in
theorem checkCaps_bad4 (a1 a2 a3 a4 a5 a6 : Int) (h1 : 1 ≤ a1 ∧ a1 ≤ 256) (h2 : 1 ≤ a2 ∧ a2 ≤ 256) (h3 : 1 ≤ a3 ∧ a3 ≤ 64) (h4 : ¬ (0 ≤ a4 ∧ a4 ≤ 64)) (w : World) : Calls Tryz.prog 27 #[.agg #[.int .i64 a1, .int .i64 a2, .int .i64 a3, .int .i64 a4, .int .i64 a5, .int .i64 a6]] w fun e w' => e = .returned (.int .i64 1) ∧ Below w.heap.size w w' := by
 have k1 := fun (W : World) => isWithin_any a1 1 256 W
 rw [decide_eq_true h1] at k1
 have K1 := Lib.hid k1
 have k2 := fun (W : World) => isWithin_any a2 1 256 W
 rw [decide_eq_true h2] at k2
 have K2 := Lib.hid k2
 have k3 := fun (W : World) => isWithin_any a3 1 64 W
 rw [decide_eq_true h3] at k3
 have K3 := Lib.hid k3
 have k4 := fun (W : World) => isWithin_any a4 0 64 W
 rw [decide_eq_false h4] at k4
 have K4 := Lib.hid k4
 clear k1 h1 k2 h2 k3 h3 k4 h4
 go_enter Tryz.func27, Tryz.ntmps27
 go_wp2_with fail
 refine (K1.out _).mono ?_
 rintro e w1 ⟨rfl, rfl⟩
 go_wp2_with fail
 refine (K2.out _).mono ?_
 rintro e w1 ⟨rfl, rfl⟩
 go_wp2_with fail
 refine (K3.out _).mono ?_
 rintro e w1 ⟨rfl, rfl⟩
 go_wp2_with fail
 refine (K4.out _).mono ?_
 rintro e w1 ⟨rfl, rfl⟩
 go_wp2_with fail
 go_ret
 exact ⟨rfl, by go_grown⟩
set_option maxRecDepth 100000 in
set_option maxHeartbeats 1000000 in
theorem checkCaps_bad5 (a1 a2 a3 a4 a5 a6 : Int) (h1 : 1 ≤ a1 ∧ a1 ≤ 256) (h2 : 1 ≤ a2 ∧ a2 ≤ 256) (h3 : 1 ≤ a3 ∧ a3 ≤ 64) (h4 : 0 ≤ a4 ∧ a4 ≤ 64) (h5 : ¬ (0 ≤ a5 ∧ a5 ≤ 4096)) (w : World) : Calls Tryz.prog 27 #[.agg #[.int .i64 a1, .int .i64 a2, .int .i64 a3, .int .i64 a4, .int .i64 a5, .int .i64 a6]] w fun e w' => e = .returned (.int .i64 1) ∧ Below w.heap.size w w' := by
 have k1 := fun (W : World) => isWithin_any a1 1 256 W
 rw [decide_eq_true h1] at k1
 have K1 := Lib.hid k1
 have k2 := fun (W : World) => isWithin_any a2 1 256 W
 rw [decide_eq_true h2] at k2
 have K2 := Lib.hid k2
 have k3 := fun (W : World) => isWithin_any a3 1 64 W
 rw [decide_eq_true h3] at k3
 have K3 := Lib.hid k3
 have k4 := fun (W : World) => isWithin_any a4 0 64 W
 rw [decide_eq_true h4] at k4
 have K4 := Lib.hid k4
 have k5 := fun (W : World) => isWithin_any a5 0 4096 W
 rw [decide_eq_false h5] at k5
 have K5 := Lib.hid k5
 clear k1 h1 k2 h2 k3 h3 k4 h4 k5 h5
 go_enter Tryz.func27, Tryz.ntmps27
 go_wp2_with fail
 refine (K1.out _).mono ?_
 rintro e w1 ⟨rfl, rfl⟩
 go_wp2_with fail
 refine (K2.out _).mono ?_
 rintro e w1 ⟨rfl, rfl⟩
 go_wp2_with fail
 refine (K3.out _).mono ?_
 rintro e w1 ⟨rfl, rfl⟩
 go_wp2_with fail
 refine (K4.out _).mono ?_
 rintro e w1 ⟨rfl, rfl⟩
 go_wp2_with fail
 refine (K5.out _).mono ?_
 rintro e w1 ⟨rfl, rfl⟩
 go_wp2_with fail
 go_ret
 exact ⟨rfl, by go_grown⟩
set_option maxRecDepth 100000 in
set_option maxHeartbeats 1000000 in
theorem checkCaps_bad6 (a1 a2 a3 a4 a5 a6 : Int) (h1 : 1 ≤ a1 ∧ a1 ≤ 256) (h2 : 1 ≤ a2 ∧ a2 ≤ 256) (h3 : 1 ≤ a3 ∧ a3 ≤ 64) (h4 : 0 ≤ a4 ∧ a4 ≤ 64) (h5 : 0 ≤ a5 ∧ a5 ≤ 4096) (h6 : ¬ (1 ≤ a6 ∧ a6 ≤ 65535)) (w : World) : Calls Tryz.prog 27 #[.agg #[.int .i64 a1, .int .i64 a2, .int .i64 a3, .int .i64 a4, .int .i64 a5, .int .i64 a6]] w fun e w' => e = .returned (.int .i64 1) ∧ Below w.heap.size w w' := by
 have k1 := fun (W : World) => isWithin_any a1 1 256 W
 rw [decide_eq_true h1] at k1
 have K1 := Lib.hid k1
 have k2 := fun (W : World) => isWithin_any a2 1 256 W
 rw [decide_eq_true h2] at k2
 have K2 := Lib.hid k2
 have k3 := fun (W : World) => isWithin_any a3 1 64 W
 rw [decide_eq_true h3] at k3
 have K3 := Lib.hid k3
 have k4 := fun (W : World) => isWithin_any a4 0 64 W
 rw [decide_eq_true h4] at k4
 have K4 := Lib.hid k4
 have k5 := fun (W : World) => isWithin_any a5 0 4096 W
 rw [decide_eq_true h5] at k5
 have K5 := Lib.hid k5
 have k6 := fun (W : World) => isWithin_any a6 1 65535 W
 rw [decide_eq_false h6] at k6
 have K6 := Lib.hid k6
 clear k1 h1 k2 h2 k3 h3 k4 h4 k5 h5 k6 h6
 go_enter Tryz.func27, Tryz.ntmps27
 go_wp2_with fail
 refine (K1.out _).mono ?_
 rintro e w1 ⟨rfl, rfl⟩
 go_wp2_with fail
 refine (K2.out _).mono ?_
 rintro e w1 ⟨rfl, rfl⟩
 go_wp2_with fail
 refine (K3.out _).mono ?_
 rintro e w1 ⟨rfl, rfl⟩
 go_wp2_with fail
 refine (K4.out _).mono ?_
 rintro e w1 ⟨rfl, rfl⟩
 go_wp2_with fail
 refine (K5.out _).mono ?_
 rintro e w1 ⟨rfl, rfl⟩
 go_wp2_with fail
 refine (K6.out _).mono ?_
 rintro e w1 ⟨rfl, rfl⟩
 go_wp2_with fail
 go_ret
 exact ⟨rfl, by go_grown⟩
theorem checkCaps_bad (c : CapsD) (h : ¬ CapsOk c) (w : World) : Calls Tryz.prog 27 #[.agg #[.int .i64 c.ents, .int .i64 c.rows, .int .i64 c.archs, .int .i64 c.cmds, .int .i64 c.fuel, .int .i64 c.gens]] w fun e w' => e = .returned (.int .i64 1) ∧ Below w.heap.size w w' := by
 by_cases h1 : 1 ≤ c.ents ∧ c.ents ≤ 256
 ·by_cases h2 : 1 ≤ c.rows ∧ c.rows ≤ 256
  ·by_cases h3 : 1 ≤ c.archs ∧ c.archs ≤ 64
   ·by_cases h4 : 0 ≤ c.cmds ∧ c.cmds ≤ 64
    ·by_cases h5 : 0 ≤ c.fuel ∧ c.fuel ≤ 4096
     ·by_cases h6 : 1 ≤ c.gens ∧ c.gens ≤ 65535
      ·exact absurd ⟨h1, h2, h3, h4, h5, h6⟩ h
      ·exact checkCaps_bad6 _ _ _ _ _ _ h1 h2 h3 h4 h5 h6 w
     ·exact checkCaps_bad5 _ _ _ _ _ _ h1 h2 h3 h4 h5 w
    ·exact checkCaps_bad4 _ _ _ _ _ _ h1 h2 h3 h4 w
   ·exact checkCaps_bad3 _ _ _ _ _ _ h1 h2 h3 w
  ·exact checkCaps_bad2 _ _ _ _ _ _ h1 h2 w
 ·exact checkCaps_bad1 _ _ _ _ _ _ h1 w
set_option maxRecDepth 100000 in
set_option maxHeartbeats 2000000 in
theorem wNew_nil (c : CapsD) (ver : Int) (cs : List Cmp) (a : Option Addr) (len cap : Nat) (w : World) (hcs : CompsAt w.heap.size w a len cs) (hw : CompsWf cs) (hn : ¬ (schemaCheck ver cs = 0 ∧ CapsOk c)) :
  Calls Tryz.prog 8 #[.agg #[.int .i64 ver, .slice a len cap], .agg #[.int .i64 c.ents, .int .i64 c.rows, .int .i64 c.archs, .int .i64 c.cmds, .int .i64 c.fuel, .int .i64 c.gens]] w fun e w' => e = .returned (.pointer none) ∧ Below w.heap.size w w' := by
 have hb0 : Below w.heap.size w ((w.alloc (.cells #[.int .i64 ver, .slice a len cap] 24)).alloc (.cells #[.int .i64 c.ents, .int .i64 c.rows, .int .i64 c.archs, .int .i64 c.cmds, .int .i64 c.fuel, .int .i64 c.gens] 26)) := by go_grown
 have HB0 := Lib.hid hb0
 have HC0 := Lib.hid (heap_alloc_new (w.alloc (.cells #[.int .i64 ver, .slice a len cap] 24)) (.cells #[.int .i64 c.ents, .int .i64 c.rows, .int .i64 c.archs, .int .i64 c.cmds, .int .i64 c.fuel, .int .i64 c.gens] 26))
 have hsc := fun (W : World) (hb : Below w.heap.size w W) => schemaCheck_any ver cs a len cap W ((hcs.below hb).mono hb.size) hw
 by_cases hs : schemaCheck ver cs = 0
 ·have hcap := checkCaps_bad c (fun hc => hn ⟨hs, hc⟩)
  have HCB := Lib.hid hcap
  rw [hs] at hsc
  have HSC := Lib.hid hsc
  clear hb0 hsc hcap hn hs hcs hw
  obtain ⟨a1, a2, a3, a4, a5, a6⟩ := c
  dsimp only at *
  go_enter Tryz.func8, Tryz.ntmps8
  go_wp2_with fail
  refine (HSC.out _ HB0.out).mono ?_
  rintro e w1 ⟨rfl, hb1⟩
  have hc1 := keep hb1 HC0.out
  have HB1 := Lib.hid (HB0.out.trans (hb1.mono HB0.out.size))
  have x0 := cell_at hc1 0
  have x1 := cell_at hc1 1
  have x2 := cell_at hc1 2
  have x3 := cell_at hc1 3
  have x4 := cell_at hc1 4
  have x5 := cell_at hc1 5
  simp at x0 x1 x2 x3 x4 x5
  clear hb1 hc1
  go_wp2_with fail
  refine (HCB.out _).mono ?_
  rintro e w2 ⟨rfl, hb2⟩
  have HB2 := Lib.hid (HB1.out.trans (hb2.mono HB1.out.size))
  clear hb2 x0 x1 x2 x3 x4 x5
  go_wp2_with fail
  go_ret
  exact ⟨rfl, HB2.out⟩
 ·obtain ⟨k, hk⟩ : ∃ k, schemaCheck ver cs = k := ⟨_, rfl⟩
  rw [hk] at hsc hs
  have hkn : (k != 0) = true := by simpa using hs
  have HSC := Lib.hid hsc
  clear hb0 hsc hn hs hcs hw hk
  obtain ⟨a1, a2, a3, a4, a5, a6⟩ := c
  dsimp only at *
  go_enter Tryz.func8, Tryz.ntmps8
  go_wp2_with fail
  refine (HSC.out _ HB0.out).mono ?_
  rintro e w1 ⟨rfl, hb1⟩
  have HB1 := Lib.hid (HB0.out.trans (hb1.mono HB0.out.size))
  clear hb1
  go_wp2_with fail
  go_ret
  exact ⟨rfl, HB1.out⟩
end
end Go.Proofs.YthmpknlgkflhiabGreat
