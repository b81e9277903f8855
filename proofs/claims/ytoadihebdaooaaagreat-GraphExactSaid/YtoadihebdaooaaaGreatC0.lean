/- Contract of awake. -/
import Derived.Test.YtoadihebdaooaaaGreatB9
namespace Go.Proofs.YtoadihebdaooaaaGreat
open Go.RowKit
set_option linter.unusedVariables false

def w0 : Int × Int × Bool → Option Nat := fun _ => none
def w2f := putW (putW w0 (0, 1, true) 1) (1, 1, false) 0
def w3f := putW (putW w2f (1, 2, true) 2) (2, 2, false) 1
def w4f := putW (putW w3f (2, 1, false) 3) (3, 1, true) 2
def A0 : GS := GS0 1 cs2 4 9
def A1 (t1 : Nat) : GS := { A0 with ts := [(t1, 0)] }
def A2 (t1 t2 : Nat) : GS := { A0 with ts := [(t1, 0), (t2, 2)], ways := w2f, nw := 2 }
def A3 (t1 t2 t3 : Nat) : GS := { A0 with ts := [(t1, 0), (t2, 2), (t3, 6)], ways := w3f, nw := 4 }
def A4 (t1 t2 t3 t4 : Nat) : GS := { A0 with ts := [(t1, 0), (t2, 2), (t3, 6), (t4, 4)], ways := w4f, nw := 6 }
theorem aw1 (t : Nat) : makeG A0 0 t = (A1 t, 0, 0) := by kernel_rfl
theorem aw2 (t1 t : Nat) : stepG (A1 t1) 0 1 true t = (A2 t1 t, 1, 0) := by kernel_rfl
theorem aw3 (t1 t2 t : Nat) : stepG (A2 t1 t2) 1 2 true t = (A3 t1 t2 t, 2, 0) := by kernel_rfl
theorem aw4 (t1 t2 t3 t : Nat) : stepG (A3 t1 t2 t3) 2 1 false t = (A4 t1 t2 t3 t, 3, 0) := by kernel_rfl
theorem aw5 (t1 t2 t3 t4 t : Nat) : stepG (A4 t1 t2 t3 t4) 0 1 false t = (A4 t1 t2 t3 t4, 0, 7) := by kernel_rfl
theorem aw6 (t1 t2 t3 t4 t : Nat) : makeG (A4 t1 t2 t3 t4) 8 t = (A4 t1 t2 t3 t4, 0, 6) := by kernel_rfl
theorem aw7 : newOk 1 cs2 4 9 = true := by kernel_rfl
theorem aw8 (t1 t2 t3 t4 : Nat) : posOf 6 (A4 t1 t2 t3 t4).sigs = some 2 := by kernel_rfl
theorem aw9 (t1 t2 t3 t4 : Nat) : ((A4 t1 t2 t3 t4).ways (3, 1, true)).isSome = true := by kernel_rfl
theorem aw10 (t1 t2 t3 t4 : Nat) : tabPtr (A4 t1 t2 t3 t4) 4 = none := by kernel_rfl
theorem aw11 (t1 t2 t3 t4 : Nat) : tabPtr (A4 t1 t2 t3 t4) 2 = some ⟨t3, 0, none⟩ := by kernel_rfl
theorem cs2_wf : CompsWf cs2 := by
  intro c hc
  simp [cs2] at hc
  rcases hc with rfl | rfl
  · exact ⟨by unfold maxLen; simp [ByteArray.size], by simp⟩
  · exact ⟨by unfold maxLen; simp [ByteArray.size], by simp⟩
theorem cs2_f : ∀ c ∈ cs2, c.fields.length ≤ 100000 := by
  intro c hc
  simp [cs2] at hc
  rcases hc with rfl | rfl <;> simp

set_option maxRecDepth 100000 in
set_option maxHeartbeats 4000000 in
theorem awake_any (w : World) : Calls Tryz.prog 7 #[] w fun e w' => e = .returned (.bool true) ∧ Below w.heap.size w w' := by
  go_enter Tryz.func7, Tryz.ntmps7
  go_wp2_with fail
  refine (two_any _).mono ?_
  rintro e w1 ⟨a, c, rfl, hcs, hb1⟩
  go_wp2_with fail
  refine (graphNew_any 1 cs2 (some a) 2 c 4 9 _ hcs cs2_wf (by omega) cs2_f (fun h => by cases h)).mono ?_
  rintro e w2 ⟨hb2, hnew⟩
  rw [aw7] at hnew
  obtain ⟨B1, gb, rfl, hB, hG⟩ := hnew
  have hbel : Below w.heap.size w w2 := hb1.trans (hb2.mono hb1.size)
  have hBw : w.heap.size ≤ B1 := Nat.le_trans hb1.size hB
  clear hcs hb1 hb2 hB
  go_wp2_with fail
  refine (make_any B1 gb A0 0 _ hG (by omega) (by omega)).mono ?_
  rintro e w3 ⟨t1, rfl, hG1, hT⟩
  have hbel3 := hbel.trans (hT.1.mono hBw)
  rw [aw1] at hG1 ⊢
  clear hT hbel hG
  go_wp2_with fail
  refine (step_any B1 gb (A1 t1) 0 1 true _ hG1 ⟨by omega, by omega⟩ ⟨by omega, by omega⟩ (by simp [A1, A0, GS0])).mono ?_
  rintro e w4 ⟨t2, rfl, hG2, hT⟩
  have hbel4 := hbel3.trans (hT.1.mono hBw)
  rw [aw2] at hG2 ⊢
  clear hT hbel3 hG1
  go_wp2_with fail
  refine (step_any B1 gb (A2 t1 t2) 1 2 true _ hG2 ⟨by omega, by omega⟩ ⟨by omega, by omega⟩ (by simp [A2])).mono ?_
  rintro e w5 ⟨t3, rfl, hG3, hT⟩
  have hbel5 := hbel4.trans (hT.1.mono hBw)
  rw [aw3] at hG3 ⊢
  clear hT hbel4 hG2
  go_wp2_with fail
  refine (step_any B1 gb (A3 t1 t2 t3) 2 1 false _ hG3 ⟨by omega, by omega⟩ ⟨by omega, by omega⟩ (by simp [A3])).mono ?_
  rintro e w6 ⟨t4, rfl, hG4, hT⟩
  have hbel6 := hbel5.trans (hT.1.mono hBw)
  rw [aw4] at hG4 ⊢
  clear hT hbel5 hG3
  go_wp2_with fail
  refine (step_any B1 gb (A4 t1 t2 t3 t4) 0 1 false _ hG4 ⟨by omega, by omega⟩ ⟨by omega, by omega⟩ (by simp [A4])).mono ?_
  rintro e w7 ⟨t5, rfl, hG5, hT⟩
  have hbel7 := hbel6.trans (hT.1.mono hBw)
  rw [aw5] at hG5 ⊢
  clear hT hbel6 hG4
  go_wp2_with fail
  refine (make_any B1 gb (A4 t1 t2 t3 t4) 8 _ hG5 (by omega) (by omega)).mono ?_
  rintro e w8 ⟨t6, rfl, hG6, hT⟩
  have hbel8 := hbel7.trans (hT.1.mono hBw)
  rw [aw6] at hG6 ⊢
  clear hT hbel7 hG5
  have HG := Lib.hid hG6
  clear hG6
  go_wp2_with fail
  refine (gfind_any B1 gb (A4 t1 t2 t3 t4) 6 _ HG.out (by omega) (by omega)).mono ?_
  rintro e w' ⟨rfl, rfl⟩
  rw [aw8]
  go_wp2_with fail
  refine (len_any B1 gb (A4 t1 t2 t3 t4) _ HG.out).mono ?_
  rintro e w' ⟨rfl, rfl⟩
  rw [show (((A4 t1 t2 t3 t4).ts.length : Nat) : Int) = 4 from rfl]
  go_wp2_with fail
  refine (room_any B1 gb (A4 t1 t2 t3 t4) _ HG.out).mono ?_
  rintro e wq ⟨rfl, nq, rfl⟩
  rw [show (A4 t1 t2 t3 t4).archs - (((A4 t1 t2 t3 t4).ts.length : Nat) : Int) = 0 from rfl]
  have HG9 := Lib.hid (HG.out.below (below_drewN (Below.refl _ _) nq))
  have hbel9 := below_drewN hbel8 nq
  clear HG hbel8
  generalize w8.drewN nq = w9 at HG9 hbel9 ⊢
  go_wp2_with fail
  refine (ways_any B1 gb (A4 t1 t2 t3 t4) _ HG9.out).mono ?_
  rintro e w' ⟨rfl, rfl⟩
  rw [show (((A4 t1 t2 t3 t4).nw : Nat) : Int) = 6 from rfl]
  go_wp2_with fail
  refine (knows_any B1 gb (A4 t1 t2 t3 t4) 3 1 true _ HG9.out ⟨by omega, by omega⟩ ⟨by omega, by omega⟩).mono ?_
  rintro e w' ⟨rfl, rfl⟩
  rw [aw9]
  go_wp2_with fail
  refine (table_any B1 gb (A4 t1 t2 t3 t4) 4 _ HG9.out).mono ?_
  rintro e w' ⟨rfl, rfl⟩
  rw [aw10]
  go_wp2_with fail
  refine (table_any B1 gb (A4 t1 t2 t3 t4) 2 _ HG9.out).mono ?_
  rintro e w' ⟨rfl, rfl⟩
  rw [aw11]
  obtain ⟨mb, wb, ca, cl, cc, ta, tc, bs, ws, hA⟩ := HG9.out
  have HT := Lib.hid (hA.tab (t3, 6) (by simp [A4])).1
  clear hA
  go_wp2_with fail
  refine (tsig_any _ _ _ _ _ HT.out).mono ?_
  rintro e w' ⟨rfl, rfl⟩
  go_wp2_with fail
  go_returns
  exact ⟨rfl, hbel9⟩
end Go.Proofs.YtoadihebdaooaaaGreat
