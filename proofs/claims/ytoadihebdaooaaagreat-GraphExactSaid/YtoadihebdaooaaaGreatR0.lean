/- Contracts of retrofitref04.Bytes, retrofitref07.Name. -/
import Derived.Test.YtoadihebdaooaaaGreatA5
namespace Go.Proofs.YtoadihebdaooaaaGreat
open Go.RowKit
set_option linter.unusedVariables false
def bytesA : Array Value := #[.int .i64 0, .int .i64 1, .int .i64 1, .int .i64 2, .int .i64 4, .int .i64 8, .int .i64 1, .int .i64 2, .int .i64 4, .int .i64 8, .int .i64 8]
theorem bytesA_get {k : Int} (h1 : 1 ≤ k) (h2 : k ≤ 10) : bytesA[k.toNat]? = some (.int .i64 (kSize k)) := by
  rcases (by omega : k = 1 ∨ k = 2 ∨ k = 3 ∨ k = 4 ∨ k = 5 ∨ k = 6 ∨ k = 7 ∨ k = 8 ∨ k = 9 ∨ k = 10) with rfl | rfl | rfl | rfl | rfl | rfl | rfl | rfl | rfl | rfl <;> rfl
set_option maxRecDepth 100000 in
theorem bytes04_any (k : Int) (w : World) : Calls Tryz.prog 97 #[.int .i64 k] w fun e w' => e = .returned (.int .i64 (kSize k)) ∧ Below w.heap.size w w' := by
  rcases (by omega : k < 1 ∨ (1 ≤ k ∧ 10 < k) ∨ (1 ≤ k ∧ k ≤ 10)) with h | ⟨h, h'⟩ | ⟨h, h'⟩
  · have H : Hid (kSize k = 0) := Lib.hid (kSize_zero (by omega))
    go_enter Tryz.func97, Tryz.ntmps97
    go_wp2
    go_ret
    exact ⟨by rw [H.out]; rfl, Below.refl _ _⟩
  · have H : Hid (kSize k = 0) := Lib.hid (kSize_zero (by omega))
    go_enter Tryz.func97, Tryz.ntmps97
    go_wp2
    go_ret
    exact ⟨by rw [H.out]; rfl, Below.refl _ _⟩
  · have hc : (w.alloc (.cells bytesA 223)).cell? ⟨w.heap.size, k.toNat, none⟩ = some (.int .i64 (kSize k)) := (cell_at (heap_alloc_new w _) _).trans (bytesA_get h h')
    have h0 : 0 ≤ k := by omega
    have h11 : k < 11 := by omega
    have HG : Hid (Below w.heap.size w (w.alloc (.cells bytesA 223))) := Lib.hid (by go_grown)
    unfold bytesA at hc
    generalize kSize k = q at *
    go_enter Tryz.func97, Tryz.ntmps97
    go_wp2
    go_ret
    exact ⟨rfl, HG.out⟩
set_option maxRecDepth 100000 in
set_option maxHeartbeats 1000000 in
theorem name07_any (s : ByteArray) (w : World) (hs : s.size ≤ maxLen) : Calls Tryz.prog 58 #[.string s] w fun e w' => e = .returned (.bool (isNameB s)) ∧ w = w' := by
  unfold maxLen at hs
  by_cases h0 : s.size = 0
  · have H := Lib.hid (isName_long (.inl h0))
    have t0 : (s.size : Int) < 1 := by omega
    clear h0
    go_enter Tryz.func58, Tryz.ntmps58
    go_wp2
    go_ret
    exact ⟨ret_bool H.out.symm, rfl⟩
  · by_cases h1 : 12 < s.size
    · have H := Lib.hid (isName_long (.inr h1))
      have t0 : ¬ (s.size : Int) < 1 := by omega
      have t1 : (12 : Int) < (s.size : Int) := by omega
      clear h0 h1
      go_enter Tryz.func58, Tryz.ntmps58
      go_wp2
      go_ret
      exact ⟨ret_bool H.out.symm, rfl⟩
    · have t0 : ¬ (s.size : Int) < 1 := by omega
      have t1 : ¬ (12 : Int) < (s.size : Int) := by omega
      have H0 := Lib.hid h0
      have H1 := Lib.hid h1
      clear h0 h1
      go_enter Tryz.func58, Tryz.ntmps58
      go_wp2_with fail
      go_loop [3] (fun i => ∃ k : Nat, k ≤ s.size ∧ i = .int .i64 k ∧ (s.data.toList.take k).all chB = true ∧ (0 < k → letB ((s.data.toList.getD 0 0).toNat) = true)) (fun i => s.size - (intOf i).toNat)
      case atStart => exact ⟨0, Nat.zero_le _, rfl, rfl, fun h => by omega⟩
      case round =>
        obtain ⟨k, hk, rfl, hall, hfst⟩ := hrel
        have HA := Lib.hid hall
        have HF := Lib.hid hfst
        clear hall hfst t0 t1
        by_cases hlt : k < s.size
        · have HT := Lib.hid (take_snoc (data_get? hlt))
          have hlt' : (k : Int) < (s.size : Int) := by omega
          have hb0 : (s[k].toNat : Int) ≤ 255 := by have := s[k].toNat_lt; omega
          have HD := Lib.hid (data_getD hlt)
          rcases (by omega : (s[k].toNat : Int) < 48 ∨ (48 ≤ (s[k].toNat : Int) ∧ (s[k].toNat : Int) ≤ 57) ∨ (57 < (s[k].toNat : Int) ∧ (s[k].toNat : Int) < 97) ∨ (97 ≤ (s[k].toNat : Int) ∧ (s[k].toNat : Int) ≤ 122) ∨ 122 < (s[k].toNat : Int)) with h | ⟨h, h'⟩ | ⟨h, h'⟩ | ⟨h, h'⟩ | h
          · have H := Lib.hid (isName_bad hlt (by unfold chB letB; simp; omega))
            have e1 : decide (97 ≤ (s[k].toNat : Int)) = false := by simp; omega
            have e2 : decide (48 ≤ (s[k].toNat : Int)) = false := by simp; omega
            go_wp2
            go_ret
            exact ⟨ret_bool H.out.symm, rfl⟩
          · have e1 : decide (97 ≤ (s[k].toNat : Int)) = false := by simp; omega
            have e2 : decide (48 ≤ (s[k].toNat : Int)) = true := by simp; omega
            have e3 : decide ((s[k].toNat : Int) ≤ 57) = true := by simp; omega
            by_cases hk0 : k = 0
            · have hb : letB (s[k].toNat) = false := by unfold letB; simp; omega
              have H : Hid (isNameB s = false) := Lib.hid (by subst hk0; exact isName_head hlt hb)
              have e4 : ((k : Int) == 0) = true := by simp; omega
              clear hb hk0
              go_wp2
              go_ret
              exact ⟨ret_bool H.out.symm, rfl⟩
            · have H := Lib.hid (show chB s[k] = true by unfold chB letB; simp; omega)
              have e4 : ((k : Int) == 0) = false := by simp; omega
              have HK := Lib.hid hk0
              clear hk0
              go_wp2
              go_round
              case rel => exact ⟨k + 1, by omega, by go_num, by rw [HT.out, List.all_append, HA.out]; simp [H.out], fun _ => HF.out (by have := HK.out; omega)⟩
              case measure => simp [intOf]; omega
          · have H := Lib.hid (isName_bad hlt (by unfold chB letB; simp; omega))
            have e1 : decide (97 ≤ (s[k].toNat : Int)) = false := by simp; omega
            have e2 : decide (48 ≤ (s[k].toNat : Int)) = true := by simp; omega
            have e3 : decide ((s[k].toNat : Int) ≤ 57) = false := by simp; omega
            go_wp2
            go_ret
            exact ⟨ret_bool H.out.symm, rfl⟩
          · have H := Lib.hid (show chB s[k] = true by unfold chB letB; simp; omega)
            have HL := Lib.hid (show letB (s[k].toNat) = true by unfold letB; simp; omega)
            have e1 : decide (97 ≤ (s[k].toNat : Int)) = true := by simp; omega
            have e2 : decide (48 ≤ (s[k].toNat : Int)) = true := by simp; omega
            have e3 : decide ((s[k].toNat : Int) ≤ 57) = false := by simp; omega
            have e5 : decide ((s[k].toNat : Int) ≤ 122) = true := by simp; omega
            go_wp2
            go_round
            case rel =>
              refine ⟨k + 1, by omega, by go_num, by rw [HT.out, List.all_append, HA.out]; simp [H.out], fun _ => ?_⟩
              rcases (by omega : k = 0 ∨ 0 < k) with hz | hz
              · have h1 := HL.out
                have h2 := HD.out
                subst hz
                rw [h2]; exact h1
              · exact HF.out hz
            case measure => simp [intOf]; omega
          · have H := Lib.hid (isName_bad hlt (by unfold chB letB; simp; omega))
            have e1 : decide (97 ≤ (s[k].toNat : Int)) = true := by simp; omega
            have e2 : decide (48 ≤ (s[k].toNat : Int)) = true := by simp; omega
            have e3 : decide ((s[k].toNat : Int) ≤ 57) = false := by simp; omega
            have e5 : decide ((s[k].toNat : Int) ≤ 122) = false := by simp; omega
            go_wp2
            go_ret
            exact ⟨ret_bool H.out.symm, rfl⟩
        · obtain rfl : k = s.size := by omega
          have h0 := H0.out
          have hp : 0 < s.size := by omega
          have H := Lib.hid (isName_good hp (by have := H1.out; omega) (by have := HF.out hp; rwa [data_getD hp] at this) (by have := HA.out; rwa [List.take_of_length_le (by simp)] at this))
          clear h0 hp
          go_wp2
          go_ret
          exact ⟨ret_bool H.out.symm, rfl⟩
end Go.Proofs.YtoadihebdaooaaaGreat
