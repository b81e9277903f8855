/- Contracts of the law's 'lines' at equal rows, and of retrofitref09.Digits. -/
import Derived.Test.YtgngpanimeigbabDoorT7
namespace Go.Proofs.YtgngpanimeigbabDoor
open Go.RowKit
set_option linter.unusedVariables false
set_option maxRecDepth 100000 in
theorem same_any (S : Nat → ByteArray) (q1 q2 n c1 c2 : Nat) (w : World) (hn : n ≤ 1000) (hq1 : q1 < w.heap.size) (hq2 : q2 < w.heap.size) (h1 : ∀ i, i < n → w.cell? ⟨q1, i, none⟩ = some (.string (S i))) (h2 : ∀ i, i < n → w.cell? ⟨q2, i, none⟩ = some (.string (S i))) :
    Calls Tryd.prog 10 #[.slice (some ⟨q1, 0, none⟩) n c1, .slice (some ⟨q2, 0, none⟩) n c2] w fun e w' => e = .returned (.bool true) ∧ Below w.heap.size w w' := by
  have H1 := Lib.hid h1
  have H2 := Lib.hid h2
  clear h1 h2
  go_enter Tryd.func10, Tryd.ntmps10
  go_wp2_with fail
  go_loopw [5] (fun i wr => ∃ k : Nat, k ≤ n ∧ i = .int .i64 k ∧ Below w.heap.size w wr) (fun i _ => n - (intOf i).toNat)
  case atStart => exact ⟨0, by omega, rfl, Below.refl _ _⟩
  case round =>
    obtain ⟨k, hk, rfl, hbw⟩ := hrel
    by_cases hlt : k < n
    · have e1 := (hbw.cell (p := ⟨q1, k, none⟩) hq1).trans (H1.out k hlt)
      have e2 := (hbw.cell (p := ⟨q2, k, none⟩) hq2).trans (H2.out k hlt)
      have i1 : (0 : Int) ≤ (k : Int) := by omega
      have i2 : (k : Int) < (n : Int) := by omega
      generalize S k = s at *
      go_wp2_with fail
      go_quiet (fail)
      go_wp2_with fail
      go_roundw
      case rel => exact ⟨k + 1, by omega, by go_num, below_drewN hbw _⟩
      case measure => simp [intOf]; omega
    · obtain rfl : k = n := by omega
      go_wp2_with fail
      go_returns
      exact ⟨rfl, hbw⟩
end Go.Proofs.YtgngpanimeigbabDoor
