/- tally.Of at rows of two lengths. -/
import Derived.Test.YtgngpanimeigbabDoorT0
namespace Go.Proofs.YtgngpanimeigbabDoor
open Go.RowKit
set_option linter.unusedVariables false
set_option maxRecDepth 100000 in
theorem of_form (a a2 : Option Addr) (n c n2 c2 : Nat) (w : World) (h1 : n ≤ 1000000) (h2 : n2 ≤ 1000000) (hne : n ≠ n2) :
    Calls Tryd.prog 7 #[.slice a n c, .slice a2 n2 c2] w fun e w' => e = .returned (.tuple #[.agg (tv zeros), .int .i64 4]) ∧ Below w.heap.size w w' := by
  have e1 : ((n : Int) != (n2 : Int)) = true := by simp; omega
  have HNE := Lib.hid hne
  clear hne
  have hT0 := keepA (.cells (tv zeros) 25) (heap_alloc_new w (.cells (tv zeros) 25))
  have hU0 := heap_alloc_new (w.alloc (.cells (tv zeros) 25)) (.cells (tv zeros) 25)
  have hbel0 : Below w.heap.size w ((w.alloc (.cells (tv zeros) 25)).alloc (.cells (tv zeros) 25)) := by go_grown
  simp only [World.size_alloc] at hT0 hU0
  have HB := Lib.hid (And.intro hT0 (And.intro hU0 hbel0))
  clear hT0 hU0 hbel0
  have hs1 : (Tryd.prog.info? 25).map (·.size) = some (tv zeros).size := by rw [show (tv zeros).size = 22 from rfl]; exact Tryd.size25
  have HS := Lib.hid hs1
  clear hs1
  go_enter Tryd.func7, Tryd.ntmps7
  go_wp2_with (first | (refine wpList_load_row rfl 25 (.tmp 6) rfl (w.heap.size + 1) rfl 25 (tv zeros) (0, 0) _ HB.out.2.1 Tryd.underlying25 rfl HS.out ?_) | (refine wpList_store_row rfl 25 (.tmp 4) (.tmp 15) rfl w.heap.size (tv zeros) rfl rfl 25 (tv zeros) HB.out.1 HS.out rfl (tv_one _) ?_))
  have hld := run_loadVar_row (P := Tryd.prog) _ w.heap.size 25 25 (tv zeros) (0, 0) _ (setRow_heap _ w.heap.size (tv zeros) (tv zeros) _ _ HB.out.1) Tryd.underlying25 rfl HS.out
  refine bodyPost_ret (v := .tuple #[.agg (tv zeros), .int .i64 4]) ?_ rfl ⟨rfl, ?_⟩
  · rw [zerosV]
    simp [results, Tryd.results7, asAddr, hld, Result.andThen]
  · exact below_setRow HB.out.2.2 (Nat.le_refl _) _
end Go.Proofs.YtgngpanimeigbabDoor
