/- Contracts of the law's 'form' and 'lines'. -/
import Derived.Test.YtgngpanimeigbabDoorE0
import Derived.Test.YtgngpanimeigbabDoorT8
namespace Go.Proofs.YtgngpanimeigbabDoor
open Go.RowKit
set_option linter.unusedVariables false
/-- The first k places copied. -/
def cpF (t : List Int) : Nat → List Int
  | 0 => zeros
  | k + 1 => (cpF t k).set k (gt t k)
theorem cpF_len (t : List Int) : ∀ k, (cpF t k).length = 22
  | 0 => rfl
  | k + 1 => by simp [cpF, cpF_len t k]
theorem cpF_at (t : List Int) : ∀ k, k ≤ 22 → ∀ i, gt (cpF t k) i = if i < k then gt t i else 0
  | 0, _, i => by simp [cpF, zeros_gt]
  | k + 1, hk, i => by
    unfold cpF
    rw [gt_set _ _ _ _ (by rw [cpF_len]; omega), cpF_at t k (by omega) i]
    by_cases h : i = k
    · subst h; rw [if_pos rfl, if_pos (by omega)]
    · rw [if_neg h]
      by_cases h2 : i < k
      · rw [if_pos h2, if_pos (by omega)]
      · rw [if_neg h2, if_neg (by omega)]
theorem cpF_all (t : List Int) (h : t.length = 22) : cpF t 22 = t :=
  ext22 (cpF_len t 22) h (fun i hi => by rw [cpF_at t 22 (by omega) i, if_pos hi])
def restA (t : List Int) : Array Value := #[.int .i64 (gt t 12), .int .i64 (gt t 13), .int .i64 (gt t 14), .int .i64 (gt t 15), .int .i64 (gt t 16), .int .i64 (gt t 17), .int .i64 (gt t 18), .int .i64 (gt t 19), .int .i64 (gt t 20), .int .i64 (gt t 21)]
theorem restA_get (t : List Int) {k : Nat} (h : k < 10) : (restA t)[k]? = some (.int .i64 (gt t (12 + k))) := by
  rcases (by omega : k = 0 ∨ k = 1 ∨ k = 2 ∨ k = 3 ∨ k = 4 ∨ k = 5 ∨ k = 6 ∨ k = 7 ∨ k = 8 ∨ k = 9) with rfl | rfl | rfl | rfl | rfl | rfl | rfl | rfl | rfl | rfl <;> rfl
set_option maxRecDepth 100000 in
set_option maxHeartbeats 1000000 in
theorem form_any (t : List Int) (w : World) (ht : t.length = 22) :
    Calls Tryd.prog 9 #[.agg (tv t)] w fun e w' => e = .returned (.agg (tv t)) ∧ Below w.heap.size w w' := by
  have hsa : (tv t).size = 22 := by simp [tv, ht]
  have oa := tv_one t
  have hA0 := keepA (.cells (tv zeros) 36) (keepA (.cells (tv zeros) 36) (heap_alloc_new w (.cells (tv t) 25)))
  have hT0 := keepA (.cells (tv zeros) 36) (heap_alloc_new (w.alloc (.cells (tv t) 25)) (.cells (tv zeros) 36))
  have hU0 := heap_alloc_new ((w.alloc (.cells (tv t) 25)).alloc (.cells (tv zeros) 36)) (.cells (tv zeros) 36)
  have hbel0 : Below w.heap.size w (((w.alloc (.cells (tv t) 25)).alloc (.cells (tv zeros) 36)).alloc (.cells (tv zeros) 36)) := by go_grown
  simp only [World.size_alloc] at hA0 hT0 hU0
  have HB := Lib.hid (And.intro hA0 (And.intro hT0 (And.intro hU0 hbel0)))
  clear hA0 hT0 hU0 hbel0
  have hz0 := rsize_of (t := zeros) rfl
  have HZ0 := Lib.hid hz0
  clear hz0
  go_enter Tryd.func9, Tryd.ntmps9
  go_wp2_with (first | (refine wpList_store_row rfl 36 (.tmp 3) (.tmp 7) rfl (w.heap.size + 1 + 1) (tv zeros) rfl rfl 36 (tv zeros) HB.out.2.2.1 HZ0.out rfl (tv_one zeros) ?_))
  rw [zerosV]
  obtain ⟨hA0, hT0, hU0, hbel0⟩ := HB.out
  clear HB
  have hA0 := (setRow_other _ (w.heap.size + 1 + 1) w.heap.size (tv zeros) (by omega)).trans hA0
  have hT0 := (setRow_other _ (w.heap.size + 1 + 1) (w.heap.size + 1) (tv zeros) (by omega)).trans hT0
  have hU0 := setRow_heap _ (w.heap.size + 1 + 1) (tv zeros) (tv zeros) _ _ hU0
  have hbel0 := below_setRow hbel0 (by omega : w.heap.size ≤ w.heap.size + 1 + 1) (tv zeros)
  generalize (((w.alloc (.cells (tv t) 25)).alloc (.cells (tv zeros) 36)).alloc (.cells (tv zeros) 36)).setRow (w.heap.size + 1 + 1) (tv zeros) = W at hA0 hT0 hU0 hbel0 ⊢
  generalize hab : w.heap.size = ab at *
  generalize hub : ab + 1 + 1 = ub at *
  generalize htb : ab + 1 = tb at *
  have n1 : ab ≠ ub := by omega
  have n2 : ub ≠ ab := by omega
  have n3 : tb ≠ ub := by omega
  have n4 : ab ≤ ub := by omega
  have n5 : ab ≤ tb := by omega
  have HW := Lib.hid (And.intro hab (And.intro n3 (And.intro n4 n5)))
  clear hab hub htb n3 n4 n5
  have HI := Lib.hid (And.intro hA0 (And.intro hT0 (And.intro hU0 hbel0)))
  clear hA0 hT0 hU0 hbel0
  go_loopw [4] (fun i wr => ∃ k : Nat, k ≤ 12 ∧ i = .int .i64 k ∧ wr.heap[ub]? = some (.cells (tv (cpF t k)) 36 (0, 0)) ∧ Only ub W wr) (fun i _ => 12 - (intOf i).toNat)
  case atStart => exact ⟨0, by omega, rfl, HI.out.2.2.1, Only.refl _ _⟩
  case round =>
    obtain ⟨k, hk, rfl, hU, ho⟩ := hrel
    by_cases hlt : k < 12
    · have c1 := (cell_at (keepO ho HI.out.1 n1) k).trans (tv_get (getD_some (by omega)))
      have c2 := (cell_at hU k).trans (tv_get (getD_some (by rw [cpF_len]; omega)))
      have f1 := free_at hU k
      have i1 : (0 : Int) ≤ (k : Int) := by omega
      have i2 : (k : Int) < 12 := by omega
      have HH := Lib.hid (And.intro (rput_at (i := k) (x := gt t k) hU) ho)
      clear hU ho
      go_wp2_with fail
      go_roundw
      case rel => exact ⟨k + 1, by omega, by go_num, HH.out.1, HH.out.2.trans (Only.at _ _ _ _)⟩
      case measure => simp [intOf]; omega
    · obtain rfl : k = 12 := by omega
      have hA := keepO ho HI.out.1 n1
      have cb : ∀ i, i < 22 → wr.cell? ⟨ab, i, none⟩ = some (.int .i64 (gt t i)) := fun i hi => (cell_at hA i).trans (tv_get (getD_some (by omega)))
      have b12 := cb 12 (by omega)
      have b13 := cb 13 (by omega)
      have b14 := cb 14 (by omega)
      have b15 := cb 15 (by omega)
      have b16 := cb 16 (by omega)
      have b17 := cb 17 (by omega)
      have b18 := cb 18 (by omega)
      have b19 := cb 19 (by omega)
      have b20 := cb 20 (by omega)
      have b21 := cb 21 (by omega)
      have hT := keepO ho HI.out.2.1 HW.out.2.1
      have hbw : Below ab w wr := HI.out.2.2.2.trans (ho.below HW.out.2.2.1)
      have hz := lt_some hU
      have HH := Lib.hid (And.intro hU (And.intro hT hbw))
      have hR := heap_alloc_new wr (.cells (restA t) 74)
      have hU3 := keepA (.cells (restA t) 74) hU
      have hT3 := keepA (.cells (restA t) 74) hT
      have hbw3 := hbw.alloc (by have := lt_some hA; omega) (.cells (restA t) 74)
      have HH := Lib.hid (And.intro hU3 (And.intro hT3 (And.intro hR hbw3)))
      clear cb hA hU ho HI hT hbw hR hU3 hT3 hbw3
      go_wp2_with fail
      rw [← restA]
      clear b12 b13 b14 b15 b16 b17 b18 b19 b20 b21
      obtain ⟨hU, hT, hR, hbw⟩ := HH.out
      clear HH
      generalize wr.alloc (.cells (restA t) 74) = W2 at *
      generalize wr.heap.size = rb at *
      have n6 : rb ≠ ub := by omega
      have n7 : ub ≠ rb := by omega
      have HI2 := Lib.hid (And.intro hU (And.intro hT (And.intro hR hbw)))
      clear hU hT hR hbw hz
      go_loopw [6] (fun i wr => ∃ k : Nat, k ≤ 10 ∧ i = .int .i64 k ∧ wr.heap[ub]? = some (.cells (tv (cpF t (12 + k))) 36 (0, 0)) ∧ Only ub W2 wr) (fun i _ => 10 - (intOf i).toNat)
      case atStart => exact ⟨0, by omega, rfl, HI2.out.1, Only.refl _ _⟩
      case round =>
        obtain ⟨k, hk, rfl, hU, ho⟩ := hrel
        by_cases hlt : k < 10
        · have c1 := (cell_at (keepO ho HI2.out.2.2.1 n6) k).trans (restA_get t hlt)
          have c2 := (cell_at hU (12 + k)).trans (tv_get (getD_some (by rw [cpF_len]; omega)))
          have f1 := free_at hU (12 + k)
          have i1 : (0 : Int) ≤ (k : Int) := by omega
          have i2 : (k : Int) < 10 := by omega
          have i3 : (12 : Int) + (k : Int) < 22 := by omega
          have i4 : (0 : Int) ≤ 12 + (k : Int) := by omega
          have i5 : ((12 : Int) + (k : Int)).toNat = 12 + k := by omega
          have HH := Lib.hid (And.intro (rput_at (i := 12 + k) (x := gt t (12 + k)) hU) ho)
          clear hU ho
          go_wp2_with fail
          go_roundw
          case rel => exact ⟨k + 1, by omega, by go_num, HH.out.1, HH.out.2.trans (Only.at _ _ _ _)⟩
          case measure => simp [intOf]; omega
        · obtain rfl : k = 10 := by omega
          have e22 : cpF t (12 + 10) = t := cpF_all t ht
          rw [e22] at hU
          clear e22
          have hT := keepO ho HI2.out.2.1 HW.out.2.1
          have hbw := HI2.out.2.2.2.trans (ho.below HW.out.2.2.1)
          have hi := rsize_of ht
          have hs : (tv zeros).size = (tv t).size := by simp [tv, ht, zeros]
          have HT5 := Lib.hid (setRow_heap wr tb (tv zeros) (tv t) 36 (0, 0) hT)
          have HS := Lib.hid (And.intro hU (And.intro hT (And.intro hi (And.intro hs hbw))))
          clear hU ho HI2 hT hbw hi hs
          go_wp2_with (first | (refine wpList_load_row rfl 36 (.tmp 3) rfl ub rfl 36 (tv t) (0, 0) _ HS.out.1 Tryd.underlying36 rfl HS.out.2.2.1 ?_) | (refine wpList_store_row rfl 36 (.tmp 2) (.tmp 49) rfl tb (tv t) rfl rfl 36 (tv zeros) HS.out.2.1 HS.out.2.2.1 HS.out.2.2.2.1 (tv_one t) ?_))
          refine bodyPost_ret (v := .agg (tv t)) (results_cell_row rfl _ _ tb 36 (tv t) (0, 0) _ rfl HT5.out Tryd.underlying36 rfl HS.out.2.2.1) rfl ⟨rfl, ?_⟩
          have := HW.out
          exact below_setRow (by rw [this.1]; exact HS.out.2.2.2.2) (by rw [this.1]; exact this.2.2.2) _
end Go.Proofs.YtgngpanimeigbabDoor
