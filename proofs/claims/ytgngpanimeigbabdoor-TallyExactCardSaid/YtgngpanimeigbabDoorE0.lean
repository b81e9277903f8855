/- Contracts of retrofitref36.Join and the law's 'form'. -/
import Derived.Test.YtgngpanimeigbabDoorT10
namespace Go.Proofs.YtgngpanimeigbabDoor
open Go.RowKit
set_option linter.unusedVariables false
theorem Tryd.size36 : (Tryd.prog.info? 36).map (·.size) = some 22 := by kernel_rfl
theorem rput_at {t : List Int} {ub i : Nat} {x : Int} {w : World} (h : w.heap[ub]? = some (.cells (tv t) 36 (0, 0))) : (w.setCell ⟨ub, i, none⟩ (.int .i64 x)).heap[ub]? = some (.cells (tv (t.set i x)) 36 (0, 0)) := by
  rw [hset _ _ _ _ _ _ _ h, tv_set]
theorem rsize_of {t : List Int} (h : t.length = 22) : (Tryd.prog.info? 36).map (·.size) = some (tv t).size := by rw [show (tv t).size = 22 by simp [tv, h]]; exact Tryd.size36
theorem set_self (t : List Int) (i : Nat) (h : i < t.length) : t.set i (gt t i) = t := by
  apply List.ext_getElem?
  intro j
  rw [List.getElem?_set]
  by_cases hj : i = j
  · subst hj; rw [if_pos rfl, if_pos h, getD_some h]
  · rw [if_neg hj]
set_option maxRecDepth 100000 in
set_option maxHeartbeats 1000000 in
theorem rjoin_any (a b : List Int) (w : World) (ha : a.length = 22) (hb : b.length = 22) :
    Calls Tryd.prog 14 #[.agg (tv a), .agg (tv b)] w fun e w' => e = .returned (.agg (tv (joinF a b))) ∧ Below w.heap.size w w' := by
  have hsa : (tv a).size = 22 := by simp [tv, ha]
  have hsb : (tv b).size = 22 := by simp [tv, hb]
  have oa := tv_one a
  have ob := tv_one b
  have hA0 := keepA (.cells (tv zeros) 36) (keepA (.cells (tv b) 36) (heap_alloc_new w (.cells (tv a) 36)))
  have hB0 := keepA (.cells (tv zeros) 36) (heap_alloc_new (w.alloc (.cells (tv a) 36)) (.cells (tv b) 36))
  have hT0 := heap_alloc_new ((w.alloc (.cells (tv a) 36)).alloc (.cells (tv b) 36)) (.cells (tv zeros) 36)
  have hbel0 : Below w.heap.size w (((w.alloc (.cells (tv a) 36)).alloc (.cells (tv b) 36)).alloc (.cells (tv zeros) 36)) := by go_grown
  simp only [World.size_alloc] at hA0 hB0 hT0
  have HB := Lib.hid (And.intro hA0 (And.intro hB0 (And.intro hT0 hbel0)))
  clear hA0 hB0 hT0 hbel0
  go_enter Tryd.func14, Tryd.ntmps14
  go_wp2_with fail
  rw [zerosV]
  obtain ⟨hA0, hB0, hT0, hbel0⟩ := HB.out
  clear HB
  generalize ((w.alloc (.cells (tv a) 36)).alloc (.cells (tv b) 36)).alloc (.cells (tv zeros) 36) = W at hA0 hB0 hT0 hbel0 ⊢
  generalize hAB : w.heap.size = ab at *
  generalize htb : ab + 1 + 1 = tb at *
  generalize hbb : ab + 1 = bb at *
  have n1 : ab ≠ bb := by omega
  have n2 : bb ≠ ab := by omega
  have n3 : tb ≠ ab := by omega
  have n4 : ab ≤ tb := by omega
  have HW := Lib.hid (And.intro hAB (And.intro n3 n4))
  clear hAB htb hbb n3 n4
  have HI := Lib.hid (And.intro hA0 (And.intro hB0 (And.intro hT0 hbel0)))
  clear hA0 hB0 hT0 hbel0
  go_loopw [5] (fun i wr => ∃ k : Nat, k ≤ 20 ∧ i = .int .i64 k ∧ wr.heap[ab]? = some (.cells (tv (addK a b k)) 36 (0, 0)) ∧ Only ab W wr) (fun i _ => 20 - (intOf i).toNat)
  case atStart => exact ⟨0, by omega, rfl, HI.out.1, Only.refl _ _⟩
  case round =>
    obtain ⟨k, hk, rfl, hA, ho⟩ := hrel
    by_cases hlt : k < 20
    · have c1 := (cell_at hA k).trans (tv_get (getD_some (by rw [addK_len]; omega)))
      have c2 := (cell_at (keepO ho HI.out.2.1 n2) k).trans (tv_get (getD_some (by omega)))
      have f1 := free_at hA k
      have i1 : (0 : Int) ≤ (k : Int) := by omega
      have i2 : (k : Int) < 22 := by omega
      have HH := Lib.hid (And.intro (rput_at (i := k) (x := wrap64 (gt (addK a b k) k + gt b k)) hA) ho)
      clear hA ho
      go_wp2_with fail
      go_region
      go_wp2_with fail
      go_roundw
      case rel => exact ⟨k + 1, by omega, by go_num, HH.out.1, (HH.out.2.trans (Only.at _ _ _ _)).drew⟩
      case measure => simp [intOf]; omega
    · obtain rfl : k = 20 := by omega
      have hB := keepO ho HI.out.2.1 n2
      have hT := keepO ho HI.out.2.2.1 HW.out.2.1
      have hbw : Below ab w wr := HI.out.2.2.2.trans (ho.below (Nat.le_refl _))
      have a20 := (cell_at hA 20).trans (tv_get (getD_some (by rw [addK_len]; omega)))
      have a21 := (cell_at hA 21).trans (tv_get (getD_some (by rw [addK_len]; omega)))
      have b20 := (cell_at hB 20).trans (tv_get (getD_some (by omega)))
      have b21 := (cell_at hB 21).trans (tv_get (getD_some (by omega)))
      have f20 := free_at hA 20
      have f21 := free_at hA 21
      have hsz : (tv (joinF a b)).size = 22 := by simp [tv, joinF_len, ha]
      have hi := rsize_of (t := joinF a b) (by rw [joinF_len, ha])
      have HS := Lib.hid (And.intro hsz (And.intro hi (tv_one (joinF a b))))
      clear hsz hi HI ho
      have hj : ∀ m, m = max (gt (addK a b 20) 20) (gt b 20) → (gt b 21 = 0 → (addK a b 20).set 20 m = joinF a b) ∧ (gt b 21 ≠ 0 → ((addK a b 20).set 20 m).set 21 (gt b 21) = joinF a b) := by
        rintro m rfl
        unfold joinF
        exact ⟨fun h => by rw [if_neg (by simpa using h)]; rfl, fun h => by rw [if_pos h]; rfl⟩
      have HJ := Lib.hid hj
      have HSS := Lib.hid (set_self (addK a b 20) 20 (by rw [addK_len]; omega))
      clear hj
      rcases (by omega : gt (addK a b 20) 20 < gt b 20 ∨ gt b 20 ≤ gt (addK a b 20) 20) with hm | hm <;> by_cases h21 : gt b 21 = 0
      · have e20 : decide (gt (addK a b 20) 20 < gt b 20) = true := by simp; omega
        have e21 : (gt b 21 != 0) = false := by simp [h21]
        have hj := (HJ.out (gt b 20) (by omega)).1 h21
        have hU := rput_at (i := 20) (x := gt b 20) hA
        have ho := Only.at wr ab 20 (.int .i64 (gt b 20))
        rw [hj] at hU
        have hbx := hbw.trans (ho.below (Nat.le_refl _))
        have hTx := keepO ho hT HW.out.2.1
        have HH := Lib.hid (And.intro hU (And.intro hTx hbx))
        have HT5 := Lib.hid (setRow_heap _ tb (tv zeros) (tv (joinF a b)) 36 (0, 0) hTx)
        clear hA hB hT hbw hU ho hTx hbx HJ HSS hj
        go_wp2_with (first | (refine wpList_load_row rfl 36 (.tmp 2) rfl ab rfl 36 (tv (joinF a b)) (0, 0) _ HH.out.1 Tryd.underlying36 rfl HS.out.2.1 ?_) | (refine wpList_store_row rfl 36 (.tmp 4) (.tmp 33) rfl tb (tv (joinF a b)) rfl rfl 36 (tv zeros) HH.out.2.1 HS.out.2.1 (by rw [HS.out.1]; rfl) HS.out.2.2 ?_))
        refine bodyPost_ret (v := .agg (tv (joinF a b))) (results_cell_row rfl _ _ tb 36 (tv (joinF a b)) (0, 0) _ rfl HT5.out Tryd.underlying36 rfl HS.out.2.1) rfl ⟨rfl, ?_⟩
        have := HW.out
        exact below_setRow (by rw [this.1]; exact HH.out.2.2) (by rw [this.1]; exact this.2.2) _
      · have e20 : decide (gt (addK a b 20) 20 < gt b 20) = true := by simp; omega
        have e21 : (gt b 21 != 0) = true := by simp [h21]
        have hj := (HJ.out (gt b 20) (by omega)).2 h21
        have hU := rput_at (i := 21) (x := gt b 21) (rput_at (i := 20) (x := gt b 20) hA)
        have ho := (Only.at wr ab 20 (.int .i64 (gt b 20))).trans (Only.at _ ab 21 (.int .i64 (gt b 21)))
        rw [hj] at hU
        have hbx := hbw.trans (ho.below (Nat.le_refl _))
        have hTx := keepO ho hT HW.out.2.1
        have HH := Lib.hid (And.intro hU (And.intro hTx hbx))
        have HT5 := Lib.hid (setRow_heap _ tb (tv zeros) (tv (joinF a b)) 36 (0, 0) hTx)
        clear hA hB hT hbw hU ho hTx hbx HJ HSS hj
        go_wp2_with (first | (refine wpList_load_row rfl 36 (.tmp 2) rfl ab rfl 36 (tv (joinF a b)) (0, 0) _ HH.out.1 Tryd.underlying36 rfl HS.out.2.1 ?_) | (refine wpList_store_row rfl 36 (.tmp 4) (.tmp 33) rfl tb (tv (joinF a b)) rfl rfl 36 (tv zeros) HH.out.2.1 HS.out.2.1 (by rw [HS.out.1]; rfl) HS.out.2.2 ?_))
        refine bodyPost_ret (v := .agg (tv (joinF a b))) (results_cell_row rfl _ _ tb 36 (tv (joinF a b)) (0, 0) _ rfl HT5.out Tryd.underlying36 rfl HS.out.2.1) rfl ⟨rfl, ?_⟩
        have := HW.out
        exact below_setRow (by rw [this.1]; exact HH.out.2.2) (by rw [this.1]; exact this.2.2) _
      · have e20 : decide (gt (addK a b 20) 20 < gt b 20) = false := by simp; omega
        have e21 : (gt b 21 != 0) = false := by simp [h21]
        have hj := (HJ.out (gt (addK a b 20) 20) (by omega)).1 h21
        rw [HSS.out] at hj
        have hU := hA
        have ho := Only.refl ab wr
        rw [hj] at hU
        have hbx := hbw.trans (ho.below (Nat.le_refl _))
        have hTx := keepO ho hT HW.out.2.1
        have HH := Lib.hid (And.intro hU (And.intro hTx hbx))
        have HT5 := Lib.hid (setRow_heap _ tb (tv zeros) (tv (joinF a b)) 36 (0, 0) hTx)
        clear hA hB hT hbw hU ho hTx hbx HJ HSS hj
        go_wp2_with (first | (refine wpList_load_row rfl 36 (.tmp 2) rfl ab rfl 36 (tv (joinF a b)) (0, 0) _ HH.out.1 Tryd.underlying36 rfl HS.out.2.1 ?_) | (refine wpList_store_row rfl 36 (.tmp 4) (.tmp 33) rfl tb (tv (joinF a b)) rfl rfl 36 (tv zeros) HH.out.2.1 HS.out.2.1 (by rw [HS.out.1]; rfl) HS.out.2.2 ?_))
        refine bodyPost_ret (v := .agg (tv (joinF a b))) (results_cell_row rfl _ _ tb 36 (tv (joinF a b)) (0, 0) _ rfl HT5.out Tryd.underlying36 rfl HS.out.2.1) rfl ⟨rfl, ?_⟩
        have := HW.out
        exact below_setRow (by rw [this.1]; exact HH.out.2.2) (by rw [this.1]; exact this.2.2) _
      · have e20 : decide (gt (addK a b 20) 20 < gt b 20) = false := by simp; omega
        have e21 : (gt b 21 != 0) = true := by simp [h21]
        have hj := (HJ.out (gt (addK a b 20) 20) (by omega)).2 h21
        rw [HSS.out] at hj
        have hU := rput_at (i := 21) (x := gt b 21) (hA)
        have ho := (Only.refl ab wr).trans (Only.at _ ab 21 (.int .i64 (gt b 21)))
        rw [hj] at hU
        have hbx := hbw.trans (ho.below (Nat.le_refl _))
        have hTx := keepO ho hT HW.out.2.1
        have HH := Lib.hid (And.intro hU (And.intro hTx hbx))
        have HT5 := Lib.hid (setRow_heap _ tb (tv zeros) (tv (joinF a b)) 36 (0, 0) hTx)
        clear hA hB hT hbw hU ho hTx hbx HJ HSS hj
        go_wp2_with (first | (refine wpList_load_row rfl 36 (.tmp 2) rfl ab rfl 36 (tv (joinF a b)) (0, 0) _ HH.out.1 Tryd.underlying36 rfl HS.out.2.1 ?_) | (refine wpList_store_row rfl 36 (.tmp 4) (.tmp 33) rfl tb (tv (joinF a b)) rfl rfl 36 (tv zeros) HH.out.2.1 HS.out.2.1 (by rw [HS.out.1]; rfl) HS.out.2.2 ?_))
        refine bodyPost_ret (v := .agg (tv (joinF a b))) (results_cell_row rfl _ _ tb 36 (tv (joinF a b)) (0, 0) _ rfl HT5.out Tryd.underlying36 rfl HS.out.2.1) rfl ⟨rfl, ?_⟩
        have := HW.out
        exact below_setRow (by rw [this.1]; exact HH.out.2.2) (by rw [this.1]; exact this.2.2) _
end Go.Proofs.YtgngpanimeigbabDoor
