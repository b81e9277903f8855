/- Contract of tally.Join. -/
import Derived.Test.YtgngpanimeigbabDoorT0
namespace Go.Proofs.YtgngpanimeigbabDoor
open Go.RowKit
set_option linter.unusedVariables false

def addK (a b : List Int) : Nat → List Int
  | 0 => a
  | k + 1 => (addK a b k).set k (wrap64 (gt (addK a b k) k + gt b k))
theorem addK_len (a b : List Int) : ∀ k, (addK a b k).length = a.length
  | 0 => rfl
  | k + 1 => by simp [addK, addK_len a b k]
def joinA (a b : List Int) : List Int := (addK a b 20).set 20 (max (gt (addK a b 20) 20) (gt b 20))
def joinF (a b : List Int) : List Int := if gt b 21 ≠ 0 then (joinA a b).set 21 (gt b 21) else joinA a b
theorem joinA_len (a b : List Int) : (joinA a b).length = a.length := by simp [joinA, addK_len]
theorem joinF_len (a b : List Int) : (joinF a b).length = a.length := by unfold joinF; split <;> simp [joinA_len]
def pairsA (ab : Nat) (b : List Int) : Array Value :=
  #[.pointer (some ⟨ab, 12, none⟩), .int .i64 (gt b 12), .pointer (some ⟨ab, 13, none⟩), .int .i64 (gt b 13), .pointer (some ⟨ab, 14, none⟩), .int .i64 (gt b 14), .pointer (some ⟨ab, 15, none⟩), .int .i64 (gt b 15),
    .pointer (some ⟨ab, 16, none⟩), .int .i64 (gt b 16), .pointer (some ⟨ab, 17, none⟩), .int .i64 (gt b 17), .pointer (some ⟨ab, 18, none⟩), .int .i64 (gt b 18), .pointer (some ⟨ab, 19, none⟩), .int .i64 (gt b 19)]
theorem pairsA_get (ab : Nat) (b : List Int) {k : Nat} (h : k < 8) : (pairsA ab b)[k * 2]? = some (.pointer (some ⟨ab, 12 + k, none⟩)) ∧ (pairsA ab b)[k * 2 + 1]? = some (.int .i64 (gt b (12 + k))) := by
  rcases (by omega : k = 0 ∨ k = 1 ∨ k = 2 ∨ k = 3 ∨ k = 4 ∨ k = 5 ∨ k = 6 ∨ k = 7) with rfl | rfl | rfl | rfl | rfl | rfl | rfl | rfl <;> exact ⟨rfl, rfl⟩

set_option maxRecDepth 100000 in
set_option maxHeartbeats 1000000 in
theorem join_any (a b : List Int) (w : World) (ha : a.length = 22) (hb : b.length = 22) :
    Calls Tryd.prog 13 #[.agg (tv a), .agg (tv b)] w fun e w' => e = .returned (.agg (tv (joinF a b))) ∧ Below w.heap.size w w' := by
  have hsa : (tv a).size = 22 := by simp [tv, ha]
  have hsb : (tv b).size = 22 := by simp [tv, hb]
  have oa := tv_one a
  have ob := tv_one b
  have hA0 := keepA (.cells (tv zeros) 25) (keepA (.cells (tv b) 25) (heap_alloc_new w (.cells (tv a) 25)))
  have hB0 := keepA (.cells (tv zeros) 25) (heap_alloc_new (w.alloc (.cells (tv a) 25)) (.cells (tv b) 25))
  have hT0 := heap_alloc_new ((w.alloc (.cells (tv a) 25)).alloc (.cells (tv b) 25)) (.cells (tv zeros) 25)
  have hbel0 : Below w.heap.size w (((w.alloc (.cells (tv a) 25)).alloc (.cells (tv b) 25)).alloc (.cells (tv zeros) 25)) := by go_grown
  simp only [World.size_alloc] at hA0 hB0 hT0
  have HB := Lib.hid (And.intro hA0 (And.intro hB0 (And.intro hT0 hbel0)))
  clear hA0 hB0 hT0 hbel0
  go_enter Tryd.func13, Tryd.ntmps13
  go_wp2_with fail
  rw [zerosV]
  obtain ⟨hA0, hB0, hT0, hbel0⟩ := HB.out
  clear HB
  generalize ((w.alloc (.cells (tv a) 25)).alloc (.cells (tv b) 25)).alloc (.cells (tv zeros) 25) = W at hA0 hB0 hT0 hbel0 ⊢
  generalize hAB : w.heap.size = ab at *
  generalize htb : ab + 1 + 1 = tb at *
  generalize hbb : ab + 1 = bb at *
  have n1 : ab ≠ bb := by omega
  have n2 : bb ≠ ab := by omega
  have n3 : tb ≠ ab := by omega
  have n4 : ab ≤ tb := by omega
  have HW := Lib.hid (And.intro hAB (And.intro n3 n4))
  clear hAB htb hbb n3 n4
  have HI := Lib.hid (And.intro hA0 (And.intro hB0 (And.intro hT0 hbel0)))
  clear hA0 hB0 hT0 hbel0
  go_loopw [8] (fun i wr => ∃ k : Nat, k ≤ 12 ∧ i = .int .i64 k ∧ wr.heap[ab]? = some (.cells (tv (addK a b k)) 25 (0, 0)) ∧ Only ab W wr) (fun i _ => 12 - (intOf i).toNat)
  case atStart => exact ⟨0, by omega, rfl, HI.out.1, Only.refl _ _⟩
  case round =>
    obtain ⟨k, hk, rfl, hA, ho⟩ := hrel
    by_cases hlt : k < 12
    · have c1 := (cell_at hA k).trans (tv_get (getD_some (by rw [addK_len]; omega)))
      have c2 := (cell_at (keepO ho HI.out.2.1 n2) k).trans (tv_get (getD_some (by omega)))
      have f1 := free_at hA k
      have i1 : (0 : Int) ≤ (k : Int) := by omega
      have i2 : (k : Int) < 12 := by omega
      have HH := Lib.hid (And.intro (put_at (i := k) (x := wrap64 (gt (addK a b k) k + gt b k)) hA) ho)
      clear hA ho
      go_wp2_with fail
      go_region
      go_wp2_with fail
      go_roundw
      case rel => exact ⟨k + 1, by omega, by go_num, HH.out.1, (HH.out.2.trans (Only.at _ _ _ _)).drew⟩
      case measure => simp [intOf]; omega
    · obtain rfl : k = 12 := by omega
      have cb : ∀ i, i < 22 → wr.cell? ⟨bb, i, none⟩ = some (.int .i64 (gt b i)) := fun i hi => (cell_at (keepO ho HI.out.2.1 n2) i).trans (tv_get (getD_some (by omega)))
      have b12 := cb 12 (by omega)
      have b13 := cb 13 (by omega)
      have b14 := cb 14 (by omega)
      have b15 := cb 15 (by omega)
      have b16 := cb 16 (by omega)
      have b17 := cb 17 (by omega)
      have b18 := cb 18 (by omega)
      have b19 := cb 19 (by omega)
      have hB2 := keepO ho HI.out.2.1 n2
      have hT2 := keepO ho HI.out.2.2.1 HW.out.2.1
      have hbel2 : Below ab w wr := HI.out.2.2.2.trans (ho.below (Nat.le_refl _))
      have HH := Lib.hid (And.intro hA (And.intro hB2 (And.intro hT2 hbel2)))
      clear cb hA ho HI hB2 hT2 hbel2
      go_wp2_with fail
      have hP := heap_alloc_new wr (.cells (pairsA ab b) 81)
      have hA3 := keepA (.cells (pairsA ab b) 81) HH.out.1
      have hB3 := keepA (.cells (pairsA ab b) 81) HH.out.2.1
      have hT3 := keepA (.cells (pairsA ab b) 81) HH.out.2.2.1
      have hbel3 : Below ab w (wr.alloc (.cells (pairsA ab b) 81)) := HH.out.2.2.2.alloc (by have := lt_some hA3; simp at this; have := lt_some HH.out.1; omega) _
      have hz := lt_some HH.out.1
      have hz2 := lt_some HH.out.2.2.1
      have hz3 := lt_some HH.out.2.1
      rw [← pairsA]
      have hzab := lt_some HH.out.1
      have hztb := lt_some HH.out.2.2.1
      have hzbb := lt_some HH.out.2.1
      clear hz hz2 hz3 b12 b13 b14 b15 b16 b17 b18 b19 HH
      generalize wr.alloc (.cells (pairsA ab b) 81) = W2 at *
      generalize wr.heap.size = pb at *
      have n5 : ab ≠ pb := by omega
      have n6 : pb ≠ ab := by omega
      have HI2 := Lib.hid (And.intro hA3 (And.intro hB3 (And.intro hT3 (And.intro hP hbel3))))
      clear hA3 hB3 hT3 hP hbel3 hzab hztb hzbb
      go_loopw [57] (fun i wr => ∃ k : Nat, k ≤ 8 ∧ i = .int .i64 k ∧ wr.heap[ab]? = some (.cells (tv (addK a b (12 + k))) 25 (0, 0)) ∧ wr.heap[bb]? = some (.cells (tv b) 25 (0, 0)) ∧ wr.heap[tb]? = some (.cells (tv zeros) 25 (0, 0)) ∧
        wr.heap[pb]? = some (.cells (pairsA ab b) 81 (0, 0)) ∧ Below ab w wr) (fun i _ => 8 - (intOf i).toNat)
      case atStart => exact ⟨0, by omega, rfl, HI2.out.1, HI2.out.2.1, HI2.out.2.2.1, HI2.out.2.2.2.1, HI2.out.2.2.2.2⟩
      case round =>
        obtain ⟨k, hk, rfl, hA, hB, hT, hP, hbw⟩ := hrel
        by_cases hlt : k < 8
        · have c1 := (cell_at hP (k * 2)).trans (pairsA_get ab b hlt).1
          have c2 := (cell_at hP (k * 2 + 1)).trans (pairsA_get ab b hlt).2
          have i1 : (0 : Int) ≤ (k : Int) := by omega
          have i2 : (k : Int) < 8 := by omega
          have hz := lt_some hA
          go_wp2_with fail
          have hX := heap_alloc_new wr (.cells #[.pointer (some ⟨ab, 12 + k, none⟩), .int .i64 (gt b (12 + k))] 81)
          have hA' := keepA (.cells #[.pointer (some ⟨ab, 12 + k, none⟩), .int .i64 (gt b (12 + k))] 81) hA
          have hB' := keepA (.cells #[.pointer (some ⟨ab, 12 + k, none⟩), .int .i64 (gt b (12 + k))] 81) hB
          have hT' := keepA (.cells #[.pointer (some ⟨ab, 12 + k, none⟩), .int .i64 (gt b (12 + k))] 81) hT
          have hP' := keepA (.cells #[.pointer (some ⟨ab, 12 + k, none⟩), .int .i64 (gt b (12 + k))] 81) hP
          have hbw' := hbw.alloc (by omega) (.cells #[.pointer (some ⟨ab, 12 + k, none⟩), .int .i64 (gt b (12 + k))] 81)
          have n7 : wr.heap.size ≠ ab := by omega
          clear c1 c2 hA hB hT hP hbw
          generalize wr.alloc (.cells #[.pointer (some ⟨ab, 12 + k, none⟩), .int .i64 (gt b (12 + k))] 81) = W3 at *
          generalize wr.heap.size = xb at *
          have x0 := cell_at hX 0
          have x1 := cell_at hX 1
          have c1 := (cell_at hA' (12 + k)).trans (tv_get (getD_some (by rw [addK_len]; omega)))
          have f1 := free_at hA' (12 + k)
          simp at x0 x1
          have ho := Only.at W3 ab (12 + k) (.int .i64 (wrap64 (gt (addK a b (12 + k)) (12 + k) + gt b (12 + k))))
          have HH := Lib.hid (And.intro (put_at (i := 12 + k) (x := wrap64 (gt (addK a b (12 + k)) (12 + k) + gt b (12 + k))) hA') (And.intro (keepO ho hB' n2) (And.intro (keepO ho hT' HW.out.2.1) (And.intro (keepO ho hP' n6) (hbw'.trans (ho.below (Nat.le_refl _)))))))
          clear hX hA' hB' hT' hP' hbw' ho hz
          go_region
          go_wp2_with fail
          go_roundw
          case rel => exact ⟨k + 1, by omega, by go_num, HH.out.1, HH.out.2.1, HH.out.2.2.1, HH.out.2.2.2.1, HH.out.2.2.2.2.drew⟩
          case measure => simp [intOf]; omega
        · obtain rfl : k = 8 := by omega
          have e20 : addK a b (12 + 8) = addK a b 20 := rfl
          rw [e20] at hA
          clear e20 HI2
          have a20 := (cell_at hA 20).trans (tv_get (getD_some (by rw [addK_len]; omega)))
          have a21 := (cell_at hA 21).trans (tv_get (getD_some (by rw [addK_len]; omega)))
          have b20 := (cell_at hB 20).trans (tv_get (getD_some (by omega)))
          have b21 := (cell_at hB 21).trans (tv_get (getD_some (by omega)))
          have f20 := free_at hA 20
          have f21 := free_at hA 21
          have hsz : (tv (joinF a b)).size = 22 := by simp [tv, joinF_len, ha]
          have hi : (Tryd.prog.info? 25).map (·.size) = some (tv (joinF a b)).size := by rw [hsz]; exact Tryd.size25
          have HS := Lib.hid (And.intro hsz (And.intro hi (tv_one (joinF a b))))
          clear hsz hi
          have hj : ∀ m, m = max (gt (addK a b 20) 20) (gt b 20) → (gt b 21 = 0 → (addK a b 20).set 20 m = joinF a b) ∧ (gt b 21 ≠ 0 → ((addK a b 20).set 20 m).set 21 (gt b 21) = joinF a b) := by
            rintro m rfl
            unfold joinF
            exact ⟨fun h => by rw [if_neg (by simpa using h)]; rfl, fun h => by rw [if_pos h]; rfl⟩
          have HJ := Lib.hid hj
          clear hj
          rcases (by omega : gt (addK a b 20) 20 < gt b 20 ∨ gt b 20 ≤ gt (addK a b 20) 20) with hm | hm <;> by_cases h21 : gt b 21 = 0
          · have e21 : (gt b 21 != 0) = false := by simp [h21]
            have hU := put_at (i := 20) (x := gt b 20) hA
            have ho := Only.at wr ab 20 (.int .i64 (gt b 20))
            rw [(HJ.out (gt b 20) (by omega)).1 h21] at hU
            have hbx := hbw.trans (ho.below (Nat.le_refl _))
            have hTx := keepO ho hT HW.out.2.1
            have HH := Lib.hid (And.intro hU (And.intro hTx hbx))
            have HT5 := Lib.hid (setRow_heap _ tb (tv zeros) (tv (joinF a b)) 25 (0, 0) hTx)
            clear hA hB hT hP hbw hU ho hTx hbx HJ
            go_wp2_with (first | (refine wpList_load_row rfl 25 (.tmp 2) rfl ab rfl 25 (tv (joinF a b)) (0, 0) _ HH.out.1 Tryd.underlying25 rfl HS.out.2.1 ?_) | (refine wpList_store_row rfl 25 (.tmp 4) (.tmp 82) rfl tb (tv (joinF a b)) rfl rfl 25 (tv zeros) HH.out.2.1 HS.out.2.1 (by rw [HS.out.1]; rfl) HS.out.2.2 ?_))
            refine bodyPost_ret (v := .agg (tv (joinF a b))) (results_cell_row rfl _ _ tb 25 (tv (joinF a b)) (0, 0) _ rfl HT5.out Tryd.underlying25 rfl HS.out.2.1) rfl ⟨rfl, ?_⟩
            have := HW.out
            exact below_setRow (by rw [this.1]; exact HH.out.2.2) (by rw [this.1]; exact this.2.2) _
          · have e21 : (gt b 21 != 0) = true := by simp [h21]
            have hU := put_at (i := 21) (x := gt b 21) (put_at (i := 20) (x := gt b 20) hA)
            have ho := (Only.at wr ab 20 (.int .i64 (gt b 20))).trans (Only.at _ ab 21 (.int .i64 (gt b 21)))
            rw [(HJ.out (gt b 20) (by omega)).2 h21] at hU
            have hbx := hbw.trans (ho.below (Nat.le_refl _))
            have hTx := keepO ho hT HW.out.2.1
            have HH := Lib.hid (And.intro hU (And.intro hTx hbx))
            have HT5 := Lib.hid (setRow_heap _ tb (tv zeros) (tv (joinF a b)) 25 (0, 0) hTx)
            clear hA hB hT hP hbw hU ho hTx hbx HJ
            go_wp2_with (first | (refine wpList_load_row rfl 25 (.tmp 2) rfl ab rfl 25 (tv (joinF a b)) (0, 0) _ HH.out.1 Tryd.underlying25 rfl HS.out.2.1 ?_) | (refine wpList_store_row rfl 25 (.tmp 4) (.tmp 82) rfl tb (tv (joinF a b)) rfl rfl 25 (tv zeros) HH.out.2.1 HS.out.2.1 (by rw [HS.out.1]; rfl) HS.out.2.2 ?_))
            refine bodyPost_ret (v := .agg (tv (joinF a b))) (results_cell_row rfl _ _ tb 25 (tv (joinF a b)) (0, 0) _ rfl HT5.out Tryd.underlying25 rfl HS.out.2.1) rfl ⟨rfl, ?_⟩
            have := HW.out
            exact below_setRow (by rw [this.1]; exact HH.out.2.2) (by rw [this.1]; exact this.2.2) _
          · have e21 : (gt b 21 != 0) = false := by simp [h21]
            have hU := put_at (i := 20) (x := gt (addK a b 20) 20) hA
            have ho := Only.at wr ab 20 (.int .i64 (gt (addK a b 20) 20))
            rw [(HJ.out (gt (addK a b 20) 20) (by omega)).1 h21] at hU
            have hbx := hbw.trans (ho.below (Nat.le_refl _))
            have hTx := keepO ho hT HW.out.2.1
            have HH := Lib.hid (And.intro hU (And.intro hTx hbx))
            have HT5 := Lib.hid (setRow_heap _ tb (tv zeros) (tv (joinF a b)) 25 (0, 0) hTx)
            clear hA hB hT hP hbw hU ho hTx hbx HJ
            go_wp2_with (first | (refine wpList_load_row rfl 25 (.tmp 2) rfl ab rfl 25 (tv (joinF a b)) (0, 0) _ HH.out.1 Tryd.underlying25 rfl HS.out.2.1 ?_) | (refine wpList_store_row rfl 25 (.tmp 4) (.tmp 82) rfl tb (tv (joinF a b)) rfl rfl 25 (tv zeros) HH.out.2.1 HS.out.2.1 (by rw [HS.out.1]; rfl) HS.out.2.2 ?_))
            refine bodyPost_ret (v := .agg (tv (joinF a b))) (results_cell_row rfl _ _ tb 25 (tv (joinF a b)) (0, 0) _ rfl HT5.out Tryd.underlying25 rfl HS.out.2.1) rfl ⟨rfl, ?_⟩
            have := HW.out
            exact below_setRow (by rw [this.1]; exact HH.out.2.2) (by rw [this.1]; exact this.2.2) _
          · have e21 : (gt b 21 != 0) = true := by simp [h21]
            have hU := put_at (i := 21) (x := gt b 21) (put_at (i := 20) (x := gt (addK a b 20) 20) hA)
            have ho := (Only.at wr ab 20 (.int .i64 (gt (addK a b 20) 20))).trans (Only.at _ ab 21 (.int .i64 (gt b 21)))
            rw [(HJ.out (gt (addK a b 20) 20) (by omega)).2 h21] at hU
            have hbx := hbw.trans (ho.below (Nat.le_refl _))
            have hTx := keepO ho hT HW.out.2.1
            have HH := Lib.hid (And.intro hU (And.intro hTx hbx))
            have HT5 := Lib.hid (setRow_heap _ tb (tv zeros) (tv (joinF a b)) 25 (0, 0) hTx)
            clear hA hB hT hP hbw hU ho hTx hbx HJ
            go_wp2_with (first | (refine wpList_load_row rfl 25 (.tmp 2) rfl ab rfl 25 (tv (joinF a b)) (0, 0) _ HH.out.1 Tryd.underlying25 rfl HS.out.2.1 ?_) | (refine wpList_store_row rfl 25 (.tmp 4) (.tmp 82) rfl tb (tv (joinF a b)) rfl rfl 25 (tv zeros) HH.out.2.1 HS.out.2.1 (by rw [HS.out.1]; rfl) HS.out.2.2 ?_))
            refine bodyPost_ret (v := .agg (tv (joinF a b))) (results_cell_row rfl _ _ tb 25 (tv (joinF a b)) (0, 0) _ rfl HT5.out Tryd.underlying25 rfl HS.out.2.1) rfl ⟨rfl, ?_⟩
            have := HW.out
            exact below_setRow (by rw [this.1]; exact HH.out.2.2) (by rw [this.1]; exact this.2.2) _
end Go.Proofs.YtgngpanimeigbabDoor
