/- Contract of the law's 'awake', the walk. -/
import Derived.Test.YtgngpanimeigbabDoorT7
namespace Go.Proofs.YtgngpanimeigbabDoor
open Go.RowKit
set_option linter.unusedVariables false
theorem size_of {t : List Int} (h : t.length = 22) : (Tryd.prog.info? 25).map (·.size) = some (tv t).size := by rw [show (tv t).size = 22 by simp [tv, h]]; exact Tryd.size25
theorem awT_len : awT.length = 22 := ofF_len _
theorem awT_i64 : ∀ x ∈ awT, I64 x := by rw [awT_eq]; intro x hx; simp at hx; unfold I64; omega
def awLit : Array Value := #[.int .i64 1, .int .i64 0, .int .i64 0, .int .i64 0, .int .i64 0, .int .i64 0, .int .i64 0, .int .i64 0, .int .i64 0, .int .i64 0, .int .i64 1, .int .i64 0, .int .i64 1, .int .i64 1, .int .i64 0, .int .i64 0, .int .i64 0, .int .i64 1, .int .i64 0, .int .i64 0, .int .i64 3, .int .i64 2]
theorem awLit_eq : awLit = tv awT := by rw [awT_eq]; rfl
theorem fld_lit (x : Nat → Int) (w : World) : Sem.run Tryd.prog (Instr.field 25 (.agg #[.int .i64 (x 0), .int .i64 (x 1), .int .i64 (x 2), .int .i64 (x 3), .int .i64 (x 4), .int .i64 (x 5), .int .i64 (x 6), .int .i64 (x 7), .int .i64 (x 8), .int .i64 (x 9), .int .i64 (x 10), .int .i64 (x 11), .int .i64 (x 12), .int .i64 (x 13), .int .i64 (x 14), .int .i64 (x 15), .int .i64 (x 16), .int .i64 (x 17), .int .i64 (x 18), .int .i64 (x 19), .int .i64 (x 20), .int .i64 (x 21)]) 1) w = .ok (.int .i64 (x 12)) w := by kernel_rfl
theorem aw_fld (t : List Int) (h : t.length = 22) (w : World) : Sem.run Tryd.prog (Instr.field 25 (.agg (tv t)) 1) w = .ok (.int .i64 (gt t 12)) w := by
  rw [tv_lit t h]; exact fld_lit (gt t) w
def awOps : Array Value := #[.int .i64 10, .int .u64 0, .int .i64 0, .slice none 0 0, .int .u32 0, .int .u32 0, .int .i64 0, .int .u64 0, .int .i64 0, .slice none 0 0, .int .i64 0, .string ⟨#[]⟩, .int .i64 12, .int .u64 0, .int .i64 0, .slice none 0 0, .int .u32 0, .int .u32 0, .int .i64 0, .int .u64 0, .int .i64 0, .slice none 0 0, .int .i64 0, .string ⟨#[]⟩]
def awRecs : Array Value := #[.int .i64 0, .int .u64 0, .slice none 0 0, .slice none 0 0, .int .i64 0, .int .i64 0, .slice none 0 0, .int .u32 0, .int .i64 2, .bool false, .int .i64 3, .int .i64 0, .int .i64 0, .int .i64 1, .int .u64 0, .slice none 0 0, .slice none 0 0, .int .i64 0, .int .i64 0, .slice none 0 0, .int .u32 0, .int .i64 2, .bool false, .int .i64 0, .int .i64 0, .int .i64 0]
theorem awOps_eq : awOps.toList = ([10, 12] : List Int).flatMap opL := rfl
theorem awRecs_eq : awRecs.toList = ([(mkA, none, 0), (mkB, none, 0)] : List (Mk × Option Addr × Nat)).flatMap recL := rfl
set_option maxRecDepth 100000 in
set_option maxHeartbeats 2000000 in
theorem awake_any (w : World) (hT : Tab w) : Calls Tryd.prog 5 #[] w fun e w' => e = .returned (.bool true) ∧ Below w.heap.size w w' := by
  have HT := Lib.hid hT
  clear hT
  have hA := World.ownsRow_lit (base := 0) (e := 48) (size := 12) w awOps 2 (Nat.zero_le _) (by unfold maxLen; omega) rfl
  have hB := World.ownsRow_lit (base := 0) (e := 70) (size := 13) (w.alloc (.cells awOps 48)) awRecs 2 (Nat.zero_le _) (by unfold maxLen; omega) rfl
  rw [awOps_eq] at hA
  rw [awRecs_eq] at hB
  have hops := ops_of_row (ks := [10, 12]) (hA.alloc (.cells awRecs 70)) rfl (by omega)
  have hrecs := recs_of_row (rs := [(mkA, none, 0), (mkB, none, 0)]) hB rfl (by omega) (by intro x hx; simp at hx; rcases hx with rfl | rfl <;> simp [mkA, mkB])
  have hbel : Below w.heap.size w ((w.alloc (.cells awOps 48)).alloc (.cells awRecs 70)) := by go_grown
  rw [show (w.alloc (.cells awOps 48)).heap.size = w.heap.size + 1 from World.size_alloc _ _] at hrecs
  have HA := Lib.hid (And.intro hops (And.intro hrecs hbel))
  clear hA hB hops hrecs hbel
  go_enter Tryd.func5, Tryd.ntmps5
  go_wp2_with fail
  rw [← awOps, ← awRecs]
  obtain ⟨hops, hrecs, hbel⟩ := HA.out
  generalize (w.alloc (.cells awOps 48)).alloc (.cells awRecs 70) = W at hops hrecs hbel ⊢
  refine (of_any [mkA, mkB] _ _ 2 2 2 2 _ hops hrecs rfl).mono ?_
  rintro e w1 ⟨rfl, hb1⟩
  have hbw1 : Below w.heap.size w w1 := hbel.trans (hb1.mono hbel.size)
  have HZ1 := Lib.hid hbw1.size
  clear hops hrecs hbel hb1 HA
  rw [← awT]
  have hT1 := heap_alloc_new w1 (.cells (tv zeros) 25)
  have hT2 := setRow_heap (w1.alloc (.cells (tv zeros) 25)) w1.heap.size (tv zeros) (tv awT) _ _ hT1
  have hs := size_of awT_len
  have hs0 : (tv zeros).size = (tv awT).size := by simp [tv, awT_len, zeros]
  have HS := Lib.hid (And.intro hs (And.intro hs0 (tv_one awT)))
  have hbw2 : Below w.heap.size w ((w1.alloc (.cells (tv zeros) 25)).setRow w1.heap.size (tv awT)) := below_setRow (hbw1.alloc hbw1.size _) hbw1.size _
  have HI := Lib.hid (And.intro hT1 (And.intro hT2 hbw2))
  clear hT1 hT2 hs hs0 hbw2 hbw1
  go_wp2_with (first | (refine wpList_store_row rfl 25 (.tmp 1) (.tmp 17) rfl w1.heap.size (tv awT) rfl rfl 25 (tv zeros) HI.out.1 HS.out.1 HS.out.2.1 HS.out.2.2 ?_))
  refine (of_form _ _ 1 1 0 0 _ (by omega) (by omega) (by omega)).mono ?_
  rintro e w3 ⟨rfl, hb3⟩
  obtain ⟨hT1, hT2, hbw2⟩ := HI.out
  have hT3 := keep hb3 (keepA _ hT2)
  have hbw3 : Below w.heap.size w w3 := (hbw2.alloc hbw2.size _).trans (hb3.mono (by have := hbw2.size; simp at this ⊢; omega))
  have htw : w.heap.size ≤ w1.heap.size := by have := hbw2.size; simp at this; have := lt_some hT1; simp at this; have := HZ1.out; omega
  generalize w1.heap.size = tb at *
  have hZ1 := heap_alloc_new w3 (.cells (tv zeros) 25)
  have hT4 := (setRow_other (w3.alloc (.cells (tv zeros) 25)) w3.heap.size tb (tv zeros) (by have := lt_some hT3; omega)).trans (keepA (.cells (tv zeros) 25) hT3)
  have hbw4 : Below w.heap.size w ((w3.alloc (.cells (tv zeros) 25)).setRow w3.heap.size (tv zeros)) := below_setRow (hbw3.alloc hbw3.size _) hbw3.size _
  have hs0 : (Tryd.prog.info? 25).map (·.size) = some (tv zeros).size := size_of rfl
  have HJ := Lib.hid (And.intro hZ1 (And.intro hT4 (And.intro hbw4 hs0)))
  clear hb3 hT1 hT2 hbw2 hT3 hbw3 HI hZ1 hT4 hbw4 hs0
  go_wp2_with (first | (refine wpList_store_row rfl 25 (.tmp 3) (.tmp 23) rfl w3.heap.size (tv zeros) rfl rfl 25 (tv zeros) HJ.out.1 HJ.out.2.2.2 rfl (tv_one _) ?_) | (refine wpList_load_row rfl 25 (.tmp 1) rfl tb rfl 25 (tv awT) (0, 0) _ HJ.out.2.1 Tryd.underlying25 rfl HS.out.1 ?_))
  refine (lines_any awT _ awT_len awT_i64 (HT.out.below (B := 0) HJ.out.2.2.1)).mono ?_
  rintro e w4 ⟨q, rfl, hq, hb4⟩
  have hT5 := keep hb4 HJ.out.2.1
  have hbw5 : Below w.heap.size w w4 := HJ.out.2.2.1.trans (hb4.mono HJ.out.2.2.1.size)
  have c12 := (cell_at hT5 12).trans (tv_get (x := 1) (by rw [awT_eq]; rfl))
  have c13 := (cell_at hT5 13).trans (tv_get (x := 1) (by rw [awT_eq]; rfl))
  have c17 := (cell_at hT5 17).trans (tv_get (x := 1) (by rw [awT_eq]; rfl))
  have c20 := (cell_at hT5 20).trans (tv_get (x := 3) (by rw [awT_eq]; rfl))
  have c21 := (cell_at hT5 21).trans (tv_get (x := 2) (by rw [awT_eq]; rfl))
  have l0 : w4.cell? ⟨q, 0, none⟩ = some (.string (lineB awT 0)) := cell_at hq 0
  have l3 : w4.cell? ⟨q, 3, none⟩ = some (.string (lineB awT 3)) := cell_at hq 3
  have e0 : (lineB awT 0).toList = [107, 105, 110, 100, 115, 32, 49, 32, 48, 32, 48, 32, 48, 32, 48, 32, 48, 32, 48, 32, 48, 32, 48, 32, 48, 32, 49, 32, 48] := by rw [aw_l0, ByteArray.toList_eq]
  have e3 : (lineB awT 3).toList = [117, 112, 103, 114, 97, 100, 101, 115, 32, 49, 32, 48, 32, 48] := by rw [aw_l3, ByteArray.toList_eq]
  generalize lineB awT 0 = S0 at *
  generalize lineB awT 3 = S3 at *
  have HK := Lib.hid (And.intro hT5 hbw5)
  clear hq hb4 hT5 hbw5 HJ
  go_wp2_with (first | (refine wpList_load_rowG (by rfl) 25 (.tmp 1) rfl tb rfl 25 (tv awT) (0, 0) _ HK.out.1 Tryd.underlying25 rfl HS.out.1 ?_))
  refine (join_any awT awT _ awT_len awT_len).mono ?_
  rintro e w5 ⟨rfl, hb5⟩
  have hfl := aw_fld (joinF awT awT) (by rw [joinF_len, awT_len]) w5
  rw [aw_join] at hfl
  have hbw6 : Below w.heap.size w w5 := HK.out.2.trans (hb5.mono HK.out.2.size)
  clear hb5
  go_wp2_with fail
  go_returns
  exact ⟨rfl, hbw6⟩
end Go.Proofs.YtgngpanimeigbabDoor
