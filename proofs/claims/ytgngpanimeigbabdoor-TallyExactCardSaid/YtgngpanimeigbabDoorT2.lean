/- Contract of tally.one. -/
import Derived.Test.YtgngpanimeigbabDoorT0
namespace Go.Proofs.YtgngpanimeigbabDoor
open Go.RowKit
set_option linter.unusedVariables false
set_option maxRecDepth 100000 in
set_option maxHeartbeats 4000000 in
theorem one_any (k ent comp : Int) (pa : Option Addr) (pn pc : Nat) (all no ck ce cc : Int) (qa : Option Addr) (qn qc : Nat) (units : Int) (bytes : ByteArray)
    (code xent : Int) (va : Option Addr) (vn vc : Nat) (ra : Option Addr) (rn rc : Nat) (done failed : Int) (sa : Option Addr) (sn sc : Nat) (sum ver : Int) (upg : Bool) (rows tabs jour : Int) (w : World) (hsn : sn ≤ maxLen) :
    Calls Tryd.prog 15 #[.agg (opArr k ent comp pa pn pc all no ck ce cc qa qn qc units bytes), .agg (recArr code xent va vn vc ra rn rc done failed sa sn sc sum ver upg rows tabs jour)] w
      fun e w' => e = .returned (.agg (tv (oneF k code done failed sn rows ver))) ∧ Below w.heap.size w w' := by
  unfold opArr recArr
  have hbel0 : Below w.heap.size w ((((w.alloc (.cells #[.int .i64 k, .int .u64 ent, .int .i64 comp, .slice pa pn pc, .int .u32 all, .int .u32 no, .int .i64 ck, .int .u64 ce, .int .i64 cc, .slice qa qn qc, .int .i64 units, .string bytes] 48)).alloc
      (.cells #[.int .i64 code, .int .u64 xent, .slice va vn vc, .slice ra rn rc, .int .i64 done, .int .i64 failed, .slice sa sn sc, .int .u32 sum, .int .i64 ver, .bool upg, .int .i64 rows, .int .i64 tabs, .int .i64 jour] 70)).alloc (.cells (tv zeros) 25)).alloc (.cells (tv zeros) 25)) := by go_grown
  have hO := keepA (.cells (tv zeros) 25) (keepA (.cells (tv zeros) 25) (keepA (.cells #[.int .i64 code, .int .u64 xent, .slice va vn vc, .slice ra rn rc, .int .i64 done, .int .i64 failed, .slice sa sn sc, .int .u32 sum, .int .i64 ver, .bool upg, .int .i64 rows, .int .i64 tabs, .int .i64 jour] 70) (heap_alloc_new w (.cells #[.int .i64 k, .int .u64 ent, .int .i64 comp, .slice pa pn pc, .int .u32 all, .int .u32 no, .int .i64 ck, .int .u64 ce, .int .i64 cc, .slice qa qn qc, .int .i64 units, .string bytes] 48))))
  have hR := keepA (.cells (tv zeros) 25) (keepA (.cells (tv zeros) 25) (heap_alloc_new (w.alloc (.cells #[.int .i64 k, .int .u64 ent, .int .i64 comp, .slice pa pn pc, .int .u32 all, .int .u32 no, .int .i64 ck, .int .u64 ce, .int .i64 cc, .slice qa qn qc, .int .i64 units, .string bytes] 48)) (.cells #[.int .i64 code, .int .u64 xent, .slice va vn vc, .slice ra rn rc, .int .i64 done, .int .i64 failed, .slice sa sn sc, .int .u32 sum, .int .i64 ver, .bool upg, .int .i64 rows, .int .i64 tabs, .int .i64 jour] 70)))
  have hT := keepA (.cells (tv zeros) 25) (heap_alloc_new ((w.alloc (.cells #[.int .i64 k, .int .u64 ent, .int .i64 comp, .slice pa pn pc, .int .u32 all, .int .u32 no, .int .i64 ck, .int .u64 ce, .int .i64 cc, .slice qa qn qc, .int .i64 units, .string bytes] 48)).alloc (.cells #[.int .i64 code, .int .u64 xent, .slice va vn vc, .slice ra rn rc, .int .i64 done, .int .i64 failed, .slice sa sn sc, .int .u32 sum, .int .i64 ver, .bool upg, .int .i64 rows, .int .i64 tabs, .int .i64 jour] 70)) (.cells (tv zeros) 25))
  have hU := heap_alloc_new (((w.alloc (.cells #[.int .i64 k, .int .u64 ent, .int .i64 comp, .slice pa pn pc, .int .u32 all, .int .u32 no, .int .i64 ck, .int .u64 ce, .int .i64 cc, .slice qa qn qc, .int .i64 units, .string bytes] 48)).alloc (.cells #[.int .i64 code, .int .u64 xent, .slice va vn vc, .slice ra rn rc, .int .i64 done, .int .i64 failed, .slice sa sn sc, .int .u32 sum, .int .i64 ver, .bool upg, .int .i64 rows, .int .i64 tabs, .int .i64 jour] 70)).alloc (.cells (tv zeros) 25)) (.cells (tv zeros) 25)
  rw [World.size_alloc] at hR hT hU
  rw [World.size_alloc] at hT hU
  rw [World.size_alloc] at hU
  have HB := Lib.hid (And.intro hbel0 (And.intro hO (And.intro hR (And.intro hT hU))))
  clear hbel0 hO hR hT hU
  go_enter Tryd.func15, Tryd.ntmps15
  go_wp2_with fail
  refine (kind_any k ent comp pa pn pc all no ck ce cc qa qn qc units bytes _).mono ?_
  rintro e w1 ⟨rfl, hb1⟩
  obtain ⟨hbel0, hO, hR, hT, hU⟩ := HB.out
  have hO1 := keep hb1 hO
  have hR1 := keep hb1 hR
  have hT1 := keep hb1 hT
  have hU1 := keep hb1 hU
  have hbel1 : Below w.heap.size w w1 := hbel0.trans (hb1.mono hbel0.size)
  clear hb1 hO hR hT hU hbel0 HB
  have hkb := kindF_bd k
  have hkb1 := hkb.1
  have hkb2 : kindF k < 12 := by omega
  have k0 := (cell_at hU1 (kindF k).toNat).trans (tv_get (getD_some (t := zeros) (by simp [zeros]; omega)))
  have k1 := free_at hU1 (kindF k).toNat
  have r0 := cell_at hR1 0
  have o0 := cell_at hO1 0
  have x12 := (cell_at hU1 12).trans (tv_get (getD_some (t := zeros) (by simp [zeros])))
  have x13 := (cell_at hU1 13).trans (tv_get (getD_some (t := zeros) (by simp [zeros])))
  have y12 := free_at hU1 12
  have y13 := free_at hU1 13
  simp at r0 o0
  have hs1 := put_at (i := (kindF k).toNat) (x := 1) hU1
  have HH := Lib.hid (And.intro (And.intro hO1 (And.intro hR1 hT1)) (And.intro hs1 hbel1))
  clear hO1 hR1 hT1 hU1 hs1 hbel1 hkb
  rcases (by omega : code = 0 ∨ code ≠ 0) with hc | hc
  case' inl =>
    have e1 : (code == 0) = true := by simp [hc]
    have HC := Lib.hid hc
    clear hc
    go_wp2_with fail
    refine (upgrade_any ((zeros.set (kindF k).toNat 1).set 12 1) _ k true _ (put_at HH.out.2.1) (by simp [zeros])).mono ?_
    rintro e w2 ⟨rfl, hU2, ho2⟩
    have hA : upF ((zeros.set (kindF k).toNat 1).set 12 1) k true = oneA k code := by unfold oneA; rw [HC.out]; simp
  case' inr =>
    have e1 : (code == 0) = false := by simp [hc]
    have HC := Lib.hid hc
    clear hc
    go_wp2_with fail
    refine (upgrade_any ((zeros.set (kindF k).toNat 1).set 13 1) _ k false _ (put_at HH.out.2.1) (by simp [zeros])).mono ?_
    rintro e w2 ⟨rfl, hU2, ho2⟩
    have hA : upF ((zeros.set (kindF k).toNat 1).set 13 1) k false = oneA k code := by unfold oneA; rw [e1, if_neg HC.out]
  all_goals
    rw [hA] at hU2
    have ho := ((Only.at w1 (w.heap.size + 1 + 1 + 1) (kindF k).toNat _).trans (Only.at _ _ _ _)).trans ho2
    have hO2 := keepO ho HH.out.1.1 (by omega)
    have hR2 := keepO ho HH.out.1.2.1 (by omega)
    have hT2 := keepO ho HH.out.1.2.2 (by omega)
    have hbel2 : Below w.heap.size w w2 := HH.out.2.2.trans (ho.below (by omega))
    clear ho ho2 HH hA k0 k1 r0 o0 x12 x13 y12 y13 hkb1 hkb2
    have o0 := cell_at hO2 0
    have r4 := cell_at hR2 4
    have r5 := cell_at hR2 5
    have r6 := cell_at hR2 6
    have r8 := cell_at hR2 8
    have r10 := cell_at hR2 10
    simp at o0 r4 r5 r6 r8 r10
    have hz2 := lt_some hU2
    generalize hub : w.heap.size + 1 + 1 + 1 = ub at *
    generalize htb : w.heap.size + 1 + 1 = tb at *
    generalize hrb : w.heap.size + 1 = rb at *
    have n1 : ub ≠ rb := by omega
    have n2 : rb ≠ ub := by omega
    have n3 : tb ≠ ub := by omega
    have n4 : w.heap.size ≤ ub := by omega
    have n5 : w.heap.size ≤ tb := by omega
    have HNB := Lib.hid (And.intro n3 (And.intro n4 n5))
    clear hub htb hrb n3 n4 n5
    have HO2 := Lib.hid hO2
    have HR2 := Lib.hid hR2
    have HT2 := Lib.hid hT2
    have HU2 := Lib.hid hU2
    have hzT := lt_some hT2
    have hzU := lt_some hU2
    clear hO2 hR2 hT2 hU2
    by_cases h9 : k = 9
    · have e9 : (k == 9) = true := by simp [h9]
      have hB : (((oneA k code).set 14 done).set 15 failed).set 16 sn = oneB k code done failed sn := by unfold oneB; rw [if_pos h9]
      have HOB := Lib.hid hB
      clear h9 hB
      go_wp2_with fail
      have hP := heap_alloc_new w2 (.cells #[.int .i64 done, .int .i64 failed, .slice sa sn sc] 66)
      have hR3 := keepA (.cells #[.int .i64 done, .int .i64 failed, .slice sa sn sc] 66) HR2.out
      have hT3 := keepA (.cells #[.int .i64 done, .int .i64 failed, .slice sa sn sc] 66) HT2.out
      have hU3 := keepA (.cells #[.int .i64 done, .int .i64 failed, .slice sa sn sc] 66) HU2.out
      have hbel3 := hbel2.alloc hbel2.size (.cells #[.int .i64 done, .int .i64 failed, .slice sa sn sc] 66)
      generalize w2.alloc (.cells #[.int .i64 done, .int .i64 failed, .slice sa sn sc] 66) = W at hP hR3 hT3 hU3 hbel3 ⊢
      clear r4 r5 r6 r8 r10 o0 HO2 HR2 HT2 HU2
      have p0 := cell_at hP 0
      have p1 := cell_at hP 1
      have p2 := cell_at hP 2
      have r8 := cell_at hR3 8
      have r10 := cell_at hR3 10
      have x14 := (cell_at hU3 14).trans (tv_get (getD_some (by rw [oneA_len]; omega)))
      have x15 := (cell_at hU3 15).trans (tv_get (getD_some (by rw [oneA_len]; omega)))
      have x16 := (cell_at hU3 16).trans (tv_get (getD_some (by rw [oneA_len]; omega)))
      have y14 := free_at hU3 14
      have y15 := free_at hU3 15
      have y16 := free_at hU3 16
      simp at p0 p1 p2 r8 r10
      have HH := Lib.hid (And.intro hR3 (And.intro hT3 (And.intro hU3 hbel3)))
      clear hP hR3 hT3 hU3 hbel3 hbel2
      have n6 : ub ≠ w2.heap.size := by omega
      have n7 : w2.heap.size ≠ ub := by omega
      go_cut [] (fun wx => wx.heap[ub]? = some (.cells (tv (oneB k code done failed sn)) 25 (0, 0)) ∧ Only (ub) W wx)
      case first =>
        go_region_held3 (fun w' => w'.cell? ⟨w2.heap.size, 0, none⟩ = some (.int .i64 done) ∧ w'.cell? ⟨w2.heap.size, 1, none⟩ = some (.int .i64 failed) ∧ w'.cell? ⟨w2.heap.size, 2, none⟩ = some (.slice sa sn sc)) (go_keep) (fail)
        all_goals
          go_wp2_with fail
          go_meet
          refine ⟨(put_at (put_at (put_at HH.out.2.2.1))).trans ?_, (((Only.at W _ _ _).trans (Only.at _ _ _ _)).trans (Only.at _ _ _ _)).drew⟩
          have S3 := sets3 (oneA k code) done failed sn
          first
            | rw [HOB.out]
            | rw [S3.1, HOB.out]
            | rw [S3.2.1, HOB.out]
            | rw [S3.2.2.1, HOB.out]
            | rw [S3.2.2.2.1, HOB.out]
            | rw [S3.2.2.2.2, HOB.out]
      case rest =>
        obtain ⟨hUx, ho4⟩ := hcut
        have hRx := keepO ho4 HH.out.1 n2
        have hTx := keepO ho4 HH.out.2.1 HNB.out.1
        have hbx : Below w.heap.size w wc := HH.out.2.2.2.trans (ho4.below HNB.out.2.1)
        clear ho4 r8 r10 p0 p1 p2 x14 x15 x16 y14 y15 y16 HH n6 n7 hzT hzU HOB
        go_wp2_with fail
        have r8 := cell_at hRx 8
        have r10 := cell_at hRx 10
        have x20 := (cell_at hUx 20).trans (tv_get (getD_some (by rw [oneB_len]; omega)))
        have x21 := (cell_at hUx 21).trans (tv_get (getD_some (by rw [oneB_len]; omega)))
        have y20 := free_at hUx 20
        have y21 := free_at hUx 21
        simp at r8 r10
        have HH := Lib.hid (And.intro hUx (And.intro hTx hbx))
        clear hRx hUx hTx hbx
        go_cut [] (fun wx => wx.heap[ub]? = some (.cells (tv (oneF k code done failed sn rows ver)) 25 (0, 0)) ∧ Only (ub) wc wx)
        case first =>
          go_region_held3 (fun w' => w'.cell? ⟨rb, 8, none⟩ = some (.int .i64 ver) ∧ w'.cell? ⟨rb, 10, none⟩ = some (.int .i64 rows)) (go_keep) (fail)
          all_goals go_wp2_with fail
          all_goals
            go_meet
            refine ⟨(put_at (put_at HH.out.1)).trans ?_, ((Only.at wc _ _ _).trans (Only.at _ _ _ _)).drew⟩
            have S2a := sets2 (oneB k code done failed sn) rows ver
            have S2b := sets2 (oneB k code done failed sn) 0 ver
            have hm : (0 < rows ∧ max 0 rows = rows) ∨ (rows ≤ 0 ∧ max 0 rows = 0) := by omega
            rcases hm with ⟨hp, hm⟩ | ⟨hp, hm⟩ <;> first | (exfalso; omega) | (unfold oneF; rw [hm]) | (unfold oneF; rw [hm, S2a]) | (unfold oneF; rw [hm, S2b])
        case rest =>
          rename_i wz
          obtain ⟨hUz, hoz⟩ := hcut
          have hTz := keepO hoz HH.out.2.1 HNB.out.1
          have hbz : Below w.heap.size w wc := HH.out.2.2.trans (hoz.below HNB.out.2.1)
          have hsz : (tv (oneF k code done failed sn rows ver)).size = 22 := by simp [tv, oneF_len]
          have hi : (Tryd.prog.info? 25).map (·.size) = some (tv (oneF k code done failed sn rows ver)).size := by rw [hsz]; exact Tryd.size25
          have h1 := tv_one (oneF k code done failed sn rows ver)
          have hT5 := setRow_heap wc (tb) (tv zeros) (tv (oneF k code done failed sn rows ver)) 25 (0, 0) hTz
          have HT5 := Lib.hid hT5
          have HZ := Lib.hid (And.intro hUz (And.intro hTz (And.intro hsz (And.intro hi h1))))
          clear hUz hTz hsz hi h1 hT5 hoz HH r8 r10 x20 x21 y20 y21
          go_wp2_with (first | (refine wpList_load_row rfl 25 (.tmp 5) rfl (ub) rfl 25 (tv (oneF k code done failed sn rows ver)) (0, 0) _ HZ.out.1 Tryd.underlying25 rfl HZ.out.2.2.2.1 ?_) | (refine wpList_store_row rfl 25 (.tmp 4) (.tmp 48) rfl (tb) (tv (oneF k code done failed sn rows ver)) rfl rfl 25 (tv zeros) HZ.out.2.1 HZ.out.2.2.2.1 (by rw [HZ.out.2.2.1]; rfl) HZ.out.2.2.2.2 ?_))
          refine bodyPost_ret (v := .agg (tv (oneF k code done failed sn rows ver))) (results_cell_row rfl _ _ tb 25 (tv (oneF k code done failed sn rows ver)) (0, 0) _ rfl HT5.out Tryd.underlying25 rfl HZ.out.2.2.2.1) rfl ⟨rfl, ?_⟩
          exact below_setRow hbz HNB.out.2.2 _
    · have e9 : (k == 9) = false := by simp [h9]
      have hB : oneA k code = oneB k code done failed sn := by unfold oneB; rw [if_neg h9]
      have HOB := Lib.hid hB
      rw [hB] at HU2
      have hUx := HU2.out
      have hRx := HR2.out
      have hTx := HT2.out
      have hbx := hbel2
      clear h9 hB HOB HU2 HR2 HT2 HO2 hbel2
      go_wp2_with fail
      clear r4 r5 r6 r8 r10 o0
      have r8 := cell_at hRx 8
      have r10 := cell_at hRx 10
      have x20 := (cell_at hUx 20).trans (tv_get (getD_some (by rw [oneB_len]; omega)))
      have x21 := (cell_at hUx 21).trans (tv_get (getD_some (by rw [oneB_len]; omega)))
      have y20 := free_at hUx 20
      have y21 := free_at hUx 21
      simp at r8 r10
      have HH := Lib.hid (And.intro hUx (And.intro hTx hbx))
      clear hRx hUx hTx hbx
      go_cut [] (fun wx => wx.heap[ub]? = some (.cells (tv (oneF k code done failed sn rows ver)) 25 (0, 0)) ∧ Only (ub) w2 wx)
      case first =>
        go_region_held3 (fun w' => w'.cell? ⟨rb, 8, none⟩ = some (.int .i64 ver) ∧ w'.cell? ⟨rb, 10, none⟩ = some (.int .i64 rows)) (go_keep) (fail)
        all_goals go_wp2_with fail
        all_goals
          go_meet
          refine ⟨(put_at (put_at HH.out.1)).trans ?_, ((Only.at w2 _ _ _).trans (Only.at _ _ _ _)).drew⟩
          have S2a := sets2 (oneB k code done failed sn) rows ver
          have S2b := sets2 (oneB k code done failed sn) 0 ver
          have hm : (0 < rows ∧ max 0 rows = rows) ∨ (rows ≤ 0 ∧ max 0 rows = 0) := by omega
          rcases hm with ⟨hp, hm⟩ | ⟨hp, hm⟩ <;> first | (exfalso; omega) | (unfold oneF; rw [hm]) | (unfold oneF; rw [hm, S2a]) | (unfold oneF; rw [hm, S2b])
      case rest =>
        rename_i wz
        obtain ⟨hUz, hoz⟩ := hcut
        have hTz := keepO hoz HH.out.2.1 HNB.out.1
        have hbz : Below w.heap.size w wc := HH.out.2.2.trans (hoz.below HNB.out.2.1)
        have hsz : (tv (oneF k code done failed sn rows ver)).size = 22 := by simp [tv, oneF_len]
        have hi : (Tryd.prog.info? 25).map (·.size) = some (tv (oneF k code done failed sn rows ver)).size := by rw [hsz]; exact Tryd.size25
        have h1 := tv_one (oneF k code done failed sn rows ver)
        have hT5 := setRow_heap wc (tb) (tv zeros) (tv (oneF k code done failed sn rows ver)) 25 (0, 0) hTz
        have HT5 := Lib.hid hT5
        have HZ := Lib.hid (And.intro hUz (And.intro hTz (And.intro hsz (And.intro hi h1))))
        clear hUz hTz hsz hi h1 hT5 hoz HH r8 r10 x20 x21 y20 y21
        go_wp2_with (first | (refine wpList_load_row rfl 25 (.tmp 5) rfl (ub) rfl 25 (tv (oneF k code done failed sn rows ver)) (0, 0) _ HZ.out.1 Tryd.underlying25 rfl HZ.out.2.2.2.1 ?_) | (refine wpList_store_row rfl 25 (.tmp 4) (.tmp 48) rfl (tb) (tv (oneF k code done failed sn rows ver)) rfl rfl 25 (tv zeros) HZ.out.2.1 HZ.out.2.2.2.1 (by rw [HZ.out.2.2.1]; rfl) HZ.out.2.2.2.2 ?_))
        refine bodyPost_ret (v := .agg (tv (oneF k code done failed sn rows ver))) (results_cell_row rfl _ _ tb 25 (tv (oneF k code done failed sn rows ver)) (0, 0) _ rfl HT5.out Tryd.underlying25 rfl HZ.out.2.2.2.1) rfl ⟨rfl, ?_⟩
        exact below_setRow hbz HNB.out.2.2 _
end Go.Proofs.YtgngpanimeigbabDoor
