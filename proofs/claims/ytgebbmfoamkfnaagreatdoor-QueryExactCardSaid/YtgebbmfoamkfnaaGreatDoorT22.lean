/- The contract of field.Get where the number is below 0. Printed by mkX5.py. · field.Get of field.Put's bytes. · Contract of layout.Unpack: the way back of a row that layout.Pack made. -/
import Derived.Test.YtgebbmfoamkfnaaGreatDoorT21
import Derived.Test.YtgebbmfoamkfnaaGreatDoorT10
namespace Go.Proofs.YtgebbmfoamkfnaaGreatDoor
open Go.RowKit
set_option linter.unusedVariables false
theorem pMax_le {n P : Int} (h : pMax n = P) : 1 ≤ P ∧ P ≤ 18446744073709551615 := by
 unfold pMax at h
 repeat' split at h
 all_goals omega
theorem pMax_half {k c P : Int} (hu : kSig k = true) (hc : kSize k = c) (h : pMax (c * 8) = P) : P = 2 * kMax k + 1 := by
 unfold kSig at hu
 simp at hu
 have : k = 2 ∨ k = 3 ∨ k = 4 ∨ k = 5 := by omega
 rcases this with rfl | rfl | rfl | rfl <;> (subst hc; subst h; rfl)
theorem sub_two (p : Int) (w : World) (h0 : 0 ≤ p) (h1 : p ≤ 9223372036854775807) : Calls Tryz.prog 206 #[WI.v (WI.made true 0 p), WI.v ⟨false, 0, 1⟩] w fun e w' => e = .returned (.tuple #[WI.v ⟨true, 0, p + 1⟩, .int .i64 0]) ∧ Below w.heap.size w w' := by
 by_cases he : p = 0
 ·subst he
  rw [made_zero]
  have := wsub_pos 0 1 w (by omega) (by omega) (by omega) (by omega)
  rw [one_made (by omega)] at this
  exact this
 ·rw [one_made he]
  exact wsub_one p w (by omega) h1
set_option maxRecDepth 100000 in
set_option maxHeartbeats 4000000 in
theorem get_neg (k : Int) (s : ByteArray) (c n : Nat) (w : World) (h1 : 1 ≤ k) (h2 : k ≤ 10) (hc : kSize k = (c : Int)) (hs : s.size = c) (hn : leV s.data.toList = n) (hu : kSig k = true) (hg : kMax k < (n : Int)) (P : Int) (hP : pMax ((c : Int) * 8) = P) (hnP : (n : Int) ≤ P) (hf : fitsF k ⟨true, 0, P - n + 1⟩ = true) (hwf : WI.wf ⟨true, 0, P - n + 1⟩) :
  Calls Tryz.prog 195 #[.int .i64 k, .string s] w fun e w' => e = .returned (.tuple #[WI.v ⟨true, 0, P - n + 1⟩, .int .i64 0]) ∧ Below w.heap.size w w' := by
 have hcs : c = 1 ∨ c = 2 ∨ c = 4 ∨ c = 8 := by have := kSize_set h1 h2; omega
 have hn' : leV (s.data.toList.take c) = n := by rw [List.take_of_length_le (by have : s.data.toList.length = s.size := rfl; omega)]; exact hn
 have hempty : s.extract c s.size = ⟨#[]⟩ := by rw [hs]; apply ByteArray.ext; rw [ByteArray.data_extract]; simp [hs]
 have hmx : s.size ≤ maxLen := by unfold maxLen; omega
 have HNUM := Lib.hid (fun rb w h => rNum_any rb s c w h hcs (by omega) hmx)
 rw [hn', hempty] at HNUM
 have HK := Lib.hid (kindB_true h1 h2)
 have HC := Lib.hid hc
 have HU := Lib.hid hu
 obtain ⟨q, hq⟩ : ∃ q, q = cmpF ⟨false, 0, n⟩ (greatW k) := ⟨_, rfl⟩
 have HQ := Lib.hid hq
 have HGT := Lib.hid (show decide (0 < q) = true by rw [hq, cmp_great]; simp; exact hg)
 have HPB := Lib.hid (pMax_le hP)
 have HWN := Lib.hid (show WI.wf ⟨false, 0, (n : Int)⟩ from ⟨⟨by simp, by simp⟩, by simp, by have := HPB.out; show (n : Int) ≤ _; omega⟩)
 have HP8 := Lib.hid (show (c : Int) * 8 = 8 ∨ (c : Int) * 8 = 16 ∨ (c : Int) * 8 = 32 ∨ (c : Int) * 8 = 64 by omega)
 have hwr : IntKind.i64.wrap ((c : Int) * 8) = (c : Int) * 8 := IntWalk.i64_in _ (by omega)
 have HP := Lib.hid hP
 obtain ⟨⟨rn, rh, rl⟩, hr⟩ : ∃ r, r = WI.made true 0 (P - n) := ⟨_, rfl⟩
 have HS1 : Hid (∀ w, Calls Tryz.prog 206 #[WI.v ⟨false, 0, n⟩, WI.v ⟨false, 0, P⟩] w fun e w' => e = .returned (.tuple #[WI.v ⟨rn, rh, rl⟩, .int .i64 0]) ∧ Below w.heap.size w w') := Lib.hid (fun w => by rw [hr]; exact wsub_pos n P w (by omega) hnP HPB.out.1 HPB.out.2)
 have HS2 : Hid (∀ w, Calls Tryz.prog 206 #[WI.v ⟨rn, rh, rl⟩, WI.v ⟨false, 0, 1⟩] w fun e w' => e = .returned (.tuple #[WI.v ⟨true, 0, P - n + 1⟩, .int .i64 0]) ∧ Below w.heap.size w w') := Lib.hid (fun w => by rw [hr]; exact sub_two (P - n) w (by omega) (by have := HPB.out; have := hg; have := (kMax_bd k).1; have := pMax_half hu hc hP; omega))
 have HF := Lib.hid hf
 have HWF := Lib.hid hwf
 have hb : Below w.heap.size w (w.alloc (.cells #[.bool false, .int .u64 0, .int .u64 0] 87)) := by go_grown
 have kr := heap_alloc_new w (.cells #[.bool false, .int .u64 0, .int .u64 0] 87)
 have HB := Lib.hid hb
 have HR := Lib.hid kr
 clear hb kr hc hs hn hu hg hP hr hq hf hwf hcs hn' hempty hmx
 go_enter Tryz.func195, Tryz.ntmps195
 go_wp2_with fail
 refine (isKind_any _ _).mono ?_
 rintro e w1 ⟨rfl, rfl⟩
 rw [HK.out]
 go_wp2_with fail
 refine (size_any _ _).mono ?_
 rintro e w1 ⟨rfl, hb1⟩
 rw [HC.out]
 have HR1 := Lib.hid (keep hb1 HR.out)
 have HB1 := Lib.hid (HB.out.trans (hb1.mono HB.out.size))
 clear hb1
 go_wp2_with fail
 refine (read_any _ _).mono ?_
 rintro e w2 ⟨rfl, rfl⟩
 have HX2 := Lib.hid (heap_alloc_new w1 (.cells #[.string s, .bool false] 319))
 have HR2 := Lib.hid (keepA (.cells #[.string s, .bool false] 319) HR1.out)
 have HB2 := Lib.hid (HB1.out.alloc HB1.out.size (.cells #[.string s, .bool false] 319))
 generalize w1.alloc (.cells #[.string s, .bool false] 319) = w2 at *
 have hrb : w.heap.size < w1.heap.size := by have := lt_some HR1.out; omega
 generalize w1.heap.size = rb at *
 go_wp2_with fail
 refine (HNUM.out rb w2 HX2.out).mono ?_
 rintro e w3 ⟨rfl, hx3, ho3⟩
 have HX3 := Lib.hid hx3
 have HR3 := Lib.hid ((ho3.block _ (by omega)).trans HR2.out)
 have HB3 := Lib.hid (HB2.out.trans (ho3.below (by omega)))
 clear hx3 ho3
 go_wp2_with fail
 refine (wofword_any _ _).mono ?_
 rintro e w4 ⟨rfl, hb4⟩
 dsimp only [WI.v]
 go_wp2_with fail
 have hs4 : rb < w4.heap.size := lt_some (keep hb4 HX3.out)
 have HN5 := Lib.hid (heap_alloc_new w4 (.cells #[.bool false, .int .u64 0, .int .u64 (n : Int)] 87))
 have HR5 := Lib.hid (keepA (.cells #[.bool false, .int .u64 0, .int .u64 (n : Int)] 87) (keep hb4 HR3.out))
 have HX5 := Lib.hid (keepA (.cells #[.bool false, .int .u64 0, .int .u64 (n : Int)] 87) (keep hb4 HX3.out))
 have HB4 := HB3.out.trans (hb4.mono HB3.out.size)
 have HB5 := Lib.hid (HB4.alloc HB4.size (.cells #[.bool false, .int .u64 0, .int .u64 (n : Int)] 87))
 clear hb4 HB4
 generalize w4.alloc (.cells #[.bool false, .int .u64 0, .int .u64 (n : Int)] 87) = w5 at *
 generalize w4.heap.size = xb at *
 have HFL := Lib.hid (fun s => fldShape s (kSize k) (kSig k))
 rw [HU.out] at HFL
 refine wp_region_frame (by kernel_rfl) (by kernel_rfl) (by kernel_rfl) (byList (get_si k n q true)) (lasts_list (get_si_lasts k n q true)) ?_ ?_
 ·intro vs w' iq o A F hb ho hd
  have m0 : A.tmps[0]?.getD undef = (.int .i64 k) := F.m (by kernel_rfl) rfl
  have m8 : A.tmps[8]?.getD undef = (.pointer (some ⟨xb, 0, none⟩)) := F.m (by kernel_rfl) rfl
  have G := F.light (n := 57) (by kernel_rfl)
  clear F
  have hn6 := keep hb HN5.out
  have z0 := cell_at hn6 0
  have z1 := cell_at hn6 1
  have z2 := cell_at hn6 2
  simp at z0 z1 z2
  clear hb hn6
  revert ho hd
  match iq with
  | 0 =>
   intro ho hd
   obtain rfl := (Option.some.inj ho).symm
   clear hd ho
   refine step_open rfl ?_
   clear G
   exact step_run (v := (.int .i64 k)) (by go_simp) rfl
  | 1 =>
   intro ho hd
   obtain rfl := (Option.some.inj ho).symm
   have d0 : vs 0 = (.int .i64 k) := hd ⟨0, .data⟩ (by simp) rfl
   clear hd ho
   have h21 := G.h (j := 0) (d := 21) rfl (by decide) d0
   refine step_open rfl ?_
   clear G
   go_simp
   refine (of_named _ _ h1 h2).mono ?_
   rintro e w2 ⟨rfl, hb2⟩
   rw [HU.out]
   exact ⟨_, rfl, rfl, hb2⟩
  | 2 =>
   intro ho hd
   obtain rfl := (Option.some.inj ho).symm
   have d1 : vs 1 = (.agg #[.string (kNm k), .int .i64 (kSize k), .bool true]) := hd ⟨1, .data⟩ (by simp) rfl
   clear hd ho
   have h22 := G.h (j := 1) (d := 22) rfl (by decide) d1
   refine step_open rfl ?_
   clear G
   have hfld := HFL.out (kNm k)
   exact step_run (v := (.bool true)) (by go_simp) rfl
  | 3 =>
   intro ho hd
   obtain rfl := (Option.some.inj ho).symm
   have d2 : vs 2 = (.bool true) := hd ⟨2, .data⟩ (by simp) rfl
   clear hd ho
   have h23 := G.h (j := 2) (d := 23) rfl (by decide) d2
   refine step_open rfl ?_
   clear G
   exact step_run (v := (.bool true)) (by go_simp) rfl
  | 4 =>
   intro ho hd
   obtain rfl := (Option.some.inj ho).symm
   have d3 : vs 3 = (.bool true) := hd ⟨3, .guard⟩ (by simp) rfl
   clear hd ho
   refine step_yes G rfl rfl (by decide) d3 ?_
   clear G
   exact step_run (v := (.agg #[.bool false, .int .u64 0, .int .u64 (n : Int)])) (by go_simp) rfl
  | 5 =>
   intro ho hd
   obtain rfl := (Option.some.inj ho).symm
   have d3 : vs 3 = (.bool true) := hd ⟨3, .guard⟩ (by simp) rfl
   clear hd ho
   refine step_yes G rfl rfl (by decide) d3 ?_
   clear G
   exact step_run (v := (.int .i64 k)) (by go_simp) rfl
  | 6 =>
   intro ho hd
   obtain rfl := (Option.some.inj ho).symm
   have d5 : vs 5 = (.int .i64 k) := hd ⟨5, .data⟩ (by simp) rfl
   have d3 : vs 3 = (.bool true) := hd ⟨3, .guard⟩ (by simp) rfl
   clear hd ho
   have h26 := G.h (j := 5) (d := 26) rfl (by decide) d5
   refine step_yes G rfl rfl (by decide) d3 ?_
   clear G
   go_simp
   refine (greatest_any k _ h1 h2).mono ?_
   rintro e w2 ⟨rfl, hb2⟩
   exact ⟨_, rfl, rfl, hb2⟩
  | 7 =>
   intro ho hd
   obtain rfl := (Option.some.inj ho).symm
   have d4 : vs 4 = (.agg #[.bool false, .int .u64 0, .int .u64 (n : Int)]) := hd ⟨4, .data⟩ (by simp) rfl
   have d6 : vs 6 = (.agg #[.bool false, .int .u64 0, .int .u64 (kMax k)]) := hd ⟨6, .data⟩ (by simp) rfl
   have d3 : vs 3 = (.bool true) := hd ⟨3, .guard⟩ (by simp) rfl
   clear hd ho
   have h25 := G.h (j := 4) (d := 25) rfl (by decide) d4
   have h27 := G.h (j := 6) (d := 27) rfl (by decide) d6
   refine step_yes G rfl rfl (by decide) d3 ?_
   clear G
   go_simp
   refine (wcmp_any ⟨false, 0, n⟩ (greatW k) _ HWN.out (greatW_wf k)).mono ?_
   rintro e w2 ⟨rfl, hb2⟩
   rw [← HQ.out]
   exact ⟨_, rfl, rfl, hb2⟩
  | 8 =>
   intro ho hd
   obtain rfl := (Option.some.inj ho).symm
   have d7 : vs 7 = (.int .i64 q) := hd ⟨7, .data⟩ (by simp) rfl
   have d3 : vs 3 = (.bool true) := hd ⟨3, .guard⟩ (by simp) rfl
   clear hd ho
   have h28 := G.h (j := 7) (d := 28) rfl (by decide) d7
   refine step_yes G rfl rfl (by decide) d3 ?_
   clear G
   have hgt := HGT.out
   exact step_run (v := (.bool true)) (by go_simp) rfl
  | 9 =>
   intro ho hd
   obtain rfl := (Option.some.inj ho).symm
   have d3 : vs 3 = (.bool true) := hd ⟨3, .data⟩ (by simp) rfl
   have d8 : vs 8 = (.bool true) := hd ⟨8, .data⟩ (by simp) rfl
   clear hd ho
   have h24 := G.h (j := 3) (d := 24) rfl (by decide) d3
   have h29 := G.h (j := 8) (d := 29) rfl (by decide) d8
   refine step_open rfl ?_
   clear G
   exact step_run (v := (.bool true)) (by go_simp) rfl
  | n + 10 =>
   intro ho hd
   simp at ho
 intro vs w6 hb hR
 have hv : vs 9 = .bool true := hR 9 (by simp)
 have HX6 := Lib.hid (keep hb HX5.out)
 have HR6 := Lib.hid (keep hb HR5.out)
 have HN6 := Lib.hid (keep hb HN5.out)
 have HB6 := Lib.hid (HB5.out.trans (hb.mono HB5.out.size))
 simp only [putAll, Act.put, List.setIfInBounds_toArray, List.set_cons_succ, List.set_cons_zero]
 rw [hv]
 generalize vs 0 = y0
 generalize vs (0 + 1) = y1
 generalize vs (0 + 1 + 1) = y2
 generalize vs (0 + 1 + 1 + 1) = y3
 generalize vs (0 + 1 + 1 + 1 + 1) = y4
 generalize vs (0 + 1 + 1 + 1 + 1 + 1) = y5
 generalize vs (0 + 1 + 1 + 1 + 1 + 1 + 1) = y6
 generalize vs (0 + 1 + 1 + 1 + 1 + 1 + 1 + 1) = y7
 generalize vs (0 + 1 + 1 + 1 + 1 + 1 + 1 + 1 + 1) = y8
 clear hR hb hv
 have n0 := cell_at HN6.out 0
 have n1 := cell_at HN6.out 1
 have n2 := cell_at HN6.out 2
 simp at n0 n1 n2
 go_upto_region 7 with (fail)
 have hB0 : w.heap.size ≤ w6.heap.size := HB6.out.size
 have hxw : xb < w6.heap.size := lt_some HN6.out
 have HW8 := Lib.hid hwr
 clear hwr
 have hwr := HW8.out
 go_cut [] from 31 to 40 (fun wx => wx.heap[xb]? = some (.cells #[.bool rn, .int .u64 rh, .int .u64 rl] 87 (0, 0)) ∧ wx.heap[rb]? = some (.cells #[.string ⟨#[]⟩, .bool false] 319 (0, 0)) ∧ wx.heap[w.heap.size]? = some (.cells #[.bool false, .int .u64 0, .int .u64 0] 87 (0, 0)) ∧ Below w.heap.size w wx)
 case first =>
  go_region_with (first
   | (go_at_call 159; refine (power_any _ _ HP8.out).mono ?_; rintro e w7 ⟨rfl, rfl⟩; rw [HP.out])
   | (go_at_call 66; refine (wofword_any _ _).mono ?_; rintro e w7 ⟨rfl, hb7⟩; dsimp only [WI.v]; have HB7 := Lib.hid (show Below w6.heap.size w6 w7 from ((Below.refl w6.heap.size w6).drew).trans (hb7.mono (by simp))); clear hb7; have z0 := cell_at (keep HB7.out HN6.out) 0; have z1 := cell_at (keep HB7.out HN6.out) 1; have z2 := cell_at (keep HB7.out HN6.out) 2; simp at z0 z1 z2)
   | (go_at_call 206; refine (HS1.out _).mono ?_; rintro e w8 ⟨rfl, hb8⟩; dsimp only [WI.v]; have HB8 := Lib.hid (HB7.out.trans (hb8.mono HB7.out.size)); clear hb8; have hn8 := keep HB8.out HN6.out; have g0 := free_at hn8 0; have g1 := free_at hn8 1; have g2 := free_at hn8 2; have q0 := cell_at hn8 0; have q1 := cell_at hn8 1; have q2 := cell_at hn8 2; simp at q0 q1 q2))
  all_goals
   go_wp2_with fail
   go_meet
   refine ⟨?_, ?_, ?_, ?_⟩
   ·rw [hset _ _ _ _ _ _ _ (hset _ _ _ _ _ _ _ (hset _ _ _ _ _ _ _ hn8))]; rfl
   ·rw [hset_ne _ _ _ _ (show rb ≠ xb by omega), hset_ne _ _ _ _ (show rb ≠ xb by omega), hset_ne _ _ _ _ (show rb ≠ xb by omega)]; exact keep HB8.out HX6.out
   ·rw [hset_ne _ _ _ _ (show w.heap.size ≠ xb by omega), hset_ne _ _ _ _ (show w.heap.size ≠ xb by omega), hset_ne _ _ _ _ (show w.heap.size ≠ xb by omega)]; exact keep HB8.out HR6.out
   ·exact (((HB6.out.trans (HB8.out.mono HB6.out.size)).setCell (show w.heap.size ≤ xb by omega) _).setCell (show w.heap.size ≤ xb by omega) _).setCell (show w.heap.size ≤ xb by omega) _
 case rest =>
  obtain ⟨hn9, hx9, hr9, hb9⟩ := hcut
  have HN9 := Lib.hid hn9
  have HX9 := Lib.hid hx9
  have HR9 := Lib.hid hr9
  have HB9 := Lib.hid hb9
  have n0 := cell_at hn9 0
  have n1 := cell_at hn9 1
  have n2 := cell_at hn9 2
  simp at n0 n1 n2
  have hB9 : w.heap.size ≤ wc.heap.size := hb9.size
  have hxwc : xb < wc.heap.size := lt_some hn9
  clear hn9 hx9 hr9 hb9
  go_upto_region 8 with (fail)
  go_cut [] from 40 to 46 (fun wx => wx.heap[xb]? = some (.cells #[.bool true, .int .u64 0, .int .u64 (P - n + 1)] 87 (0, 0)) ∧ wx.heap[rb]? = some (.cells #[.string ⟨#[]⟩, .bool false] 319 (0, 0)) ∧ wx.heap[w.heap.size]? = some (.cells #[.bool false, .int .u64 0, .int .u64 0] 87 (0, 0)) ∧ Below w.heap.size w wx)
  case first =>
   go_region_with (first
    | (go_at_call 26; refine (wof_pos 1 _ (by omega) (by omega)).mono ?_; rintro e w7 ⟨rfl, hb7⟩; dsimp only [WI.v]; have HB7 := Lib.hid (show Below wc.heap.size wc w7 from ((Below.refl wc.heap.size wc).drew).trans (hb7.mono (by simp))); clear hb7; have z0 := cell_at (keep HB7.out HN9.out) 0; have z1 := cell_at (keep HB7.out HN9.out) 1; have z2 := cell_at (keep HB7.out HN9.out) 2; simp at z0 z1 z2)
    | (go_at_call 206; refine (HS2.out _).mono ?_; rintro e w8 ⟨rfl, hb8⟩; dsimp only [WI.v]; have HB8 := Lib.hid (HB7.out.trans (hb8.mono HB7.out.size)); clear hb8; have hn8 := keep HB8.out HN9.out; have g0 := free_at hn8 0; have g1 := free_at hn8 1; have g2 := free_at hn8 2; have q0 := cell_at hn8 0; have q1 := cell_at hn8 1; have q2 := cell_at hn8 2; simp at q0 q1 q2))
   all_goals
    go_wp2_with fail
    go_meet
    refine ⟨?_, ?_, ?_, ?_⟩
    ·rw [hset _ _ _ _ _ _ _ (hset _ _ _ _ _ _ _ (hset _ _ _ _ _ _ _ hn8))]; rfl
    ·rw [hset_ne _ _ _ _ (show rb ≠ xb by omega), hset_ne _ _ _ _ (show rb ≠ xb by omega), hset_ne _ _ _ _ (show rb ≠ xb by omega)]; exact keep HB8.out HX9.out
    ·rw [hset_ne _ _ _ _ (show w.heap.size ≠ xb by omega), hset_ne _ _ _ _ (show w.heap.size ≠ xb by omega), hset_ne _ _ _ _ (show w.heap.size ≠ xb by omega)]; exact keep HB8.out HR9.out
    ·exact (((HB9.out.trans (HB8.out.mono HB9.out.size)).setCell (show w.heap.size ≤ xb by omega) _).setCell (show w.heap.size ≤ xb by omega) _).setCell (show w.heap.size ≤ xb by omega) _
  case rest =>
   obtain ⟨hn10, hx10, hr10, hb10⟩ := hcut
   have HN10 := Lib.hid hn10
   have HX10 := Lib.hid hx10
   have HR10 := Lib.hid hr10
   have HB10 := Lib.hid hb10
   clear n0 n1 n2
   have n0 := cell_at hn10 0
   have n1 := cell_at hn10 1
   have n2 := cell_at hn10 2
   simp at n0 n1 n2
   clear hn10 hx10 hr10 hb10
   go_wp2_with fail
   refine (rDone_any rb _ _ HX10.out rfl).mono ?_
   rintro e w7 ⟨rfl, rfl⟩
   go_wp2_with fail
   refine (fits_any k ⟨true, 0, P - n + 1⟩ _ HWF.out).mono ?_
   rintro e w7 ⟨rfl, hb7⟩
   rw [HF.out]
   have hn7 := keep hb7 HN10.out
   have hr7 := keep hb7 HR10.out
   have HB7 := Lib.hid (HB10.out.trans (hb7.mono HB10.out.size))
   have a0 := cell_at hn7 0
   have a1 := cell_at hn7 1
   have a2 := cell_at hn7 2
   have g0 := free_at hr7 0
   have g1 := free_at hr7 1
   have g2 := free_at hr7 2
   have q0 := cell_at hr7 0
   have q1 := cell_at hr7 1
   have q2 := cell_at hr7 2
   simp at a0 a1 a2 q0 q1 q2
   clear hb7
   go_wp2_with fail
   refine bodyPost_ret (v := .tuple #[.agg #[.bool true, .int .u64 0, .int .u64 (P - n + 1)], .int .i64 0]) (by simp [results, Tryz.results195, go_sem, q0, q1, q2]) rfl ?_
   exact ⟨rfl, ((HB7.out.setCell (by simp) _).setCell (by simp) _).setCell (by simp) _⟩
end Go.Proofs.YtgebbmfoamkfnaaGreatDoor
namespace Go.Proofs.YtgebbmfoamkfnaaGreatDoor
open Go.RowKit
set_option linter.unusedVariables false
theorem leV_snoc (b : UInt8) : ∀ l : List UInt8, leV (l ++ [b]) = leV l + 256 ^ l.length * b.toNat
 | [] => by simp [leV]
 | a :: l => by
  simp only [List.cons_append, leV, leV_snoc b l, List.length_cons, Nat.pow_succ]
  rw [Nat.mul_add, Nat.mul_comm (256 ^ l.length) 256, Nat.mul_assoc]
  omega
theorem leV_leB (n : Nat) : ∀ k, leV (leB n k) = n % 256 ^ k
 | 0 => by simp [leB, leV, Nat.mod_one]
 | k + 1 => by
  rw [leB, leV_snoc, leV_leB n k, leB_len, Nat.mod_pow_succ]
  rfl
theorem leV_putB (k : Int) (x : WI) : leV (putB k x) = putN k x := by
 unfold putB
 rw [leV_leB, Nat.mod_eq_of_lt (putN_lt k x)]
theorem pow_kMax {k : Int} (h1 : 1 ≤ k) (h2 : k ≤ 10) : kMax k < 2 ^ (8 * (kSize k).toNat) ∧ (kSig k = true → (2 : Int) ^ (8 * (kSize k).toNat) = 2 * kMax k + 2) := by
 have h' : k = 1 ∨ k = 2 ∨ k = 3 ∨ k = 4 ∨ k = 5 ∨ k = 6 ∨ k = 7 ∨ k = 8 ∨ k = 9 ∨ k = 10 := by omega
 rcases h' with rfl | rfl | rfl | rfl | rfl | rfl | rfl | rfl | rfl | rfl <;> exact ⟨by decide, by decide⟩
theorem get_any (k : Int) (x : WI) (w : World) (hx : x.wf) (hf : fitsF k x = true) : Calls Tryz.prog 195 #[.int .i64 k, .string ⟨(putB k x).toArray⟩] w fun e w' => e = .returned (.tuple #[x.v, .int .i64 0]) ∧ Below w.heap.size w w' := by
 have hhi := fits_hi hx hf
 have hf' := hf
 unfold fitsF at hf'
 simp only [Bool.and_eq_true, decide_eq_true_eq] at hf'
 obtain ⟨⟨⟨hk, hfo⟩, hlo⟩, hup⟩ := hf'
 have hk' : 1 ≤ k ∧ k ≤ 10 := by simpa [kindB] using hk
 obtain ⟨h1, h2⟩ := hk'
 obtain ⟨c, hc⟩ : ∃ c : Nat, kSize k = (c : Int) := ⟨(kSize k).toNat, by have := kSize_bd k; omega⟩
 have hs : (⟨(putB k x).toArray⟩ : ByteArray).size = c := by
  show (putB k x).toArray.size = c
  rw [List.size_toArray]; unfold putB; rw [leB_len]; omega
 have hn : leV (⟨(putB k x).toArray⟩ : ByteArray).data.toList = putN k x := by show leV (putB k x).toArray.toList = _; rw [List.toList_toArray]; exact leV_putB k x
 obtain ⟨hp1, hp2⟩ := pow_kMax h1 h2
 obtain ⟨n, hi, lo⟩ := x
 dsimp only at hhi
 subst hhi
 obtain ⟨_, hw0, hw1⟩ := hx
 dsimp only at hw0 hw1
 have hm := (kMax_bd k).1
 cases n
 ·have hv : WI.val ⟨false, 0, lo⟩ = lo := by simp [WI.val]
  rw [hv] at hup hlo
  have hpn : putN k ⟨false, 0, lo⟩ = lo.toNat := by unfold putN; rw [hv, Int.emod_eq_of_lt hw0 (by omega)]
  rw [hpn] at hn
  obtain ⟨m, rfl⟩ := Int.eq_ofNat_of_zero_le hw0
  rw [Int.toNat_natCast] at hn
  cases hu : kSig k
  ·exact get_stay k _ c m w h1 h2 hc hs hn hu hf ⟨⟨by simp, by simp⟩, hw0, hw1⟩
  ·exact get_low k _ c m w h1 h2 hc hs hn hu hup hf ⟨⟨by simp, by simp⟩, hw0, hw1⟩
 ·have hv : WI.val ⟨true, 0, lo⟩ = -lo := by simp [WI.val]
  rw [hv] at hup hlo
  have hl0 : lo ≠ 0 := by
   intro h
   subst h
   simp [WI.form] at hfo
  have hu : kSig k = true := by
   cases hu : kSig k
   ·unfold kMin at hlo; rw [hu] at hlo; simp at hlo; omega
   ·rfl
  have hlo' : lo ≤ kMax k + 1 := by unfold kMin at hlo; rw [hu] at hlo; simp at hlo; omega
  have hpw := hp2 hu
  have hPe : pMax ((c : Int) * 8) = 2 * kMax k + 1 := pMax_half hu hc rfl
  have hpn : putN k ⟨true, 0, lo⟩ = (2 * kMax k + 2 - lo).toNat := by
   unfold putN
   rw [hv, hpw, show -lo % (2 * kMax k + 2) = 2 * kMax k + 2 - lo from by rw [← Int.add_mul_emod_self_left (-lo) (2 * kMax k + 2) 1, Int.emod_eq_of_lt (by omega) (by omega)]; omega]

  rw [hpn] at hn
  obtain ⟨m, hm2⟩ : ∃ m : Nat, (m : Int) = 2 * kMax k + 2 - lo := ⟨(2 * kMax k + 2 - lo).toNat, by omega⟩
  have hmn : (2 * kMax k + 2 - lo).toNat = m := by omega
  rw [hmn] at hn
  have he : (2 * kMax k + 1) - (m : Int) + 1 = lo := by omega
  have := get_neg k _ c m w h1 h2 hc hs hn hu (by omega) (2 * kMax k + 1) hPe (by omega) (by rw [he]; exact hf) (by rw [he]; exact ⟨⟨by simp, by simp⟩, hw0, hw1⟩)
  rw [he] at this
  exact this
end Go.Proofs.YtgebbmfoamkfnaaGreatDoor
namespace Go.Proofs.YtgebbmfoamkfnaaGreatDoor
open Go.RowKit
set_option linter.unusedVariables false
theorem packPre_pre (fs : List Fld) : ∀ q : (List Int × Int × Int) × List UInt8 × List WI, ∃ t, (fs.foldl packStep q).2.1 = q.2.1 ++ t := by
 induction fs with
 | nil => intro q; exact ⟨[], by simp⟩
 | cons f r ih =>
  intro q
  obtain ⟨t, ht⟩ := ih (packStep q f)
  rw [List.foldl_cons, ht]
  simp only [packStep, padB, List.append_assoc]
  exact ⟨_, rfl⟩
theorem packPre_split (fs : List Fld) (k : Nat) (val : List WI) : packPre fs val = (fs.drop k).foldl packStep (packPre (fs.take k) val) := by
 rw [packPre, packPre, ← List.foldl_append, List.take_append_drop]
theorem drop_app {α : Type} (l t : List α) (n c : Nat) (h : l.length = n) : (l ++ t).drop (n + c) = t.drop c := by
 subst h
 rw [← List.drop_drop]
 simp
theorem flat_at (k : Int) : ∀ (l : List WI) (m : Nat) (x : WI) (t : List UInt8), l[m]? = some x → ((l.flatMap (putB k) ++ t).drop (m * (kSize k).toNat)).take (kSize k).toNat = putB k x
 | [], _, _, _, h => by simp at h
 | y :: r, 0, x, t, h => by
  simp at h
  subst h
  rw [Nat.zero_mul, List.drop_zero, List.flatMap_cons, List.append_assoc, List.take_append_of_le_length (by rw [putB_len]; exact Nat.le_refl _), List.take_of_length_le (by rw [putB_len]; exact Nat.le_refl _)]
 | y :: r, m + 1, x, t, h => by
  rw [List.flatMap_cons, List.append_assoc, Nat.succ_mul, Nat.add_comm (m * _), drop_app _ _ _ _ (putB_len k y)]
  exact flat_at k r m x t (by simpa using h)
theorem elem_at {fs : List Fld} {val : List WI} (hfit : fitF fs val = 0) {k : Nat} {f : Fld} (hf : fs[k]? = some f) {n : Nat} (hn : upF (planF (fs.take k)).2.1 (kSize f.kind) = n) {m : Nat} (hm : m < f.count.toNat) {x : WI} (hx : val[cnt (fs.take k) + m]? = some x) :
  ((packF fs val).drop (n + m * (kSize f.kind).toNat)).take (kSize f.kind).toNat = putB f.kind x ∧ n + m * (kSize f.kind).toNat + (kSize f.kind).toNat ≤ (packF fs val).length := by
 obtain ⟨hl, hcn, hgo⟩ := fit_zero hfit
 obtain ⟨h8, hall, h256⟩ := layCheck_zero hl
 have hfo : fldOk f = true := by rw [List.all_eq_true] at hall; exact hall f (List.mem_of_getElem? hf)
 obtain ⟨ks1, ks2, f1, f2⟩ := fldOk_bd hfo
 have hk8 : (fs.take k).length ≤ 8 := by rw [List.length_take]; omega
 obtain ⟨p0, p1, p2, p3⟩ := plan_bd hk8 (all_take hall k)
 obtain ⟨u1, u2, u3⟩ := upF_eq p0 (by omega) ks1 ks2
 obtain ⟨hpl, hrest⟩ := pack_len _ (fs.take k) rfl hk8 (all_take hall k) val (by have := cnt_take_le (fs := fs) k; omega)
 obtain ⟨t, ht⟩ := packPre_pre (fs.drop (k + 1)) (packPre (fs.take (k + 1)) val)
 rw [← packPre_split] at ht
 have hstep : (packPre (fs.take (k + 1)) val).2.1 = padB (packPre (fs.take k) val).2.1 n ++ ((val.drop (cnt (fs.take k))).take f.count.toNat).flatMap (putB f.kind) := by
  rw [take_snoc hf, packPre_snoc]
  unfold packStep
  rw [hrest, packPre_fst, hn]
  rfl
 have hlen : (padB (packPre (fs.take k) val).2.1 n).length = n := padB_len (by omega)
 have hx' : ((val.drop (cnt (fs.take k))).take f.count.toNat)[m]? = some x := by
  rw [List.getElem?_take, if_pos hm, List.getElem?_drop]; exact hx
 have hfull : packF fs val = padB (packPre (fs.take k) val).2.1 n ++ (((val.drop (cnt (fs.take k))).take f.count.toNat).flatMap (putB f.kind) ++ (t ++ List.replicate ((planSize fs).toNat - (packPre fs val).2.1.length) 0)) := by
  unfold packF
  rw [padB, ht, hstep, List.append_assoc, List.append_assoc]
 have hml : m < ((val.drop (cnt (fs.take k))).take f.count.toNat).length := (List.getElem?_eq_some_iff.1 hx').1
 refine ⟨?_, ?_⟩
 ·rw [hfull, drop_app _ _ _ _ hlen]
  exact flat_at _ _ _ _ _ hx'
 ·rw [hfull, List.length_append, hlen, List.length_append, flat_len]
  have : (m + 1) * (kSize f.kind).toNat ≤ ((val.drop (cnt (fs.take k))).take f.count.toNat).length * (kSize f.kind).toNat := Nat.mul_le_mul (by omega) (Nat.le_refl _)
  rw [Nat.succ_mul] at this
  omega
theorem bytes_extract (l : List UInt8) (a c : Nat) : (⟨l.toArray⟩ : ByteArray).extract a (a + c) = ⟨((l.drop a).take c).toArray⟩ := by
 apply ByteArray.ext
 rw [ByteArray.data_extract]
 show l.toArray.extract a (a + c) = _
 rw [List.extract_toArray, List.extract_eq_take_drop]
 congr 2
 omega
end Go.Proofs.YtgebbmfoamkfnaaGreatDoor
