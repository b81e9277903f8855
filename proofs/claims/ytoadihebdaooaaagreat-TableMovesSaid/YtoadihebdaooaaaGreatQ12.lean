/- The contract of field.Get where the number is below 0. Printed by mkX5.py. · field.Get of field.Put's bytes. · Contract of layout.Unpack: the way back of a row that layout.Pack made. · Contract of layout.Unpack: the way back of a row that layout.Pack made. · Values of a table's rows; table.Get where there is something. · Parts that are owned; table.Parts. · table.Set. · Maps told as functions to values of any element type; values16. · The law's test of two rows of numbers. -/
import Derived.Test.YtoadihebdaooaaaGreatQ11
import Derived.Test.YtoadihebdaooaaaGreatQ5
import Derived.Test.YtoadihebdaooaaaGreatQ7
import Derived.Test.YtoadihebdaooaaaGreatQ10
import Derived.Laws.StructEq
namespace Go.Proofs.YtoadihebdaooaaaGreat
open Go.RowKit
set_option linter.unusedVariables false
theorem pMax_le {n P : Int} (h : pMax n = P) : 1 ≤ P ∧ P ≤ 18446744073709551615 := by
  unfold pMax at h
  repeat' split at h
  all_goals omega
theorem pMax_half {k c P : Int} (hu : kSig k = true) (hc : kSize k = c) (h : pMax (c * 8) = P) : P = 2 * kMax k + 1 := by
  unfold kSig at hu
  simp at hu
  have : k = 2 ∨ k = 3 ∨ k = 4 ∨ k = 5 := by omega
  rcases this with rfl | rfl | rfl | rfl <;> (subst hc; subst h; rfl)
theorem sub_two (p : Int) (w : World) (h0 : 0 ≤ p) (h1 : p ≤ 9223372036854775807) : Calls Tryz.prog 152 #[WI.v (WI.made true 0 p), WI.v ⟨false, 0, 1⟩] w fun e w' => e = .returned (.tuple #[WI.v ⟨true, 0, p + 1⟩, .int .i64 0]) ∧ Below w.heap.size w w' := by
  by_cases he : p = 0
  · subst he
    rw [made_zero]
    have := wsub_pos 0 1 w (by omega) (by omega) (by omega) (by omega)
    rw [one_made (by omega)] at this
    exact this
  · rw [one_made he]
    exact wsub_one p w (by omega) h1
set_option maxRecDepth 100000 in
set_option maxHeartbeats 4000000 in
/-- Where a signed number is above the greatest. -/
theorem get_neg (k : Int) (s : ByteArray) (c n : Nat) (w : World) (h1 : 1 ≤ k) (h2 : k ≤ 10) (hc : kSize k = (c : Int)) (hs : s.size = c) (hn : leV s.data.toList = n) (hu : kSig k = true) (hg : kMax k < (n : Int)) (P : Int) (hP : pMax ((c : Int) * 8) = P) (hnP : (n : Int) ≤ P) (hf : fitsF k ⟨true, 0, P - n + 1⟩ = true) (hwf : WI.wf ⟨true, 0, P - n + 1⟩) :
    Calls Tryz.prog 124 #[.int .i64 k, .string s] w fun e w' => e = .returned (.tuple #[WI.v ⟨true, 0, P - n + 1⟩, .int .i64 0]) ∧ Below w.heap.size w w' := by
  have hcs : c = 1 ∨ c = 2 ∨ c = 4 ∨ c = 8 := by have := kSize_set h1 h2; omega
  have hn' : leV (s.data.toList.take c) = n := by rw [List.take_of_length_le (by have : s.data.toList.length = s.size := rfl; omega)]; exact hn
  have hempty : s.extract c s.size = ⟨#[]⟩ := by rw [hs]; apply ByteArray.ext; rw [ByteArray.data_extract]; simp [hs]
  have hmx : s.size ≤ maxLen := by unfold maxLen; omega
  have HNUM := Lib.hid (fun rb w h => rNum_any rb s c w h hcs (by omega) hmx)
  rw [hn', hempty] at HNUM
  have HK := Lib.hid (kindB_true h1 h2)
  have HC := Lib.hid hc
  have HU := Lib.hid hu
  obtain ⟨q, hq⟩ : ∃ q, q = cmpF ⟨false, 0, n⟩ (greatW k) := ⟨_, rfl⟩
  have HQ := Lib.hid hq
  have HGT := Lib.hid (show decide (0 < q) = true by rw [hq, cmp_great]; simp; exact hg)
  have HPB := Lib.hid (pMax_le hP)
  have HWN := Lib.hid (show WI.wf ⟨false, 0, (n : Int)⟩ from ⟨⟨by simp, by simp⟩, by simp, by have := HPB.out; show (n : Int) ≤ _; omega⟩)
  have HP8 := Lib.hid (show (c : Int) * 8 = 8 ∨ (c : Int) * 8 = 16 ∨ (c : Int) * 8 = 32 ∨ (c : Int) * 8 = 64 by omega)
  have hwr : IntKind.i64.wrap ((c : Int) * 8) = (c : Int) * 8 := IntWalk.i64_in _ (by omega)
  have HP := Lib.hid hP
  obtain ⟨⟨rn, rh, rl⟩, hr⟩ : ∃ r, r = WI.made true 0 (P - n) := ⟨_, rfl⟩
  have HS1 : Hid (∀ w, Calls Tryz.prog 152 #[WI.v ⟨false, 0, n⟩, WI.v ⟨false, 0, P⟩] w fun e w' => e = .returned (.tuple #[WI.v ⟨rn, rh, rl⟩, .int .i64 0]) ∧ Below w.heap.size w w') := Lib.hid (fun w => by rw [hr]; exact wsub_pos n P w (by omega) hnP HPB.out.1 HPB.out.2)
  have HS2 : Hid (∀ w, Calls Tryz.prog 152 #[WI.v ⟨rn, rh, rl⟩, WI.v ⟨false, 0, 1⟩] w fun e w' => e = .returned (.tuple #[WI.v ⟨true, 0, P - n + 1⟩, .int .i64 0]) ∧ Below w.heap.size w w') := Lib.hid (fun w => by rw [hr]; exact sub_two (P - n) w (by omega) (by have := HPB.out; have := hg; have := (kMax_bd k).1; have := pMax_half hu hc hP; omega))
  have HF := Lib.hid hf
  have HWF := Lib.hid hwf
  have hb : Below w.heap.size w (w.alloc (.cells #[.bool false, .int .u64 0, .int .u64 0] 148)) := by go_grown
  have kr := heap_alloc_new w (.cells #[.bool false, .int .u64 0, .int .u64 0] 148)
  have HB := Lib.hid hb
  have HR := Lib.hid kr
  clear hb kr hc hs hn hu hg hP hr hq hf hwf hcs hn' hempty hmx
  go_enter Tryz.func124, Tryz.ntmps124
  go_wp2_with fail
  refine (isKind_any _ _).mono ?_
  rintro e w1 ⟨rfl, rfl⟩
  rw [HK.out]
  go_wp2_with fail
  refine (size_any _ _).mono ?_
  rintro e w1 ⟨rfl, hb1⟩
  rw [HC.out]
  have HR1 := Lib.hid (keep hb1 HR.out)
  have HB1 := Lib.hid (HB.out.trans (hb1.mono HB.out.size))
  clear hb1
  go_wp2_with fail
  refine (read_any _ _).mono ?_
  rintro e w2 ⟨rfl, rfl⟩
  have HX2 := Lib.hid (heap_alloc_new w1 (.cells #[.string s, .bool false] 261))
  have HR2 := Lib.hid (keepA (.cells #[.string s, .bool false] 261) HR1.out)
  have HB2 := Lib.hid (HB1.out.alloc HB1.out.size (.cells #[.string s, .bool false] 261))
  generalize w1.alloc (.cells #[.string s, .bool false] 261) = w2 at *
  have hrb : w.heap.size < w1.heap.size := by have := lt_some HR1.out; omega
  generalize w1.heap.size = rb at *
  go_wp2_with fail
  refine (HNUM.out rb w2 HX2.out).mono ?_
  rintro e w3 ⟨rfl, hx3, ho3⟩
  have HX3 := Lib.hid hx3
  have HR3 := Lib.hid ((ho3.block _ (by omega)).trans HR2.out)
  have HB3 := Lib.hid (HB2.out.trans (ho3.below (by omega)))
  clear hx3 ho3
  go_wp2_with fail
  refine (wofword_any _ _).mono ?_
  rintro e w4 ⟨rfl, hb4⟩
  dsimp only [WI.v]
  go_wp2_with fail
  have hs4 : rb < w4.heap.size := lt_some (keep hb4 HX3.out)
  have HN5 := Lib.hid (heap_alloc_new w4 (.cells #[.bool false, .int .u64 0, .int .u64 (n : Int)] 148))
  have HR5 := Lib.hid (keepA (.cells #[.bool false, .int .u64 0, .int .u64 (n : Int)] 148) (keep hb4 HR3.out))
  have HX5 := Lib.hid (keepA (.cells #[.bool false, .int .u64 0, .int .u64 (n : Int)] 148) (keep hb4 HX3.out))
  have HB4 := HB3.out.trans (hb4.mono HB3.out.size)
  have HB5 := Lib.hid (HB4.alloc HB4.size (.cells #[.bool false, .int .u64 0, .int .u64 (n : Int)] 148))
  clear hb4 HB4
  generalize w4.alloc (.cells #[.bool false, .int .u64 0, .int .u64 (n : Int)] 148) = w5 at *
  generalize w4.heap.size = xb at *
  have HFL := Lib.hid (fun s => fldShape s (kSize k) (kSig k))
  rw [HU.out] at HFL
  refine wp_region_frame (by kernel_rfl) (by kernel_rfl) (by kernel_rfl) (byList (get_si k n q true)) (lasts_list (get_si_lasts k n q true)) ?_ ?_
  · intro vs w' iq o A F hb ho hd
    have m0 : A.tmps[0]?.getD undef = (.int .i64 k) := F.m (by kernel_rfl) rfl
    have m8 : A.tmps[8]?.getD undef = (.pointer (some ⟨xb, 0, none⟩)) := F.m (by kernel_rfl) rfl
    have G := F.light (n := 57) (by kernel_rfl)
    clear F
    have hn6 := keep hb HN5.out
    have z0 := cell_at hn6 0
    have z1 := cell_at hn6 1
    have z2 := cell_at hn6 2
    simp at z0 z1 z2
    clear hb hn6
    revert ho hd
    match iq with
    | 0 =>
      intro ho hd
      obtain rfl := (Option.some.inj ho).symm
      clear hd ho
      refine step_open rfl ?_
      clear G
      exact step_run (v := (.int .i64 k)) (by go_simp) rfl
    | 1 =>
      intro ho hd
      obtain rfl := (Option.some.inj ho).symm
      have d0 : vs 0 = (.int .i64 k) := hd ⟨0, .data⟩ (by simp) rfl
      clear hd ho
      have h21 := G.h (j := 0) (d := 21) rfl (by decide) d0
      refine step_open rfl ?_
      clear G
      go_simp
      refine (of_named _ _ h1 h2).mono ?_
      rintro e w2 ⟨rfl, hb2⟩
      rw [HU.out]
      exact ⟨_, rfl, rfl, hb2⟩
    | 2 =>
      intro ho hd
      obtain rfl := (Option.some.inj ho).symm
      have d1 : vs 1 = (.agg #[.string (kNm k), .int .i64 (kSize k), .bool true]) := hd ⟨1, .data⟩ (by simp) rfl
      clear hd ho
      have h22 := G.h (j := 1) (d := 22) rfl (by decide) d1
      refine step_open rfl ?_
      clear G
      have hfld := HFL.out (kNm k)
      exact step_run (v := (.bool true)) (by go_simp) rfl
    | 3 =>
      intro ho hd
      obtain rfl := (Option.some.inj ho).symm
      have d2 : vs 2 = (.bool true) := hd ⟨2, .data⟩ (by simp) rfl
      clear hd ho
      have h23 := G.h (j := 2) (d := 23) rfl (by decide) d2
      refine step_open rfl ?_
      clear G
      exact step_run (v := (.bool true)) (by go_simp) rfl
    | 4 =>
      intro ho hd
      obtain rfl := (Option.some.inj ho).symm
      have d3 : vs 3 = (.bool true) := hd ⟨3, .guard⟩ (by simp) rfl
      clear hd ho
      refine step_yes G rfl rfl (by decide) d3 ?_
      clear G
      exact step_run (v := (.agg #[.bool false, .int .u64 0, .int .u64 (n : Int)])) (by go_simp) rfl
    | 5 =>
      intro ho hd
      obtain rfl := (Option.some.inj ho).symm
      have d3 : vs 3 = (.bool true) := hd ⟨3, .guard⟩ (by simp) rfl
      clear hd ho
      refine step_yes G rfl rfl (by decide) d3 ?_
      clear G
      exact step_run (v := (.int .i64 k)) (by go_simp) rfl
    | 6 =>
      intro ho hd
      obtain rfl := (Option.some.inj ho).symm
      have d5 : vs 5 = (.int .i64 k) := hd ⟨5, .data⟩ (by simp) rfl
      have d3 : vs 3 = (.bool true) := hd ⟨3, .guard⟩ (by simp) rfl
      clear hd ho
      have h26 := G.h (j := 5) (d := 26) rfl (by decide) d5
      refine step_yes G rfl rfl (by decide) d3 ?_
      clear G
      go_simp
      refine (greatest_any k _ h1 h2).mono ?_
      rintro e w2 ⟨rfl, hb2⟩
      exact ⟨_, rfl, rfl, hb2⟩
    | 7 =>
      intro ho hd
      obtain rfl := (Option.some.inj ho).symm
      have d4 : vs 4 = (.agg #[.bool false, .int .u64 0, .int .u64 (n : Int)]) := hd ⟨4, .data⟩ (by simp) rfl
      have d6 : vs 6 = (.agg #[.bool false, .int .u64 0, .int .u64 (kMax k)]) := hd ⟨6, .data⟩ (by simp) rfl
      have d3 : vs 3 = (.bool true) := hd ⟨3, .guard⟩ (by simp) rfl
      clear hd ho
      have h25 := G.h (j := 4) (d := 25) rfl (by decide) d4
      have h27 := G.h (j := 6) (d := 27) rfl (by decide) d6
      refine step_yes G rfl rfl (by decide) d3 ?_
      clear G
      go_simp
      refine (wcmp_any ⟨false, 0, n⟩ (greatW k) _ HWN.out (greatW_wf k)).mono ?_
      rintro e w2 ⟨rfl, hb2⟩
      rw [← HQ.out]
      exact ⟨_, rfl, rfl, hb2⟩
    | 8 =>
      intro ho hd
      obtain rfl := (Option.some.inj ho).symm
      have d7 : vs 7 = (.int .i64 q) := hd ⟨7, .data⟩ (by simp) rfl
      have d3 : vs 3 = (.bool true) := hd ⟨3, .guard⟩ (by simp) rfl
      clear hd ho
      have h28 := G.h (j := 7) (d := 28) rfl (by decide) d7
      refine step_yes G rfl rfl (by decide) d3 ?_
      clear G
      have hgt := HGT.out
      exact step_run (v := (.bool true)) (by go_simp) rfl
    | 9 =>
      intro ho hd
      obtain rfl := (Option.some.inj ho).symm
      have d3 : vs 3 = (.bool true) := hd ⟨3, .data⟩ (by simp) rfl
      have d8 : vs 8 = (.bool true) := hd ⟨8, .data⟩ (by simp) rfl
      clear hd ho
      have h24 := G.h (j := 3) (d := 24) rfl (by decide) d3
      have h29 := G.h (j := 8) (d := 29) rfl (by decide) d8
      refine step_open rfl ?_
      clear G
      exact step_run (v := (.bool true)) (by go_simp) rfl
    | n + 10 =>
      intro ho hd
      simp at ho
  intro vs w6 hb hR
  have hv : vs 9 = .bool true := hR 9 (by simp)
  have HX6 := Lib.hid (keep hb HX5.out)
  have HR6 := Lib.hid (keep hb HR5.out)
  have HN6 := Lib.hid (keep hb HN5.out)
  have HB6 := Lib.hid (HB5.out.trans (hb.mono HB5.out.size))
  simp only [putAll, Act.put, List.setIfInBounds_toArray, List.set_cons_succ, List.set_cons_zero]
  rw [hv]
  generalize vs 0 = y0
  generalize vs (0 + 1) = y1
  generalize vs (0 + 1 + 1) = y2
  generalize vs (0 + 1 + 1 + 1) = y3
  generalize vs (0 + 1 + 1 + 1 + 1) = y4
  generalize vs (0 + 1 + 1 + 1 + 1 + 1) = y5
  generalize vs (0 + 1 + 1 + 1 + 1 + 1 + 1) = y6
  generalize vs (0 + 1 + 1 + 1 + 1 + 1 + 1 + 1) = y7
  generalize vs (0 + 1 + 1 + 1 + 1 + 1 + 1 + 1 + 1) = y8
  clear hR hb hv
  have n0 := cell_at HN6.out 0
  have n1 := cell_at HN6.out 1
  have n2 := cell_at HN6.out 2
  simp at n0 n1 n2
  go_upto_region 7 with (fail)
  have hB0 : w.heap.size ≤ w6.heap.size := HB6.out.size
  have hxw : xb < w6.heap.size := lt_some HN6.out
  have HW8 := Lib.hid hwr
  clear hwr
  have hwr := HW8.out
  go_cut [] from 31 to 40 (fun wx => wx.heap[xb]? = some (.cells #[.bool rn, .int .u64 rh, .int .u64 rl] 148 (0, 0)) ∧ wx.heap[rb]? = some (.cells #[.string ⟨#[]⟩, .bool false] 261 (0, 0)) ∧ wx.heap[w.heap.size]? = some (.cells #[.bool false, .int .u64 0, .int .u64 0] 148 (0, 0)) ∧ Below w.heap.size w wx)
  case first =>
    go_region_with (first
      | (go_at_call 144; refine (power_any _ _ HP8.out).mono ?_; rintro e w7 ⟨rfl, rfl⟩; rw [HP.out])
      | (go_at_call 116; refine (wofword_any _ _).mono ?_; rintro e w7 ⟨rfl, hb7⟩; dsimp only [WI.v]; have HB7 := Lib.hid (show Below w6.heap.size w6 w7 from ((Below.refl w6.heap.size w6).drew).trans (hb7.mono (by simp))); clear hb7; have z0 := cell_at (keep HB7.out HN6.out) 0; have z1 := cell_at (keep HB7.out HN6.out) 1; have z2 := cell_at (keep HB7.out HN6.out) 2; simp at z0 z1 z2)
      | (go_at_call 152; refine (HS1.out _).mono ?_; rintro e w8 ⟨rfl, hb8⟩; dsimp only [WI.v]; have HB8 := Lib.hid (HB7.out.trans (hb8.mono HB7.out.size)); clear hb8; have hn8 := keep HB8.out HN6.out; have g0 := free_at hn8 0; have g1 := free_at hn8 1; have g2 := free_at hn8 2; have q0 := cell_at hn8 0; have q1 := cell_at hn8 1; have q2 := cell_at hn8 2; simp at q0 q1 q2))
    all_goals
      go_wp2_with fail
      go_meet
      refine ⟨?_, ?_, ?_, ?_⟩
      · rw [hset _ _ _ _ _ _ _ (hset _ _ _ _ _ _ _ (hset _ _ _ _ _ _ _ hn8))]; rfl
      · rw [hset_ne _ _ _ _ (show rb ≠ xb by omega), hset_ne _ _ _ _ (show rb ≠ xb by omega), hset_ne _ _ _ _ (show rb ≠ xb by omega)]; exact keep HB8.out HX6.out
      · rw [hset_ne _ _ _ _ (show w.heap.size ≠ xb by omega), hset_ne _ _ _ _ (show w.heap.size ≠ xb by omega), hset_ne _ _ _ _ (show w.heap.size ≠ xb by omega)]; exact keep HB8.out HR6.out
      · exact (((HB6.out.trans (HB8.out.mono HB6.out.size)).setCell (show w.heap.size ≤ xb by omega) _).setCell (show w.heap.size ≤ xb by omega) _).setCell (show w.heap.size ≤ xb by omega) _
  case rest =>
    obtain ⟨hn9, hx9, hr9, hb9⟩ := hcut
    have HN9 := Lib.hid hn9
    have HX9 := Lib.hid hx9
    have HR9 := Lib.hid hr9
    have HB9 := Lib.hid hb9
    have n0 := cell_at hn9 0
    have n1 := cell_at hn9 1
    have n2 := cell_at hn9 2
    simp at n0 n1 n2
    have hB9 : w.heap.size ≤ wc.heap.size := hb9.size
    have hxwc : xb < wc.heap.size := lt_some hn9
    clear hn9 hx9 hr9 hb9
    go_upto_region 8 with (fail)
    go_cut [] from 40 to 46 (fun wx => wx.heap[xb]? = some (.cells #[.bool true, .int .u64 0, .int .u64 (P - n + 1)] 148 (0, 0)) ∧ wx.heap[rb]? = some (.cells #[.string ⟨#[]⟩, .bool false] 261 (0, 0)) ∧ wx.heap[w.heap.size]? = some (.cells #[.bool false, .int .u64 0, .int .u64 0] 148 (0, 0)) ∧ Below w.heap.size w wx)
    case first =>
      go_region_with (first
        | (go_at_call 73; refine (wof_pos 1 _ (by omega) (by omega)).mono ?_; rintro e w7 ⟨rfl, hb7⟩; dsimp only [WI.v]; have HB7 := Lib.hid (show Below wc.heap.size wc w7 from ((Below.refl wc.heap.size wc).drew).trans (hb7.mono (by simp))); clear hb7; have z0 := cell_at (keep HB7.out HN9.out) 0; have z1 := cell_at (keep HB7.out HN9.out) 1; have z2 := cell_at (keep HB7.out HN9.out) 2; simp at z0 z1 z2)
        | (go_at_call 152; refine (HS2.out _).mono ?_; rintro e w8 ⟨rfl, hb8⟩; dsimp only [WI.v]; have HB8 := Lib.hid (HB7.out.trans (hb8.mono HB7.out.size)); clear hb8; have hn8 := keep HB8.out HN9.out; have g0 := free_at hn8 0; have g1 := free_at hn8 1; have g2 := free_at hn8 2; have q0 := cell_at hn8 0; have q1 := cell_at hn8 1; have q2 := cell_at hn8 2; simp at q0 q1 q2))
      all_goals
        go_wp2_with fail
        go_meet
        refine ⟨?_, ?_, ?_, ?_⟩
        · rw [hset _ _ _ _ _ _ _ (hset _ _ _ _ _ _ _ (hset _ _ _ _ _ _ _ hn8))]; rfl
        · rw [hset_ne _ _ _ _ (show rb ≠ xb by omega), hset_ne _ _ _ _ (show rb ≠ xb by omega), hset_ne _ _ _ _ (show rb ≠ xb by omega)]; exact keep HB8.out HX9.out
        · rw [hset_ne _ _ _ _ (show w.heap.size ≠ xb by omega), hset_ne _ _ _ _ (show w.heap.size ≠ xb by omega), hset_ne _ _ _ _ (show w.heap.size ≠ xb by omega)]; exact keep HB8.out HR9.out
        · exact (((HB9.out.trans (HB8.out.mono HB9.out.size)).setCell (show w.heap.size ≤ xb by omega) _).setCell (show w.heap.size ≤ xb by omega) _).setCell (show w.heap.size ≤ xb by omega) _
    case rest =>
      obtain ⟨hn10, hx10, hr10, hb10⟩ := hcut
      have HN10 := Lib.hid hn10
      have HX10 := Lib.hid hx10
      have HR10 := Lib.hid hr10
      have HB10 := Lib.hid hb10
      clear n0 n1 n2
      have n0 := cell_at hn10 0
      have n1 := cell_at hn10 1
      have n2 := cell_at hn10 2
      simp at n0 n1 n2
      clear hn10 hx10 hr10 hb10
      go_wp2_with fail
      refine (rDone_any rb _ _ HX10.out rfl).mono ?_
      rintro e w7 ⟨rfl, rfl⟩
      go_wp2_with fail
      refine (fits_any k ⟨true, 0, P - n + 1⟩ _ HWF.out).mono ?_
      rintro e w7 ⟨rfl, hb7⟩
      rw [HF.out]
      have hn7 := keep hb7 HN10.out
      have hr7 := keep hb7 HR10.out
      have HB7 := Lib.hid (HB10.out.trans (hb7.mono HB10.out.size))
      have a0 := cell_at hn7 0
      have a1 := cell_at hn7 1
      have a2 := cell_at hn7 2
      have g0 := free_at hr7 0
      have g1 := free_at hr7 1
      have g2 := free_at hr7 2
      have q0 := cell_at hr7 0
      have q1 := cell_at hr7 1
      have q2 := cell_at hr7 2
      simp at a0 a1 a2 q0 q1 q2
      clear hb7
      go_wp2_with fail
      refine bodyPost_ret (v := .tuple #[.agg #[.bool true, .int .u64 0, .int .u64 (P - n + 1)], .int .i64 0]) (by simp [results, Tryz.results124, go_sem, q0, q1, q2]) rfl ?_
      exact ⟨rfl, ((HB7.out.setCell (by simp) _).setCell (by simp) _).setCell (by simp) _⟩
end Go.Proofs.YtoadihebdaooaaaGreat
namespace Go.Proofs.YtoadihebdaooaaaGreat
open Go.RowKit
set_option linter.unusedVariables false
theorem leV_snoc (b : UInt8) : ∀ l : List UInt8, leV (l ++ [b]) = leV l + 256 ^ l.length * b.toNat
  | [] => by simp [leV]
  | a :: l => by
    simp only [List.cons_append, leV, leV_snoc b l, List.length_cons, Nat.pow_succ]
    rw [Nat.mul_add, Nat.mul_comm (256 ^ l.length) 256, Nat.mul_assoc]
    omega
theorem leV_leB (n : Nat) : ∀ k, leV (leB n k) = n % 256 ^ k
  | 0 => by simp [leB, leV, Nat.mod_one]
  | k + 1 => by
    rw [leB, leV_snoc, leV_leB n k, leB_len, Nat.mod_pow_succ]
    rfl
theorem leV_putB (k : Int) (x : WI) : leV (putB k x) = putN k x := by
  unfold putB
  rw [leV_leB, Nat.mod_eq_of_lt (putN_lt k x)]
theorem pow_kMax {k : Int} (h1 : 1 ≤ k) (h2 : k ≤ 10) : kMax k < 2 ^ (8 * (kSize k).toNat) ∧ (kSig k = true → (2 : Int) ^ (8 * (kSize k).toNat) = 2 * kMax k + 2) := by
  have h' : k = 1 ∨ k = 2 ∨ k = 3 ∨ k = 4 ∨ k = 5 ∨ k = 6 ∨ k = 7 ∨ k = 8 ∨ k = 9 ∨ k = 10 := by omega
  rcases h' with rfl | rfl | rfl | rfl | rfl | rfl | rfl | rfl | rfl | rfl <;> exact ⟨by decide, by decide⟩
theorem get_any (k : Int) (x : WI) (w : World) (hx : x.wf) (hf : fitsF k x = true) : Calls Tryz.prog 124 #[.int .i64 k, .string ⟨(putB k x).toArray⟩] w fun e w' => e = .returned (.tuple #[x.v, .int .i64 0]) ∧ Below w.heap.size w w' := by
  have hhi := fits_hi hx hf
  have hf' := hf
  unfold fitsF at hf'
  simp only [Bool.and_eq_true, decide_eq_true_eq] at hf'
  obtain ⟨⟨⟨hk, hfo⟩, hlo⟩, hup⟩ := hf'
  have hk' : 1 ≤ k ∧ k ≤ 10 := by simpa [kindB] using hk
  obtain ⟨h1, h2⟩ := hk'
  obtain ⟨c, hc⟩ : ∃ c : Nat, kSize k = (c : Int) := ⟨(kSize k).toNat, by have := kSize_bd k; omega⟩
  have hs : (⟨(putB k x).toArray⟩ : ByteArray).size = c := by
    show (putB k x).toArray.size = c
    rw [List.size_toArray]; unfold putB; rw [leB_len]; omega
  have hn : leV (⟨(putB k x).toArray⟩ : ByteArray).data.toList = putN k x := by show leV (putB k x).toArray.toList = _; rw [List.toList_toArray]; exact leV_putB k x
  obtain ⟨hp1, hp2⟩ := pow_kMax h1 h2
  obtain ⟨n, hi, lo⟩ := x
  dsimp only at hhi
  subst hhi
  obtain ⟨_, hw0, hw1⟩ := hx
  dsimp only at hw0 hw1
  have hm := (kMax_bd k).1
  cases n
  · have hv : WI.val ⟨false, 0, lo⟩ = lo := by simp [WI.val]
    rw [hv] at hup hlo
    have hpn : putN k ⟨false, 0, lo⟩ = lo.toNat := by unfold putN; rw [hv, Int.emod_eq_of_lt hw0 (by omega)]
    rw [hpn] at hn
    obtain ⟨m, rfl⟩ := Int.eq_ofNat_of_zero_le hw0
    rw [Int.toNat_natCast] at hn
    cases hu : kSig k
    · exact get_stay k _ c m w h1 h2 hc hs hn hu hf ⟨⟨by simp, by simp⟩, hw0, hw1⟩
    · exact get_low k _ c m w h1 h2 hc hs hn hu hup hf ⟨⟨by simp, by simp⟩, hw0, hw1⟩
  · have hv : WI.val ⟨true, 0, lo⟩ = -lo := by simp [WI.val]
    rw [hv] at hup hlo
    have hl0 : lo ≠ 0 := by
      intro h
      subst h
      simp [WI.form] at hfo
    have hu : kSig k = true := by
      cases hu : kSig k
      · unfold kMin at hlo; rw [hu] at hlo; simp at hlo; omega
      · rfl
    have hlo' : lo ≤ kMax k + 1 := by unfold kMin at hlo; rw [hu] at hlo; simp at hlo; omega
    have hpw := hp2 hu
    have hPe : pMax ((c : Int) * 8) = 2 * kMax k + 1 := pMax_half hu hc rfl
    have hpn : putN k ⟨true, 0, lo⟩ = (2 * kMax k + 2 - lo).toNat := by
      unfold putN
      rw [hv, hpw, show -lo % (2 * kMax k + 2) = 2 * kMax k + 2 - lo from by rw [← Int.add_mul_emod_self_left (-lo) (2 * kMax k + 2) 1, Int.emod_eq_of_lt (by omega) (by omega)]; omega]

    rw [hpn] at hn
    obtain ⟨m, hm2⟩ : ∃ m : Nat, (m : Int) = 2 * kMax k + 2 - lo := ⟨(2 * kMax k + 2 - lo).toNat, by omega⟩
    have hmn : (2 * kMax k + 2 - lo).toNat = m := by omega
    rw [hmn] at hn
    have he : (2 * kMax k + 1) - (m : Int) + 1 = lo := by omega
    have := get_neg k _ c m w h1 h2 hc hs hn hu (by omega) (2 * kMax k + 1) hPe (by omega) (by rw [he]; exact hf) (by rw [he]; exact ⟨⟨by simp, by simp⟩, hw0, hw1⟩)
    rw [he] at this
    exact this
end Go.Proofs.YtoadihebdaooaaaGreat
namespace Go.Proofs.YtoadihebdaooaaaGreat
open Go.RowKit
set_option linter.unusedVariables false
theorem packPre_pre (fs : List Fld) : ∀ q : (List Int × Int × Int) × List UInt8 × List WI, ∃ t, (fs.foldl packStep q).2.1 = q.2.1 ++ t := by
  induction fs with
  | nil => intro q; exact ⟨[], by simp⟩
  | cons f r ih =>
    intro q
    obtain ⟨t, ht⟩ := ih (packStep q f)
    rw [List.foldl_cons, ht]
    simp only [packStep, padB, List.append_assoc]
    exact ⟨_, rfl⟩
theorem packPre_split (fs : List Fld) (k : Nat) (val : List WI) : packPre fs val = (fs.drop k).foldl packStep (packPre (fs.take k) val) := by
  rw [packPre, packPre, ← List.foldl_append, List.take_append_drop]
theorem drop_app {α : Type} (l t : List α) (n c : Nat) (h : l.length = n) : (l ++ t).drop (n + c) = t.drop c := by
  subst h
  rw [← List.drop_drop]
  simp
theorem flat_at (k : Int) : ∀ (l : List WI) (m : Nat) (x : WI) (t : List UInt8), l[m]? = some x → ((l.flatMap (putB k) ++ t).drop (m * (kSize k).toNat)).take (kSize k).toNat = putB k x
  | [], _, _, _, h => by simp at h
  | y :: r, 0, x, t, h => by
    simp at h
    subst h
    rw [Nat.zero_mul, List.drop_zero, List.flatMap_cons, List.append_assoc, List.take_append_of_le_length (by rw [putB_len]; exact Nat.le_refl _), List.take_of_length_le (by rw [putB_len]; exact Nat.le_refl _)]
  | y :: r, m + 1, x, t, h => by
    rw [List.flatMap_cons, List.append_assoc, Nat.succ_mul, Nat.add_comm (m * _), drop_app _ _ _ _ (putB_len k y)]
    exact flat_at k r m x t (by simpa using h)
theorem elem_at {fs : List Fld} {val : List WI} (hfit : fitF fs val = 0) {k : Nat} {f : Fld} (hf : fs[k]? = some f) {n : Nat} (hn : upF (planF (fs.take k)).2.1 (kSize f.kind) = n) {m : Nat} (hm : m < f.count.toNat) {x : WI} (hx : val[cnt (fs.take k) + m]? = some x) :
    ((packF fs val).drop (n + m * (kSize f.kind).toNat)).take (kSize f.kind).toNat = putB f.kind x ∧ n + m * (kSize f.kind).toNat + (kSize f.kind).toNat ≤ (packF fs val).length := by
  obtain ⟨hl, hcn, hgo⟩ := fit_zero hfit
  obtain ⟨h8, hall, h256⟩ := layCheck_zero hl
  have hfo : fldOk f = true := by rw [List.all_eq_true] at hall; exact hall f (List.mem_of_getElem? hf)
  obtain ⟨ks1, ks2, f1, f2⟩ := fldOk_bd hfo
  have hk8 : (fs.take k).length ≤ 8 := by rw [List.length_take]; omega
  obtain ⟨p0, p1, p2, p3⟩ := plan_bd hk8 (all_take hall k)
  obtain ⟨u1, u2, u3⟩ := upF_eq p0 (by omega) ks1 ks2
  obtain ⟨hpl, hrest⟩ := pack_len _ (fs.take k) rfl hk8 (all_take hall k) val (by have := cnt_take_le (fs := fs) k; omega)
  obtain ⟨t, ht⟩ := packPre_pre (fs.drop (k + 1)) (packPre (fs.take (k + 1)) val)
  rw [← packPre_split] at ht
  have hstep : (packPre (fs.take (k + 1)) val).2.1 = padB (packPre (fs.take k) val).2.1 n ++ ((val.drop (cnt (fs.take k))).take f.count.toNat).flatMap (putB f.kind) := by
    rw [take_snoc hf, packPre_snoc]
    unfold packStep
    rw [hrest, packPre_fst, hn]
    rfl
  have hlen : (padB (packPre (fs.take k) val).2.1 n).length = n := padB_len (by omega)
  have hx' : ((val.drop (cnt (fs.take k))).take f.count.toNat)[m]? = some x := by
    rw [List.getElem?_take, if_pos hm, List.getElem?_drop]; exact hx
  have hfull : packF fs val = padB (packPre (fs.take k) val).2.1 n ++ (((val.drop (cnt (fs.take k))).take f.count.toNat).flatMap (putB f.kind) ++ (t ++ List.replicate ((planSize fs).toNat - (packPre fs val).2.1.length) 0)) := by
    unfold packF
    rw [padB, ht, hstep, List.append_assoc, List.append_assoc]
  have hml : m < ((val.drop (cnt (fs.take k))).take f.count.toNat).length := (List.getElem?_eq_some_iff.1 hx').1
  refine ⟨?_, ?_⟩
  · rw [hfull, drop_app _ _ _ _ hlen]
    exact flat_at _ _ _ _ _ hx'
  · rw [hfull, List.length_append, hlen, List.length_append, flat_len]
    have : (m + 1) * (kSize f.kind).toNat ≤ ((val.drop (cnt (fs.take k))).take f.count.toNat).length * (kSize f.kind).toNat := Nat.mul_le_mul (by omega) (Nat.le_refl _)
    rw [Nat.succ_mul] at this
    omega
theorem bytes_extract (l : List UInt8) (a c : Nat) : (⟨l.toArray⟩ : ByteArray).extract a (a + c) = ⟨((l.drop a).take c).toArray⟩ := by
  apply ByteArray.ext
  rw [ByteArray.data_extract]
  show l.toArray.extract a (a + c) = _
  rw [List.extract_toArray, List.extract_eq_take_drop]
  congr 2
  omega
end Go.Proofs.YtoadihebdaooaaaGreat
namespace Go.Proofs.YtoadihebdaooaaaGreat
open Go.RowKit
set_option linter.unusedVariables false
theorem Tryz.info148 : (Tryz.prog.info? 148).map (fun i => (i.zero, i.size, i.bytes)) = some (some (.agg #[.bool false, .int .u64 0, .int .u64 0]), 3, 24) := by kernel_rfl
/-- A great number's cells. -/
def intL (x : WI) : List Value := [.bool x.neg, .int .u64 x.hi, .int .u64 x.lo]
theorem intL_len (l : List WI) : (l.flatMap intL).length = l.length * 3 := by
  induction l with
  | nil => rfl
  | cons x r ih => rw [List.flatMap_cons, List.length_append, ih, List.length_cons, Nat.succ_mul]; simp [intL]; omega
theorem intL_at : ∀ (l : List WI) (i : Nat) (x : WI), l[i]? = some x → (l.flatMap intL)[i * 3]? = some (.bool x.neg) ∧ (l.flatMap intL)[i * 3 + 1]? = some (.int .u64 x.hi) ∧ (l.flatMap intL)[i * 3 + 2]? = some (.int .u64 x.lo)
  | [], _, _, h => by simp at h
  | y :: r, 0, x, h => by
    simp at h
    subst h
    exact ⟨rfl, rfl, rfl⟩
  | y :: r, i + 1, x, h => by
    obtain ⟨h1, h2, h3⟩ := intL_at r i x (by simpa using h)
    rw [show (i + 1) * 3 = i * 3 + 3 by omega]
    exact ⟨h1, h2, h3⟩
theorem own_ints {B : Nat} {w : World} {va : Option Addr} {n vc : Nat} {xs : List WI} (h : w.ownsRow B 148 3 (.slice va n vc) n (xs.flatMap intL)) (hn : xs.length = n) (hw : ∀ x ∈ xs, x.wf) : IntsAt w.heap.size w va n vc xs := by
  refine ⟨hn, ?_⟩
  rcases h.2 with ⟨he, rfl⟩ | ⟨g, cap, cur, he, hg, hc, h1, h2, h3, h4⟩
  · cases he
    exact ⟨Nat.le_refl _, Nat.zero_le _, hw, .inl rfl⟩
  · cases he
    refine ⟨h1, h2, hw, .inr ⟨g, 0, rfl, lt_some hc, fun i x hx => ?_⟩⟩
    obtain ⟨q0, q1, q2⟩ := intL_at xs i x hx
    have hat : ∀ (j : Nat) (u : Value), (xs.flatMap intL)[j]? = some u → w.cell? ⟨g, j, none⟩ = some u := by
      intro j u hu
      rw [cell_at hc]
      rw [← h4, List.getElem?_take] at hu
      split at hu
      · simpa using hu
      · cases hu
    refine ⟨?_, ?_, ?_⟩
    · rw [Nat.zero_add]; exact hat _ _ q0
    · rw [Nat.zero_add]; exact hat _ _ q1
    · rw [Nat.zero_add]; exact hat _ _ q2
theorem take_flat {xs : List WI} {m : Nat} {x : WI} (h : xs[m]? = some x) : (xs.take (m + 1)).flatMap intL = (xs.take m).flatMap intL ++ intL x := by rw [take_snoc h, List.flatMap_append]; simp
/-- A new block of a great number. -/
theorem own_keep {w w' : World} {b : Nat} {e e' : TypeId} {s : Nat} {v : Value} {n : Nat} {xs : List Value} (h : w.ownsRow b e s v n xs) (hg : w.grownBy w' v.ownBlock) {g : Nat} {cs : Array Value} {fz : Nat × Nat} (hc : w.heap[g]? = some (.cells cs e' fz)) (hne : e' ≠ e) : w'.heap[g]? = some (.cells cs e' fz) :=
  keepG hg hc (ownsRow_ne_block h hc (fun cur he => by cases he; exact hne rfl))
theorem below_own {B : Nat} {w w' : World} {e : TypeId} {s : Nat} {v : Value} {n : Nat} {xs : List Value} (h : w.ownsRow B e s v n xs) (hg : w.grownBy w' v.ownBlock) (hB : B ≤ w.heap.size) : Below B w w' :=
  (Below.refl B w).grown hg hB (fun x hx => by
    rcases h.2 with ⟨rfl, _⟩ | ⟨g, cap, cur, rfl, hbg, _⟩
    · simp [Value.ownBlock] at hx
    · simp [Value.ownBlock] at hx; omega)
theorem ret_sli {va : Option Addr} {n vc : Nat} {a b : Int} (h2 : a = b) : Ending.returned (.tuple #[.slice va n vc, .int .i64 a]) = .returned (.tuple #[.slice va n vc, .int .i64 b]) := by rw [h2]
set_option maxRecDepth 100000 in
set_option maxHeartbeats 2000000 in
theorem unpack_ok (fs : List Fld) (a : Option Addr) (len cap : Nat) (val : List WI) (w : World) (hfs : FieldsAt w.heap.size w a len fs) (hc : len ≤ cap) (hwf : ∀ x ∈ val, x.wf) (hfit : fitF fs val = 0) :
    Calls Tryz.prog 85 #[.slice a len cap, .string ⟨(packF fs val).toArray⟩] w fun e w' => ∃ va vc, e = .returned (.tuple #[.slice va val.length vc, .int .i64 0]) ∧ w'.ownsRow w.heap.size 148 3 (.slice va val.length vc) val.length (val.flatMap intL) ∧ Below w.heap.size w w' := by
  have hmx : len ≤ maxLen := hfs.2.1
  have hlen := hfs.1
  obtain ⟨hl, hcn, hgo⟩ := fit_zero hfit
  obtain ⟨h8, hall, h256⟩ := layCheck_zero hl
  have hcl := cnt_le fs hall
  obtain ⟨i0, hi, hz0, hz1, hz2⟩ := info_parts Tryz.info148
  obtain ⟨s, hs⟩ : ∃ s, s = (⟨(packF fs val).toArray⟩ : ByteArray) := ⟨_, rfl⟩
  rw [← hs]
  obtain ⟨p0, p1, p2, p3⟩ := plan_bd h8 hall
  obtain ⟨u1, u2, u3⟩ := upF_eq p0 (by omega) p2 p3
  obtain ⟨N, hN⟩ : ∃ N : Nat, planSize fs = N := ⟨(planSize fs).toNat, by unfold planSize; omega⟩
  have hN1 : N ≤ 1000 := by unfold planSize at hN; omega
  have hss : s.size = N := by
    rw [hs]; show (packF fs val).toArray.size = N
    rw [List.size_toArray, packF_len hl (by omega), hN]; rfl
  unfold maxLen at hmx
  have HFS := Lib.hid hfs
  have HLN := Lib.hid hlen
  have HLC := Lib.hid hl
  have HCN := Lib.hid hcn
  have HFIT := Lib.hid hfit
  have HS := Lib.hid hs
  have HSS := Lib.hid hss
  have HN := Lib.hid hN
  have HA := Lib.hid hall
  have HWF := Lib.hid hwf
  clear hfs hlen hl hcn hfit hs hss hN hall hgo hwf p0 p1 p2 p3 u1 u2 u3
  go_enter Tryz.func85, Tryz.ntmps85
  go_wp2_with fail
  refine (layOf_any fs _ _ _ _ HFS.out).mono ?_
  rintro e w1 ⟨pa, pn, pc, rfl, hb1, hown⟩
  obtain ⟨hpr, hpn⟩ := hown HLC.out
  have hpn' : pn = len := by rw [hpn]; exact HLN.out
  subst hpn'
  rw [HLC.out, show layPlanOf fs = (N : Int) from by unfold layPlanOf; rw [if_pos HLC.out]; exact HN.out]
  have e1 : ((s.size : Int) != (N : Int)) = false := by rw [HSS.out]; simp
  have HP := Lib.hid (heap_alloc_new w1 (.cells #[.int .i64 N, .slice pa pn pc] 154))
  have HBW := Lib.hid ((hb1.alloc hb1.size (.cells #[.int .i64 N, .slice pa pn pc] 154)))
  have HR := Lib.hid (hpr.alloc (.cells #[.int .i64 N, .slice pa pn pc] 154))
  have HZ := Lib.hid (World.size_alloc w1 (.cells #[.int .i64 N, .slice pa pn pc] 154))
  have hsz1 := hb1.size
  clear hown hpr hpn hb1
  go_wp2_with fail
  generalize w1.alloc (.cells #[.int .i64 N, .slice pa pn pc] 154) = W at *
  generalize w1.heap.size = PB at *
  go_loopw [8, 33] (fun v j wr => ∃ k : Nat, k ≤ pn ∧ j = .int .i64 (k : Int) ∧ ∃ va n vc, v = .slice va n vc ∧ n = cnt (fs.take k) ∧ wr.ownsRow W.heap.size 148 3 v n ((val.take n).flatMap intL) ∧ Below W.heap.size W wr) (fun _ j _ => pn - (intOf j).toNat)
  case atStart => exact ⟨0, by omega, rfl, none, 0, 0, rfl, by simp [cnt], ⟨by simp, .inl ⟨rfl, rfl⟩⟩, Below.refl _ _⟩
  case round =>
    obtain ⟨k, hk, rfl, va, n, vc, rfl, hn, hown, hbr⟩ := hrel
    by_cases hlt : k < pn
    · obtain ⟨b, off, f, rfl, hB, hf, c0, c1, c2'⟩ := HFS.out.get (HBW.out.trans (hbr.mono HBW.out.size)) hlt
      have hfo : fldOk f = true := by have h := HA.out; rw [List.all_eq_true] at h; exact h f (List.mem_of_getElem? hf)
      obtain ⟨ks1, ks2, f1, f2⟩ := fldOk_bd hfo
      obtain ⟨c, hc'⟩ : ∃ c : Nat, f.count = c := ⟨f.count.toNat, by omega⟩
      obtain ⟨cz, hcz⟩ : ∃ cz : Nat, kSize f.kind = cz := ⟨(kSize f.kind).toNat, by omega⟩
      have hct := cnt_take_succ hf
      have hcl2 := cnt_take_le (fs := fs) (k + 1)
      rw [hc', Int.toNat_natCast] at hct
      obtain ⟨q0, q1, q2, q3⟩ := plan_bd (show (fs.take k).length ≤ 8 by rw [List.length_take]; omega) (all_take HA.out k)
      obtain ⟨u1, u2, u3⟩ := upF_eq q0 (by omega) ks1 ks2
      obtain ⟨A, hA⟩ : ∃ A : Nat, upF (planF (fs.take k)).2.1 (kSize f.kind) = A := ⟨(upF (planF (fs.take k)).2.1 (kSize f.kind)).toNat, by omega⟩
      have hat := plan_at hf
      rw [hA] at hat
      have hel : ∀ m x, m < c → val[cnt (fs.take k) + m]? = some x → s.extract (A + m * cz) (A + m * cz + cz) = ⟨(putB f.kind x).toArray⟩ ∧ A + m * cz + cz ≤ N := by
        intro m x hm hx
        have := elem_at HFIT.out hf hA (m := m) (by rw [hc']; simpa using hm) hx
        rw [hcz, Int.toNat_natCast] at this
        refine ⟨?_, ?_⟩
        · rw [HS.out, bytes_extract, this.1]
        · have h2 := this.2
          rw [← List.size_toArray] at h2
          have h3 := HSS.out
          rw [HS.out] at h3
          have h4 : (packF fs val).toArray.size = N := h3
          omega
      have hel2 : ∀ m x, m < c → val[cnt (fs.take k) + m]? = some x → fitsF f.kind x = true := by
        intro m x hm hx
        have h := fitGo_at fs val k f (fit_zero HFIT.out).2.2 hf
        rw [List.all_eq_true] at h
        refine h x (List.mem_of_getElem? (i := m) ?_)
        rw [List.getElem?_take, if_pos (by rw [hc']; simpa using hm), List.getElem?_drop]
        exact hx
      have hpb := keep hbr HP.out
      have hz := hbr.size
      have hzW := HZ.out
      obtain ⟨q, rfl, hq, hqc⟩ : ∃ q, pa = some ⟨q, 0, none⟩ ∧ q < W.heap.size ∧ W.cell? ⟨q, k, none⟩ = some (.int .i64 A) := by
        obtain ⟨q, rfl, _, hq, hqc⟩ := row_block HR.out (by omega)
        exact ⟨q, rfl, hq, hqc k _ (by simp [hat])⟩
      rw [hc'] at f1 f2 c2'
      have HF := Lib.hid hf
      have HCZ := Lib.hid hcz
      have HEL := Lib.hid hel
      have HEL2 := Lib.hid hel2
      have HOW := Lib.hid (hown.alloc (.cells #[.string f.name, .int .i64 f.kind, .int .i64 (c : Int)] 123))
      have HBR := Lib.hid (hbr.alloc hz (.cells #[.string f.name, .int .i64 f.kind, .int .i64 (c : Int)] 123))
      have HH := Lib.hid (heap_alloc_new wr (.cells #[.string f.name, .int .i64 f.kind, .int .i64 (c : Int)] 123))
      have HQC := Lib.hid hqc
      have HNN := Lib.hid hn
      have HCT := Lib.hid hct
      have i1 : (0 : Int) ≤ (k : Int) := by omega
      have i2 : (k : Int) < (pn : Int) := by omega
      have z3 : b < wr.heap.size := by have := HBW.out.size; omega
      have hcz8 : 1 ≤ cz ∧ cz ≤ 8 := by omega
      clear hfo hc' hcz hct hA hat hel hel2 hpb hown hbr hn q0 q1 q2 q3 u1 u2 u3 hf hqc
      go_wp2_with fail
      have hbf := HBR.out
      have hof := HOW.out
      have hhf := HH.out
      have hzf := World.size_alloc wr (.cells #[.string f.name, .int .i64 f.kind, .int .i64 (c : Int)] 123)
      generalize wr.alloc (.cells #[.string f.name, .int .i64 f.kind, .int .i64 (c : Int)] 123) = wf at *
      obtain ⟨H, hH⟩ : ∃ H, wr.heap.size = H := ⟨_, rfl⟩
      rw [hH] at hhf hzf ⊢
      have hHW : W.heap.size ≤ H := by omega
      clear hH c0 c1 c2' z3 hz
      refine (size_any _ _).mono ?_
      rintro e w2 ⟨rfl, hb2⟩
      rw [HCZ.out]
      have HH2 := Lib.hid (keep hb2 hhf)
      have HO2 := Lib.hid (ownsRow_below hof hb2)
      have HB2 := Lib.hid (hbf.trans (hb2.mono hbf.size))
      have h2 := cell_at HH2.out 2
      simp at h2
      have hH2 := lt_some HH2.out
      clear hbf hof hhf hzf hb2 HH HOW HBR
      go_wp2_with fail
      clear h2
      go_loopw [8, 43] (fun v j ws => ∃ m : Nat, m ≤ c ∧ j = .int .i64 (m : Int) ∧ ∃ va n' vc, v = .slice va n' vc ∧ n' = n + m ∧ ws.ownsRow W.heap.size 148 3 v n' ((val.take n').flatMap intL) ∧ ws.heap[H]? = some (.cells #[.string f.name, .int .i64 f.kind, .int .i64 (c : Int)] 123 (0, 0)) ∧ Below W.heap.size W ws) (fun _ j _ => c - (intOf j).toNat)
      case atStart => exact ⟨0, by omega, rfl, va, n, vc, rfl, by omega, HO2.out, HH2.out, HB2.out⟩
      case round =>
        obtain ⟨m, hm, rfl, va, n', vc, rfl, hn', hown, hblk, hbs⟩ := hrel
        have hbelW := HBW.out.trans (hbs.mono HBW.out.size)
        have HOWN := Lib.hid hown
        have HBLK := Lib.hid hblk
        have HBS := Lib.hid hbs
        have HN' := Lib.hid hn'
        have hHs := lt_some hblk
        have hzs := hbs.size
        have hzW := HZ.out
        have hnn : n' ≤ 80 := by have := HCT.out; have := HNN.out; have := HCN.out; have := HLN.out; omega
        have k1 := cell_at hblk 1
        have k2 := cell_at hblk 2
        simp at k1 k2
        clear hown hblk hbs hn' hbelW
        by_cases hlt2 : m < c
        · obtain ⟨x, hx⟩ : ∃ x, val[n']? = some x := ⟨_, List.getElem?_eq_getElem (show n' < val.length by have := HCT.out; have := HNN.out; have := HCN.out; have := HN'.out; omega)⟩
          have hx' : val[cnt (fs.take k) + m]? = some x := by have := HN'.out; have := HNN.out; rw [show cnt (fs.take k) + m = n' by omega]; exact hx
          obtain ⟨hex, hle⟩ := HEL.out m x hlt2 hx'
          have hfx := HEL2.out m x hlt2 hx'
          have hxw := HWF.out x (List.mem_of_getElem? hx)
          have htk := take_flat hx
          obtain ⟨mc, hmc⟩ : ∃ mc : Nat, mc = m * cz := ⟨_, rfl⟩
          have hmc' : (m : Int) * (cz : Int) = (mc : Int) := by rw [hmc]; push_cast; rfl
          rw [← hmc] at hex hle
          obtain ⟨A2, hA2⟩ : ∃ A2 : Nat, A2 = A + mc := ⟨_, rfl⟩
          have hA2' : (A : Int) + (mc : Int) = (A2 : Int) := by omega
          rw [← hA2] at hex hle
          obtain ⟨A3, hA3⟩ : ∃ A3 : Nat, A3 = A2 + cz := ⟨_, rfl⟩
          have hA3' : (A2 : Int) + (cz : Int) = (A3 : Int) := by omega
          rw [← hA3] at hex hle
          have hpb := cell_at (keepB HBS.out HP.out (by omega)) 1
          simp at hpb
          have hqr := (HBS.out.cell (p := ⟨q, k, none⟩) hq).trans HQC.out
          have s0 : (0 : Int) ≤ (A2 : Int) := by omega
          have s1 : (A2 : Int) ≤ (A3 : Int) := by omega
          have s2 : (A3 : Int) ≤ (s.size : Int) := by have := HSS.out; omega
          have s3 : A2 ≤ A3 := by omega
          have hw3 : IntKind.i64.wrap ((A2 : Int) + (cz : Int)) = (A3 : Int) := by rw [hA3']; exact IntWalk.i64_in _ (by omega)
          have hw4 : IntKind.i64.wrap (A3 : Int) = (A3 : Int) := IntWalk.i64_in _ (by omega)
          have s4 : A3 ≤ s.size := by omega
          have z1 : q < wr.heap.size := by omega
          have z2 : PB < wr.heap.size := by omega
          have i3 : (0 : Int) ≤ (m : Int) := by omega
          have i4 : (m : Int) < (c : Int) := by omega
          have HX := Lib.hid hex
          have HFX := Lib.hid hfx
          have HXW := Lib.hid hxw
          have HTK := Lib.hid htk
          clear hx hx' hex hfx hxw htk hmc hA2 hA3
          obtain ⟨xn, xh, xl⟩ := x
          have HG : Hid (∀ W', Calls Tryz.prog 124 #[.int .i64 f.kind, .string (s.extract A2 A3)] W' fun e w' => e = .returned (.tuple #[.agg #[.bool xn, .int .u64 xh, .int .u64 xl], .int .i64 0]) ∧ Below W'.heap.size W' w') := Lib.hid (fun W' => by rw [HX.out]; exact get_any f.kind ⟨xn, xh, xl⟩ W' HXW.out HFX.out)
          go_upto_region 15 with (fail)
          go_cut [14, 15] from 44 to 73 (fun s14 s15 wx => ∃ xb, s14 = .pointer (some ⟨xb, 0, none⟩) ∧ s15 = .int .i64 0 ∧ wr.heap.size ≤ xb ∧ wx.heap[xb]? = some (.cells #[.bool xn, .int .u64 xh, .int .u64 xl] 148 (0, 0)) ∧ Below wr.heap.size wr wx)
          case first =>
            go_region_with (go_at_call 124; refine (HG.out _).mono ?_; rintro e wf ⟨rfl, hbf⟩; first | (have hz2 : wf.heap[wr.heap.size]? = some (.cells #[.bool false, .int .u64 0, .int .u64 0] 148 (0, 0)) := keep hbf (heap_alloc_new wr.drew (.cells #[.bool false, .int .u64 0, .int .u64 0] 148)); have q0 := cell_at hz2 0; have q1 := cell_at hz2 1; have q2 := cell_at hz2 2; have g0 := free_at hz2 0; have g1 := free_at hz2 1; have g2 := free_at hz2 2; simp at q0 q1 q2) | skip)
            all_goals go_wp2_with fail
            all_goals go_meet
            all_goals first
              | exact ⟨wf.heap.size, rfl, rfl, (undrew hbf).size, heap_alloc_new _ _, (undrew hbf).alloc (undrew hbf).size _⟩
              | exact ⟨wr.heap.size, rfl, rfl, Nat.le_refl _, (by rw [hset _ _ _ _ _ _ _ (hset _ _ _ _ _ _ _ (hset _ _ _ _ _ _ _ (show wf.heap[wr.heap.size]? = some (.cells #[.bool false, .int .u64 0, .int .u64 0] 148 (0, 0)) from hz2)))]; rfl),
                  ((((((Below.refl wr.heap.size wr).alloc (Nat.le_refl _) (.cells #[.bool false, .int .u64 0, .int .u64 0] 148)).trans ((undrew hbf).mono (by simp))).setCell (Nat.le_refl _) _).setCell (Nat.le_refl _) _).setCell (Nat.le_refl _) _)⟩
          case rest =>
            obtain ⟨xb, rfl, rfl, hxb, hxc, hbc⟩ := hcut
            have hown2 := ownsRow_below HOWN.out hbc
            have hblk2 := keep hbc HBLK.out
            have n0 := cell_at hxc 0
            have n1 := cell_at hxc 1
            have n2 := cell_at hxc 2
            simp at n0 n1 n2
            have hB2 := HBS.out.trans (hbc.mono hzs)
            have hzc := hB2.size
            have HOWN3 := Lib.hid (hown2.alloc (.cells #[.bool xn, .int .u64 xh, .int .u64 xl] 148))
            have HBLK3 := Lib.hid (keepA (.cells #[.bool xn, .int .u64 xh, .int .u64 xl] 148) hblk2)
            have HB3 := Lib.hid (hB2.alloc hzc (.cells #[.bool xn, .int .u64 xh, .int .u64 xl] 148))
            have HN1 := Lib.hid (And.intro (World.news_of_block (heap_alloc_new wc (.cells #[.bool xn, .int .u64 xh, .int .u64 xl] 148))) (show ∀ v ∈ (#[.bool xn, .int .u64 xh, .int .u64 xl] : Array Value).toList, v.oneCell' = true from List.all_eq_true.1 rfl))
            have hxl := lt_some hxc
            clear hown2 hblk2 hxc hbc hB2 k1 k2
            go_wp2_with (at_builtin; go_loud (refine wpList_append_own _ rfl (.tmp 69) (.tmp 71) 83 rfl W.heap.size 148 i0 (.agg #[.bool false, .int .u64 0, .int .u64 0]) 3 24 Tryz.underlying83 hi hz0 hz1 hz2 rfl (by decide) (.slice va n' vc) n' ((val.take n').flatMap intL) rfl HOWN3.out ⟨wc.heap.size, 0, none⟩ 1 1 (#[.bool xn, .int .u64 xh, .int .u64 xl] : Array Value).toList rfl rfl HN1.out.1 HN1.out.2 (by unfold maxLen; omega) (by omega) (by simp; omega) ?_))
            intro v' w4 hown4 hg4 _
            obtain ⟨vb', vd', hv'⟩ := ownsRow_slice hown4
            rw [hv'] at hown4 ⊢
            clear hv'
            have HOWN4 := Lib.hid hown4
            have HBLK4 := Lib.hid (own_keep HOWN3.out hg4 HBLK3.out (by decide))
            have HB4 := Lib.hid (HB3.out.trans (below_own HOWN3.out hg4 (by simp; omega)))
            clear hown4 hg4 n0 n1 n2 HOWN HOWN3 HBLK HBLK3
            go_wp2_with fail
            go_roundw
            case rel =>
              refine ⟨m + 1, by omega, by go_num, vb', n' + 1, vd', rfl, by have := HN'.out; omega, ?_, HBLK4.out, HB4.out⟩
              have h4 := HOWN4.out
              rw [← HZ.out] at h4
              rw [HTK.out]
              exact h4
            case measure => simp [intOf]; omega
        · obtain rfl : m = c := by omega
          go_wp2_with fail
          go_roundw
          case rel => exact ⟨k + 1, by omega, by go_num, va, n', vc, rfl, by have := HCT.out; have := HNN.out; have := HN'.out; omega, HOWN.out, HBS.out⟩
          case measure => simp [intOf]; omega
    · obtain rfl : k = pn := by omega
      rw [List.take_of_length_le (by have := HLN.out; omega)] at hn
      obtain rfl : n = val.length := by have := HCN.out; omega
      rw [List.take_length] at hown
      have hbw := HBW.out.trans (hbr.mono HBW.out.size)
      have hin := own_ints hown rfl HWF.out
      have HOWN := Lib.hid hown
      have HBB := Lib.hid hbw
      clear hown hbr hn
      go_wp2_with fail
      refine (pack_ok fs _ _ _ _ _ _ val wr ((HFS.out.below HBB.out).mono HBB.out.size) hc hin HFIT.out).mono ?_
      rintro e w5 ⟨rfl, hb5⟩
      rw [← HS.out]
      go_wp2_with fail
      go_ret2
      exact ⟨_, _, rfl, ownsRow_mono (ownsRow_below HOWN.out hb5) (by have := HBW.out.size; omega), HBB.out.trans (hb5.mono HBB.out.size)⟩
end Go.Proofs.YtoadihebdaooaaaGreat
namespace Go.Proofs.YtoadihebdaooaaaGreat
open Go.RowKit
set_option linter.unusedVariables false
/-- The rows of a table are those of values: for each row a value a column. -/
structure Vals (t : TD) (V : List (List (List WI))) : Prop where
  len : V.length = t.ents.length
  row : ∀ r ∈ V, r.length = t.cps.length
  at_ : ∀ (k i : Nat) (r : List (List WI)) (v : List WI) (x : CV) (d : CD), V[k]? = some r → r[i]? = some v → t.cps[i]? = some x → t.cols[i]? = some d → d.rows[k]? = some (packF x.c.fields v) ∧ fitF x.c.fields v = 0 ∧ ∀ y ∈ v, y.wf
theorem colOf_some {id : Int} {x : CV} {l : List CV} (h : colOf l id = some x) : x.c.id = id ∧ ∃ i : Nat, l[i]? = some x := by
  obtain ⟨j, _, hj⟩ := cIdx_some l 0 h
  refine ⟨?_, j, hj⟩
  have := List.find?_some h
  simpa using this
theorem slice_le {w : World} {B : Nat} {e : TypeId} {s : Nat} {a : Option Addr} {n c : Nat} {xs : List Value} (h : w.ownsRow B e s (.slice a n c) n xs) : n ≤ c := by
  rcases h.2 with ⟨he, h0⟩ | ⟨g, cap, cur, he, _, _, h1, _⟩
  · cases he; exact Nat.le_refl _
  · cases he; exact h1
section
variable {B : Nat} {w : World} {t : TD}
set_option maxRecDepth 100000 in
theorem tabGet_ok (h : TabIn B w t) (k i : Nat) (x : CV) (d : CD) (v : List WI) (comp : Int) (hk : k < t.ents.length) (hc : colOf t.cps comp = some x) (hx : t.cps[i]? = some x) (hd : t.cols[i]? = some d) (hl : d.rows[k]? = some (packF x.c.fields v)) (hfit : fitF x.c.fields v = 0) (hwf : ∀ y ∈ v, y.wf) :
    Calls Tryz.prog 41 #[.pointer (some ⟨t.tb, 0, none⟩), .int .i64 (k : Int), .int .i64 comp] w fun e w' => ∃ va vc, e = .returned (.tuple #[.slice va v.length vc, .int .i64 0]) ∧ w'.ownsRow w.heap.size 148 3 (.slice va v.length vc) v.length (v.flatMap intL) ∧ Below w.heap.size w w' := by
  have hv : findVal t (k : Int) comp = .agg #[.int .i64 x.c.id, .string x.c.name, .slice x.fa x.fl x.fc, .pointer (some ⟨x.cb, 0, none⟩)] := by unfold findVal; rw [if_pos ⟨by omega, by omega⟩, hc]
  have he : findErr t (k : Int) comp = 0 := by unfold findErr; rw [if_pos ⟨by omega, by omega⟩, hc]; rfl
  have hf := tabFind_in h (k : Int) comp
  rw [hv, he] at hf
  obtain ⟨k1, _, _, _⟩ := h.col i x d hx hd
  have HF := Lib.hid hf
  have HG := Lib.hid (fun (W : World) (hW : ColAt B W d) => colGet_any B W d k _ hW hl)
  rw [k1] at HG
  have HC := Lib.hid (h.colsA d (List.mem_of_getElem? hd))
  have HFL := Lib.hid (h.fields x (List.mem_of_getElem? hx))
  have HFIT := Lib.hid hfit
  have HWF := Lib.hid hwf
  have HUN := Lib.hid (fun (W : World) (hW : CVF B W x) => unpack_ok x.c.fields x.fa x.fl x.fc v W (fieldsAt_row hW.row hW.len hW.max) (slice_le hW.row) hwf hfit)
  obtain ⟨s, hs⟩ : ∃ s, s = (⟨(packF x.c.fields v).toArray⟩ : ByteArray) := ⟨_, rfl⟩
  rw [← hs] at HG HUN
  clear h hv he hf hk hc hx hd hl k1 hs hfit hwf
  go_enter Tryz.func41, Tryz.ntmps41
  go_wp2_with fail
  refine HF.out.mono ?_
  rintro e w1 ⟨rfl, hb⟩
  have hz := hb.size
  have hb2 := hb.alloc hz (.cells #[.int .i64 x.c.id, .string x.c.name, .slice x.fa x.fl x.fc, .pointer (some ⟨x.cb, 0, none⟩)] 142)
  have HB2 := Lib.hid hb2
  have HC2 := Lib.hid (HC.out.out (F := fun _ => False) (Out.of hb2) (fun _ _ => id))
  have HFL2 := Lib.hid (HFL.out.below hb2)
  have HK2 := Lib.hid (heap_alloc_new w1 (.cells #[.int .i64 x.c.id, .string x.c.name, .slice x.fa x.fl x.fc, .pointer (some ⟨x.cb, 0, none⟩)] 142))
  clear hb hb2 HC HF HFL
  go_wp2_with fail
  refine (HG.out _ HC2.out).mono ?_
  rintro e w2 ⟨rfl, hb3⟩
  have hk3 := keep hb3 HK2.out
  have c2 := cell_at hk3 2
  simp at c2
  have hk3l := lt_some hk3
  have HB3 := Lib.hid (HB2.out.trans (hb3.mono HB2.out.size))
  have HFL3 := Lib.hid (HFL2.out.below hb3)
  clear hb3 hk3 HK2
  go_wp2_with fail
  refine (HUN.out _ HFL3.out).mono ?_
  rintro e w3 ⟨va, vc, rfl, hown, hb4⟩
  have HOWN := Lib.hid (ownsRow_mono hown HB3.out.size)
  have HB4 := Lib.hid (HB3.out.trans (hb4.mono HB3.out.size))
  clear hown hb4
  go_wp2_with fail
  go_ret2
  exact ⟨va, vc, rfl, HOWN.out, HB4.out⟩
end
end Go.Proofs.YtoadihebdaooaaaGreat
namespace Go.Proofs.YtoadihebdaooaaaGreat
open Go.RowKit
set_option linter.unusedVariables false
theorem Tryz.info85 : (Tryz.prog.info? 85).map (fun i => (i.zero, i.size, i.bytes)) = some (some (.agg #[.int .i64 0, .slice none 0 0]), 2, 32) := by kernel_rfl
def partL (p : PW) : List Value := [.int .i64 p.comp, .slice p.va p.vl p.vc]
theorem partL_at : ∀ (l : List PW) (i : Nat) (p : PW), l[i]? = some p → (l.flatMap partL)[i * 2]? = some (.int .i64 p.comp) ∧ (l.flatMap partL)[i * 2 + 1]? = some (.slice p.va p.vl p.vc)
  | [], _, _, h => by simp at h
  | y :: r, 0, x, h => by
    simp at h
    subst h
    exact ⟨rfl, rfl⟩
  | y :: r, i + 1, x, h => by
    obtain ⟨h1, h2⟩ := partL_at r i x (by simpa using h)
    rw [show (i + 1) * 2 = i * 2 + 2 by omega]
    exact ⟨h1, h2⟩
/-- Parts with all their memory, at or above block B. -/
structure PO (B : Nat) (w : World) (a : Option Addr) (n c : Nat) (ps : List PW) : Prop where
  row : w.ownsRow B 85 2 (.slice a n c) n (ps.flatMap partL)
  vals : ∀ p ∈ ps, w.ownsRow B 148 3 (.slice p.va p.vl p.vc) p.vl (p.val.flatMap intL) ∧ p.val.length = p.vl ∧ ∀ y ∈ p.val, y.wf
  len : ps.length = n
/-- Blocks that aren't of parts. -/
def MutP (w : World) (b : Nat) : Prop := ∀ cs t fr, w.heap[b]? = some (.cells cs t fr) → t ≠ 85 ∧ t ≠ 148
theorem rowP {F : Nat → Prop} {w : World} {B s : Nat} {e : TypeId} {v : Value} {n : Nat} {xs : List Value} (h : w.ownsRow B e s v n xs) (he : e = 85 ∨ e = 148) (hM : ∀ b, F b → MutP w b) : ∀ x, v.ownBlock = some x → ¬ F x := by
  intro x hx hF
  obtain ⟨cur, hc⟩ := row_type h hx
  obtain ⟨h1, h2⟩ := hM x hF _ _ _ hc
  rcases he with rfl | rfl <;> contradiction
theorem PO.out {B : Nat} {w w' : World} {F : Nat → Prop} {a : Option Addr} {n c : Nat} {ps : List PW} (h : PO B w a n c ps) (ho : Out F w w') (hM : ∀ b, F b → MutP w b) : PO B w' a n c ps :=
  ⟨ownsRow_out h.row ho (rowP h.row (.inl rfl) hM), fun p hp => ⟨ownsRow_out (h.vals p hp).1 ho (rowP (h.vals p hp).1 (.inr rfl) hM), (h.vals p hp).2⟩, h.len⟩
theorem PO.below {B : Nat} {w w' : World} {a : Option Addr} {n c : Nat} {ps : List PW} (h : PO B w a n c ps) (hb : Below w.heap.size w w') : PO B w' a n c ps := h.out (F := fun _ => False) (Out.of hb) (fun _ => False.elim)
theorem PO.mono {B B' : Nat} {w : World} {a : Option Addr} {n c : Nat} {ps : List PW} (h : PO B w a n c ps) (hb : B' ≤ B) : PO B' w a n c ps := ⟨ownsRow_mono h.row hb, fun p hp => ⟨ownsRow_mono (h.vals p hp).1 hb, (h.vals p hp).2⟩, h.len⟩
theorem own_max {w : World} {B : Nat} {e : TypeId} {s : Nat} {a : Option Addr} {n c : Nat} {xs : List Value} (h : w.ownsRow B e s (.slice a n c) n xs) : n ≤ c ∧ c ≤ maxLen := by
  rcases h.2 with ⟨he, h0⟩ | ⟨g, cap, cur, he, _, _, h1, h2, _⟩
  · cases he; exact ⟨Nat.le_refl _, Nat.zero_le _⟩
  · cases he; exact ⟨h1, h2⟩
theorem PO.at {B : Nat} {w : World} {a : Option Addr} {n c : Nat} {ps : List PW} (h : PO B w a n c ps) : PartsAt w.heap.size w a n c ps := by
  obtain ⟨h1, h2⟩ := own_max h.row
  refine ⟨h.len, h1, h2, fun p hp => own_ints (h.vals p hp).1 (h.vals p hp).2.1 (h.vals p hp).2.2, ?_⟩
  rcases Nat.eq_zero_or_pos n with h0 | h0
  · exact .inl h0
  · obtain ⟨q, hq, _, hql, hqc⟩ := row_block h.row h0
    refine .inr ⟨q, 0, hq, hql, fun i p hp => ?_⟩
    obtain ⟨g0, g1⟩ := partL_at ps i p hp
    rw [Nat.zero_add]
    exact ⟨hqc _ _ g0, hqc _ _ g1⟩
/-- Parts as they are told. -/
def cv (ps : List PW) : List (Int × List WI) := ps.map fun p => (p.comp, p.val)
/-- The parts of a row. -/
def rowCv (t : TD) (r : List (List WI)) : List (Int × List WI) := (t.cps.map (·.c.id)).zip r
def IsParts (cvs : List (Int × List WI)) (w : World) (e : Ending) (w' : World) : Prop := ∃ pa pc ps, e = .returned (.tuple #[.slice pa cvs.length pc, .int .i64 0]) ∧ PO w.heap.size w' pa cvs.length pc ps ∧ cv ps = cvs ∧ Below w.heap.size w w'
theorem find_cv {x : CV} : ∀ {l : List CV}, (l.map (·.c.id)).Nodup → x ∈ l → colOf l x.c.id = some x
  | [], _, h => by simp at h
  | y :: r, hn, h => by
    unfold colOf
    rw [List.find?_cons]
    rw [List.map_cons, List.nodup_cons] at hn
    rcases List.mem_cons.1 h with rfl | h
    · simp
    · have : ¬ y.c.id = x.c.id := fun he => hn.1 (by rw [he]; exact List.mem_map.2 ⟨x, h, rfl⟩)
      rw [decide_eq_false this]
      exact find_cv hn.2 h
theorem colOf_at {t : TD} {i : Nat} {x : CV} (hids : t.cps.map (·.c.id) = idsTo t.set 24) (hx : t.cps[i]? = some x) : colOf t.cps x.c.id = some x :=
  find_cv (by rw [hids]; exact idsTo_nodup _ _) (List.mem_of_getElem? hx)
theorem take_zip {α β : Type} {l : List α} {m : List β} {i : Nat} {x : α} {y : β} (h1 : l[i]? = some x) (h2 : m[i]? = some y) : (l.zip m).take (i + 1) = (l.zip m).take i ++ [(x, y)] :=
  take_snoc (by rw [List.getElem?_zip_eq_some]; exact ⟨h1, h2⟩)
theorem rowCv_len {t : TD} {r : List (List WI)} (h : r.length = t.cps.length) : (rowCv t r).length = t.cps.length := by simp [rowCv, h]
section
variable {B : Nat} {w : World} {t : TD}
theorem tabParts_no (h : TabIn B w t) (row : Int) (hr : ¬ (0 ≤ row ∧ row < t.ents.length)) : Calls Tryz.prog 39 #[.pointer (some ⟨t.tb, 0, none⟩), .int .i64 row] w fun e w' => e = .returned (.tuple #[.slice none 0 0, .int .i64 3]) ∧ w = w' := by
  have hc := tabAt_in h row
  rw [if_neg hr] at hc
  have HC := Lib.hid hc
  clear hc h hr
  go_enter Tryz.func39, Tryz.ntmps39
  go_wp2_with fail
  refine HC.out.mono ?_
  rintro e w1 ⟨rfl, rfl⟩
  go_wp2_with fail
  go_ret2
  exact ⟨rfl, rfl⟩
set_option maxRecDepth 100000 in
set_option maxHeartbeats 1000000 in
theorem tabParts_ok (h : TabIn B w t) (V : List (List (List WI))) (hV : Vals t V) (k : Nat) (r : List (List WI)) (hk : V[k]? = some r) :
    Calls Tryz.prog 39 #[.pointer (some ⟨t.tb, 0, none⟩), .int .i64 (k : Int)] w (IsParts (rowCv t r) w) := by
  obtain ⟨i0, hi, hz0', hz1, hz2⟩ := info_parts Tryz.info85
  have hkl : k < t.ents.length := by rw [← hV.len]; exact (List.getElem?_eq_some_iff.1 hk).1
  have hrl := hV.row r (List.mem_of_getElem? hk)
  have hc := tabAt_in h (k : Int)
  rw [if_pos ⟨by omega, by omega⟩] at hc
  have HC := Lib.hid hc
  have HT := Lib.hid h
  have HV := Lib.hid hV
  have HK := Lib.hid hk
  have HKL := Lib.hid hkl
  have HRL := Lib.hid hrl
  obtain ⟨_, _, _, _, _, _, c6, _⟩ := h.cells
  have hn24 := h.n24
  have hlen := h.len
  unfold IsParts
  rw [rowCv_len hrl]
  obtain ⟨n, hn⟩ : ∃ n, t.cps.length = n := ⟨_, rfl⟩
  rw [hn] at c6 hn24 hrl hlen ⊢
  have HN := Lib.hid hn
  have HLEN := Lib.hid hlen
  have HRL2 := Lib.hid hrl
  clear h hV hk hkl hrl hc hn hlen
  go_enter Tryz.func39, Tryz.ntmps39
  go_wp2_with fail
  refine HC.out.mono ?_
  rintro e w1 ⟨rfl, rfl⟩
  go_wp2_with fail
  clear c6
  go_loopw [7, 23] (fun v j wr => ∃ m : Nat, m ≤ n ∧ j = .int .i64 (m : Int) ∧ ∃ pa pc ps, v = .slice pa m pc ∧ PO w.heap.size wr pa m pc ps ∧ cv ps = (rowCv t r).take m ∧ Below w.heap.size w wr) (fun _ j _ => n - (intOf j).toNat)
  case atStart => exact ⟨0, by omega, rfl, none, 0, [], rfl, ⟨⟨by simp, .inl ⟨rfl, rfl⟩⟩, by simp, rfl⟩, by simp [cv], Below.refl _ _⟩
  case round =>
    obtain ⟨m, hm, rfl, pa, pc, ps, rfl, hpo, hcv, hbr⟩ := hrel
    by_cases hlt : m < n
    · obtain ⟨x, hx⟩ : ∃ x, t.cps[m]? = some x := ⟨_, List.getElem?_eq_getElem (by have := HN.out; omega)⟩
      obtain ⟨d, hd⟩ : ∃ d, t.cols[m]? = some d := ⟨_, List.getElem?_eq_getElem (by have := HLEN.out; omega)⟩
      obtain ⟨v, hv⟩ : ∃ v, r[m]? = some v := ⟨_, List.getElem?_eq_getElem (by have := HRL2.out; omega)⟩
      obtain ⟨a1, a2, a3⟩ := HV.out.at_ k m r v x d HK.out hv hx hd
      have htr := HT.out.below hbr
      have hcr := htr.colsR
      rw [HN.out] at hcr
      obtain ⟨q, hq, _, hql, hqc⟩ := row_block hcr (by omega)
      obtain ⟨g0, g1, g2, g3⟩ := colL_at t.cps hx
      have z0 := hqc _ _ g0
      have z1 := hqc _ _ g1
      have z2 := hqc _ _ g2
      have z3 := hqc _ _ g3
      rw [hq]
      have i1 : (0 : Int) ≤ (m : Int) := by omega
      have i2 : (m : Int) < (n : Int) := by omega
      have htA := htr.below ((Below.refl _ wr).alloc (Nat.le_refl _) (.cells #[.int .i64 x.c.id, .string x.c.name, .slice x.fa x.fl x.fc, .pointer (some ⟨x.cb, 0, none⟩)] 142))
      have HG := Lib.hid (tabGet_ok htA k m x d v x.c.id HKL.out (colOf_at htr.ids hx) hx hd a1 a2 a3)
      have HPO := Lib.hid (hpo.below ((Below.refl _ wr).alloc (Nat.le_refl _) (.cells #[.int .i64 x.c.id, .string x.c.name, .slice x.fa x.fl x.fc, .pointer (some ⟨x.cb, 0, none⟩)] 142)))
      have HBR := Lib.hid (hbr.alloc hbr.size (.cells #[.int .i64 x.c.id, .string x.c.name, .slice x.fa x.fl x.fc, .pointer (some ⟨x.cb, 0, none⟩)] 142))
      have HH := Lib.hid (heap_alloc_new wr (.cells #[.int .i64 x.c.id, .string x.c.name, .slice x.fa x.fl x.fc, .pointer (some ⟨x.cb, 0, none⟩)] 142))
      have HTZ := Lib.hid (take_zip (l := t.cps.map (·.c.id)) (by rw [List.getElem?_map, hx]; rfl) hv)
      have HCV := Lib.hid hcv
      have HWF := Lib.hid a3
      clear hx hd hv a1 a2 a3 htr hcr hqc g0 g1 g2 g3 htA hpo hcv hbr hq
      go_wp2_with fail
      refine HG.out.mono ?_
      rintro e w3 ⟨va, vc, rfl, hown, hb3⟩
      have hh3 := keep hb3 HH.out
      have c0 := cell_at hh3 0
      simp at c0
      have hh3l := lt_some hh3
      have hpo3 := HPO.out.below hb3
      have hb0 := HBR.out.trans (hb3.mono HBR.out.size)
      have hz0 := hb0.size
      have HOWN := Lib.hid ((ownsRow_mono hown HBR.out.size).alloc (.cells #[.int .i64 x.c.id, .slice va v.length vc] 85))
      have HPO3 := Lib.hid (hpo3.below ((Below.refl _ w3).alloc (Nat.le_refl _) (.cells #[.int .i64 x.c.id, .slice va v.length vc] 85)))
      have HB3 := Lib.hid (hb0.alloc hz0 (.cells #[.int .i64 x.c.id, .slice va v.length vc] 85))
      have HN1 := Lib.hid (And.intro (World.news_of_block (heap_alloc_new w3 (.cells #[.int .i64 x.c.id, .slice va v.length vc] 85))) (show ∀ u ∈ (#[.int .i64 x.c.id, .slice va v.length vc] : Array Value).toList, u.oneCell' = true from List.all_eq_true.1 rfl))
      clear hown hb3 hh3 hpo3 hb0 z0 z1 z2 z3 HG HH HPO HBR
      go_wp2_with (at_builtin; go_loud (refine wpList_append_own _ rfl (.tmp 36) (.tmp 42) 70 rfl w.heap.size 85 i0 (.agg #[.int .i64 0, .slice none 0 0]) 2 32 Tryz.underlying70 hi hz0' hz1 hz2 rfl (by decide) (.slice pa m pc) m (ps.flatMap partL) rfl HPO3.out.row ⟨w3.heap.size, 0, none⟩ 1 1 (#[.int .i64 x.c.id, .slice va v.length vc] : Array Value).toList rfl rfl HN1.out.1 HN1.out.2 (by unfold maxLen; omega) (by omega) (by simp; omega) ?_))
      intro v' w4 hown4 hg4 _
      obtain ⟨vb', vd', hv'⟩ := ownsRow_slice hown4
      rw [hv'] at hown4 ⊢
      clear hv'
      have hpo4 : PO w.heap.size w4 vb' (m + 1) vd' (ps ++ [⟨x.c.id, va, v.length, vc, v⟩]) := by
        refine ⟨by rw [List.flatMap_append]; exact hown4, fun p hp => ?_, by rw [List.length_append, HPO3.out.len]; rfl⟩
        rcases List.mem_append.1 hp with hp | hp
        · exact ⟨(HPO3.out.vals p hp).1.kept hg4 (ownsRow_ne (HPO3.out.vals p hp).1 HPO3.out.row (by decide)), (HPO3.out.vals p hp).2⟩
        · obtain rfl : p = _ := List.mem_singleton.1 hp
          exact ⟨HOWN.out.kept hg4 (ownsRow_ne HOWN.out HPO3.out.row (by decide)), rfl, HWF.out⟩
      have HPO4 := Lib.hid hpo4
      have HB4 := Lib.hid (HB3.out.trans (below_own HPO3.out.row hg4 (by simp; omega)))
      clear hown4 hg4 hpo4 HOWN HPO3 c0
      go_wp2_with fail
      go_roundw
      case rel => exact ⟨m + 1, by omega, by go_num, vb', vd', _, rfl, HPO4.out, by unfold cv at *; rw [List.map_append, HCV.out]; exact HTZ.out.symm, HB4.out⟩
      case measure => simp [intOf]; omega
    · obtain rfl : m = n := by omega
      have HPO := Lib.hid hpo
      have HB := Lib.hid hbr
      have HCV := Lib.hid hcv
      clear hpo hbr hcv
      go_wp2_with fail
      go_ret2
      exact ⟨pa, pc, ps, rfl, HPO.out, by rw [HCV.out, List.take_of_length_le (by rw [rowCv_len (by rw [HRL2.out, HN.out]), HN.out]; exact Nat.le_refl _)], HB.out⟩
end
end Go.Proofs.YtoadihebdaooaaaGreat
namespace Go.Proofs.YtoadihebdaooaaaGreat
open Go.RowKit
set_option linter.unusedVariables false
theorem TabIn.setCol {B : Nat} {w w' : World} {t : TD} (h : TabIn B w t) {i : Nat} {d d' : CD} (hd : t.cols[i]? = some d) (ho : Out d.foot w w') (hc : ColAt B w' d') (hf : ∀ b, d'.foot b ↔ d.foot b) (h1 : d'.cb = d.cb) (h2 : d'.size = d.size) (h3 : d'.cap = d.cap) (h4 : d'.rows.length = d.rows.length) :
    TabIn B w' { t with cols := t.cols.set i d' } ∧ (∀ b, TD.foot { t with cols := t.cols.set i d' } b → t.foot b) ∧ Out t.cfoot w w' := by
  have hdm := List.mem_of_getElem? hd
  have ho2 : Out t.cfoot w w' := ho.mono (fun b hb => .inl ⟨d, hdm, hb⟩)
  have hM : ∀ b, t.cfoot b → Mut w b := fun b hb => h.foot_mut (TabIn.cfoot_foot hb)
  have hil := (List.getElem?_eq_some_iff.1 hd).1
  have hat : ∀ (j : Nat) (e : CD), (t.cols.set i d')[j]? = some e → (j = i ∧ e = d') ∨ (j ≠ i ∧ t.cols[j]? = some e) := by
    intro j e he
    rw [List.getElem?_set] at he
    split at he
    · rename_i hij
      subst hij
      have he2 : d' = e := by simpa [hil] using he
      exact .inl ⟨rfl, he2.symm⟩
    · rename_i hij
      exact .inr ⟨fun e => hij e.symm, he⟩
  refine ⟨⟨ho2.keep h.blk h.cfoot_ne.1, ownsRow_out h.comps ho2 (row_mut h.comps (.inl rfl) hM), ownsRow_out h.colsR ho2 (row_mut h.colsR (.inr (.inl rfl)) hM), fun x hx => (h.fields x hx).out ho2 hM, ownsRow_out h.entsR ho2 h.cfoot_ne.2, h.hB, by rw [List.length_set]; exact h.len, ?_, ?_, ?_, h.lay, h.n24, h.most1, h.most2, h.room, h.set0, h.set1, h.ids⟩, ?_, ho2⟩
  · intro j x e hx he
    rcases hat j e he with ⟨rfl, rfl⟩ | ⟨_, he⟩
    · obtain ⟨k1, k2, k3, k4⟩ := h.col j x d hx hd
      exact ⟨h1.trans k1, h2.trans k2, h3.trans k3, h4.trans k4⟩
    · exact h.col j x e hx he
  · intro e he
    obtain ⟨j, hj⟩ := List.getElem?_of_mem he
    rcases hat j e hj with ⟨rfl, rfl⟩ | ⟨hne, hj⟩
    · exact hc
    · exact (h.colsA e (List.mem_of_getElem? hj)).out ho (fun b hb hb2 => h.apart j i e d hne hj hd b hb hb2)
  · intro j k e f hjk he hg b hb hb2
    rcases hat j e he with ⟨rfl, rfl⟩ | ⟨hne, he2⟩
    · rcases hat k f hg with ⟨rfl, rfl⟩ | ⟨hne2, hg2⟩
      · exact hjk rfl
      · exact h.apart j k d f hjk hd hg2 b ((hf b).1 hb) hb2
    · rcases hat k f hg with ⟨rfl, rfl⟩ | ⟨hne2, hg2⟩
      · exact h.apart j k e d hjk he2 hd b hb ((hf b).1 hb2)
      · exact h.apart j k e f hjk he2 hg2 b hb hb2
  · rintro b (hb | hb | ⟨e, he, hb⟩)
    · exact .inl hb
    · exact .inr (.inl hb)
    · obtain ⟨j, hj⟩ := List.getElem?_of_mem he
      rcases hat j e hj with ⟨rfl, rfl⟩ | ⟨hne, hj⟩
      · exact .inr (.inr ⟨d, hdm, (hf b).1 hb⟩)
      · exact .inr (.inr ⟨e, List.mem_of_getElem? hj, hb⟩)
/-- The table with another row in a column. -/
def TD.put (t : TD) (i k : Nat) (d : CD) (row : List UInt8) : TD := { t with cols := t.cols.set i { d with rows := d.rows.set k row } }
section
variable {B : Nat} {w : World} {t : TD}
set_option maxRecDepth 100000 in
theorem tabSet_no1 (h : TabIn B w t) (row comp : Int) (va : Option Addr) (vl vc : Nat) (he : findErr t row comp ≠ 0) :
    Calls Tryz.prog 40 #[.pointer (some ⟨t.tb, 0, none⟩), .int .i64 row, .agg #[.int .i64 comp, .slice va vl vc]] w fun e w' => e = .returned (.int .i64 (findErr t row comp)) ∧ Below w.heap.size w w' := by
  have hv : findVal t row comp = .agg #[.int .i64 0, .string ByteArray.empty, .slice none 0 0, .pointer none] := by
    unfold findErr at he
    unfold findVal
    split
    · rename_i h1
      rw [if_pos h1] at he
      cases hc : colOf t.cps comp with
      | none => rfl
      | some x => rw [hc] at he; exact absurd rfl he
    · rfl
  have hb0 : Below w.heap.size w (w.alloc (.cells #[.int .i64 comp, .slice va vl vc] 85)) := by go_grown
  have HF := Lib.hid (tabFind_in (h.below hb0) row comp)
  have HB0 := Lib.hid hb0
  rw [hv] at HF
  obtain ⟨r, hr⟩ : ∃ r, findErr t row comp = r := ⟨_, rfl⟩
  rw [hr] at HF he ⊢
  have e1 : (r != 0) = true := by rw [bne_iff_ne]; exact he
  clear h hb0 hv hr he
  go_enter Tryz.func40, Tryz.ntmps40
  go_wp2_with fail
  refine HF.out.mono ?_
  rintro e w1 ⟨rfl, hb⟩
  have HB1 := Lib.hid (HB0.out.trans (hb.mono HB0.out.size))
  have hz := HB1.out.size
  clear hb
  go_wp2_with fail
  go_returns
  exact ⟨rfl, HB1.out.alloc hz _⟩
set_option maxRecDepth 100000 in
theorem tabSet_no2 (h : TabIn B w t) (k i : Nat) (x : CV) (comp : Int) (va : Option Addr) (vl vc : Nat) (v : List WI) (hk : k < t.ents.length) (hc : colOf t.cps comp = some x) (hx : t.cps[i]? = some x) (hp : IntsAt w.heap.size w va vl vc v) (hfit : fitF x.c.fields v ≠ 0) :
    Calls Tryz.prog 40 #[.pointer (some ⟨t.tb, 0, none⟩), .int .i64 (k : Int), .agg #[.int .i64 comp, .slice va vl vc]] w fun e w' => e = .returned (.int .i64 (fitF x.c.fields v)) ∧ Below w.heap.size w w' := by
  have hv : findVal t (k : Int) comp = .agg #[.int .i64 x.c.id, .string x.c.name, .slice x.fa x.fl x.fc, .pointer (some ⟨x.cb, 0, none⟩)] := by unfold findVal; rw [if_pos ⟨by omega, by omega⟩, hc]
  have he : findErr t (k : Int) comp = 0 := by unfold findErr; rw [if_pos ⟨by omega, by omega⟩, hc]; rfl
  have hb0 : Below w.heap.size w (w.alloc (.cells #[.int .i64 comp, .slice va vl vc] 85)) := by go_grown
  have hf := tabFind_in (h.below hb0) (k : Int) comp
  rw [hv, he] at hf
  have HF := Lib.hid hf
  have HB0 := Lib.hid hb0
  have HP0 := Lib.hid (heap_alloc_new w (.cells #[.int .i64 comp, .slice va vl vc] 85))
  have HFL := Lib.hid (h.fields x (List.mem_of_getElem? hx))
  have HIN := Lib.hid hp
  have HPK := Lib.hid (fun (W : World) (hW : CVF B W x) (hI : IntsAt W.heap.size W va vl vc v) => pack_no x.c.fields x.fa x.fl x.fc va vl vc v W (fieldsAt_row hW.row hW.len hW.max) (slice_le hW.row) hI hfit)
  have e1 : (fitF x.c.fields v != 0) = true := by rw [bne_iff_ne]; exact hfit
  generalize fitF x.c.fields v = L at *
  clear h hv he hf hk hc hx hfit hb0 hp
  go_enter Tryz.func40, Tryz.ntmps40
  go_wp2_with fail
  refine HF.out.mono ?_
  rintro e w1 ⟨rfl, hb⟩
  have HB1 := Lib.hid (HB0.out.trans (hb.mono HB0.out.size))
  have hz := HB1.out.size
  have hp1 := keep hb HP0.out
  have HB2 := Lib.hid (HB1.out.alloc hz (.cells #[.int .i64 x.c.id, .string x.c.name, .slice x.fa x.fl x.fc, .pointer (some ⟨x.cb, 0, none⟩)] 142))
  have hp2 := keepA (.cells #[.int .i64 x.c.id, .string x.c.name, .slice x.fa x.fl x.fc, .pointer (some ⟨x.cb, 0, none⟩)] 142) hp1
  have c1 := cell_at hp1 1
  simp at c1
  have hwl : w.heap.size < w1.heap.size := lt_some hp1
  have HFL2 := Lib.hid (HFL.out.below HB2.out)
  have HIN2 := Lib.hid ((HIN.out.below HB2.out).mono HB2.out.size)
  clear hb hp1 hp2
  go_wp2_with fail
  refine (HPK.out _ HFL2.out HIN2.out).mono ?_
  rintro e w2 ⟨rfl, hb2⟩
  have HB3 := Lib.hid (HB2.out.trans (hb2.mono HB2.out.size))
  clear hb2 c1
  go_wp2_with fail
  go_returns
  exact ⟨rfl, HB3.out⟩
set_option maxRecDepth 100000 in
theorem tabSet_ok (h : TabIn B w t) (k i : Nat) (x : CV) (d : CD) (comp : Int) (va : Option Addr) (vl vc : Nat) (v : List WI) (hk : k < t.ents.length) (hc : colOf t.cps comp = some x) (hx : t.cps[i]? = some x) (hd : t.cols[i]? = some d) (hp : IntsAt w.heap.size w va vl vc v) (hfit : fitF x.c.fields v = 0) :
    Calls Tryz.prog 40 #[.pointer (some ⟨t.tb, 0, none⟩), .int .i64 (k : Int), .agg #[.int .i64 comp, .slice va vl vc]] w fun e w' => e = .returned (.int .i64 0) ∧ TabIn B w' (t.put i k d (packF x.c.fields v)) ∧ (∀ b, (t.put i k d (packF x.c.fields v)).foot b → t.foot b) ∧ Out t.cfoot w w' := by
  have hv : findVal t (k : Int) comp = .agg #[.int .i64 x.c.id, .string x.c.name, .slice x.fa x.fl x.fc, .pointer (some ⟨x.cb, 0, none⟩)] := by unfold findVal; rw [if_pos ⟨by omega, by omega⟩, hc]
  have he : findErr t (k : Int) comp = 0 := by unfold findErr; rw [if_pos ⟨by omega, by omega⟩, hc]; rfl
  obtain ⟨k1, k2, k3, k4⟩ := h.col i x d hx hd
  obtain ⟨hlay, hcn, _⟩ := fit_zero hfit
  have hlen := packF_len hlay (show cnt x.c.fields ≤ v.length by omega)
  have hb0 : Below w.heap.size w (w.alloc (.cells #[.int .i64 comp, .slice va vl vc] 85)) := by go_grown
  have hf := tabFind_in (h.below hb0) (k : Int) comp
  rw [hv, he] at hf
  have HF := Lib.hid hf
  have HB0 := Lib.hid hb0
  have HP0 := Lib.hid (heap_alloc_new w (.cells #[.int .i64 comp, .slice va vl vc] 85))
  have HFL := Lib.hid (h.fields x (List.mem_of_getElem? hx))
  have HIN := Lib.hid hp
  have HPK := Lib.hid (fun (W : World) (hW : CVF B W x) (hI : IntsAt W.heap.size W va vl vc v) => pack_ok x.c.fields x.fa x.fl x.fc va vl vc v W (fieldsAt_row hW.row hW.len hW.max) (slice_le hW.row) hI hfit)
  have HT := Lib.hid h
  have HD := Lib.hid hd
  obtain ⟨s, hs⟩ : ∃ s, s = (⟨(packF x.c.fields v).toArray⟩ : ByteArray) := ⟨_, rfl⟩
  rw [← hs] at HPK
  have hss : s.size = d.size := by rw [hs, k2, ← hlen]; show (packF x.c.fields v).toArray.size = _; rw [List.size_toArray]
  have hst : s.data.toList = packF x.c.fields v := by rw [hs]
  rw [← hst]
  have HST : Hid (∀ W, TabIn B W t → Calls Tryz.prog 83 #[.pointer (some ⟨x.cb, 0, none⟩), .int .i64 (k : Int), .string s] W fun e w' => e = .returned (.int .i64 0) ∧ ColAt B w' { d with rows := d.rows.set k s.data.toList } ∧ Out d.foot W w') := Lib.hid (fun W hW => by rw [← k1]; exact colSet_any B W d k s (hW.colsA d (List.mem_of_getElem? hd)) (by rw [k4]; exact hk) hss)
  clear h hv he hf hk hc hx hfit hb0 hp k1 k2 k3 k4 hlay hcn hlen hs hss hst hd
  go_enter Tryz.func40, Tryz.ntmps40
  go_wp2_with fail
  refine HF.out.mono ?_
  rintro e w1 ⟨rfl, hb⟩
  have HB1 := Lib.hid (HB0.out.trans (hb.mono HB0.out.size))
  have hz := HB1.out.size
  have hp1 := keep hb HP0.out
  have HB2 := Lib.hid (HB1.out.alloc hz (.cells #[.int .i64 x.c.id, .string x.c.name, .slice x.fa x.fl x.fc, .pointer (some ⟨x.cb, 0, none⟩)] 142))
  have c1 := cell_at hp1 1
  simp at c1
  have hwl : w.heap.size < w1.heap.size := lt_some hp1
  have HFL2 := Lib.hid (HFL.out.below HB2.out)
  have HIN2 := Lib.hid ((HIN.out.below HB2.out).mono HB2.out.size)
  have HK2 := Lib.hid (heap_alloc_new w1 (.cells #[.int .i64 x.c.id, .string x.c.name, .slice x.fa x.fl x.fc, .pointer (some ⟨x.cb, 0, none⟩)] 142))
  clear hb hp1
  go_wp2_with fail
  refine (HPK.out _ HFL2.out HIN2.out).mono ?_
  rintro e w2 ⟨rfl, hb2⟩
  have HB3 := Lib.hid (HB2.out.trans (hb2.mono HB2.out.size))
  have hk3 := keep hb2 HK2.out
  have c3 := cell_at hk3 3
  simp at c3
  have hk3l := lt_some hk3
  have HT3 := Lib.hid (HT.out.below HB3.out)
  clear hb2 c1 hk3
  go_wp2_with fail
  refine (HST.out _ HT3.out).mono ?_
  rintro e w3 ⟨rfl, hca, ho⟩
  have hset := HT3.out.setCol HD.out ho hca (fun b => Iff.rfl) rfl rfl rfl (by simp)
  have HS := Lib.hid hset
  clear hca ho hset c3
  go_wp2_with fail
  go_returns
  exact ⟨rfl, HS.out.1, HS.out.2.1, (Out.of HB3.out).trans HS.out.2.2 (fun _ hx => .inl hx)⟩
end
end Go.Proofs.YtoadihebdaooaaaGreat
namespace Go.Proofs.YtoadihebdaooaaaGreat
open Go.RowKit
open Go.Maps (Keyed IsMap Tidy int_keyed keyOf_int_mk)
set_option linter.unusedVariables false
section
variable {P : Program} {w : World} {k e : TypeId} {b cnt : Nat} {f : Lit → Option Value}
/-- An element reads as itself. -/
def heldR (v : Value) : Option (DataW Value × List MemPlace) := some (.held v, [])
/-- Block b is a map of cnt entries, that holds at each key what f says. -/
def MapV (P : Program) (w : World) (k : TypeId) (b cnt : Nat) (f : Lit → Option Value) : Prop :=
  ∃ D : DataW Value, w.ownsMap P k heldR b cnt D ∧ Maps.size D = cnt ∧ ∀ kl, Maps.has D kl = (f kl).isSome ∧ ∀ v, f kl = some v → ∀ z, D.atKey kl z = .held v
def putV (f : Lit → Option Value) (kl : Lit) (v : Value) : Lit → Option Value := fun x => if litEq x kl = true then some v else f x
def delV (f : Lit → Option Value) (kl : Lit) : Lit → Option Value := fun x => if litEq x kl = true then none else f x
theorem putV_same (f : Lit → Option Value) (kl : Lit) (v : Value) : putV f kl v kl = some v := if_pos (litEq_iff.2 rfl)
theorem putV_ne {f : Lit → Option Value} {kl x : Lit} {v : Value} (h : x ≠ kl) : putV f kl v x = f x := if_neg (fun e => h (litEq_iff.1 e))
theorem delV_same (f : Lit → Option Value) (kl : Lit) : delV f kl kl = none := if_pos (litEq_iff.2 rfl)
theorem delV_ne {f : Lit → Option Value} {kl x : Lit} (h : x ≠ kl) : delV f kl x = f x := if_neg (fun e => h (litEq_iff.1 e))
theorem MapV.made (w : World) (P : Program) (k : TypeId) : MapV P (w.alloc (.map #[] 0)) k w.heap.size 0 (fun _ => none) :=
  ⟨.map [], World.ownsMap_made _ _ _ _, rfl, fun kl => ⟨rfl, fun v h => by cases h⟩⟩
theorem MapV.kept {w' : World} {row : Option Nat} (h : MapV P w k b cnt f) (hg : w.grownBy w' row) (hne : some b ≠ row) : MapV P w' k b cnt f := by
  obtain ⟨D, h1, h2, h3⟩ := h
  exact ⟨D, h1.kept hg hne, h2, h3⟩
theorem MapV.alloc (h : MapV P w k b cnt f) (o : Obj) : MapV P (w.alloc o) k b cnt f := by
  obtain ⟨D, h1, h2, h3⟩ := h
  exact ⟨D, h1.alloc o, h2, h3⟩
theorem MapV.lt (h : MapV P w k b cnt f) : b < w.heap.size := by obtain ⟨D, h1, _⟩ := h; exact h1.lt
theorem MapV.out {F : Nat → Prop} {w' : World} (h : MapV P w k b cnt f) (ho : Out F w w') (hb : ¬ F b) : MapV P w' k b cnt f := by
  obtain ⟨D, ⟨es, c, hh, r⟩, h2⟩ := h
  exact ⟨D, ⟨es, c, ho.keep hh hb, r⟩, h2⟩
theorem MapV.below (h : MapV P w k b cnt f) {w' : World} (hb : Below w.heap.size w w') : MapV P w' k b cnt f := h.out (F := fun _ => False) (Out.of hb) id
theorem MapV.obj (h : MapV P w k b cnt f) : ∃ es c, w.heap[b]? = some (.map es c) := by
  obtain ⟨D, ⟨es, c, hb, _⟩, _⟩ := h
  exact ⟨es, c, hb⟩
/-- m[k]. -/
theorem MapV.look {t : TypeId} (h : MapV P w k b cnt f) (K : Keyed P k) (ht : P.underlying t = some (.map k e)) {z : Value} (hz : ∀ w, (zeroValue e).run P w = .ok z w)
    {key : Value} {kl : Lit} (hkey : keyOf P k key = some kl) : (Instr.lookup t (.map (some b)) key false).run P w = .ok ((f kl).getD z) w := by
  obtain ⟨D, h1, h2, h3⟩ := h
  obtain ⟨v, ps, hrun, hv⟩ := h1.lookup K ht (hz w) (show heldR z = some (.held z, []) from rfl) hkey
  rw [hrun]
  obtain ⟨hh, hat⟩ := h3 kl
  unfold heldR at hv
  simp only [Option.some.injEq, Prod.mk.injEq] at hv
  cases hf : f kl with
  | none =>
    rw [hf] at hh
    rw [Maps.atKey_of_not_has hh] at hv
    obtain ⟨hv, _⟩ := hv
    cases hv
    rfl
  | some u =>
    rw [hat u hf] at hv
    obtain ⟨hv, _⟩ := hv
    cases hv
    rfl
/-- len(m). -/
theorem MapV.len {t : TypeId} (h : MapV P w k b cnt f) (ht : P.underlying t = some (.map k e)) (ty : TypeId) : (Builtin.len_ #[t] ty #[.map (some b)]).run P w = .ok (.int .i64 cnt) w := by
  obtain ⟨D, h1, h2, h3⟩ := h
  rw [h1.len ht, h2]
/-- m[k] = v. -/
theorem MapV.store {t : TypeId} (h : MapV P w k b cnt f) (K : Keyed P k) (ht : P.underlying t = some (.map k e)) (hn : cnt < maxLen) {key val : Value} {kl : Lit} (hkey : keyOf P k key = some kl) :
    ∃ w', (Instr.mapUpdate t (.map (some b)) key val).run P w = .ok () w' ∧ MapV P w' k b (if (f kl).isSome then cnt else cnt + 1) (putV f kl val) ∧ w.grownBy w' (some b) ∧ w'.heap.size = w.heap.size := by
  obtain ⟨D, h1, h2, h3⟩ := h
  obtain ⟨w', hrun, h1', ht'⟩ := h1.store K ht hn hkey (show heldR val = some (.held val, []) from rfl)
  have hs : Maps.size (D.put kl (.held val)) = if (f kl).isSome then cnt else cnt + 1 := by
    rw [Maps.size_put (h1.tidy K), (h3 kl).1, h2]
  have hsz : w'.heap.size = w.heap.size := by
    obtain ⟨es, clock, es', clock', hb, rfl⟩ := ht'
    simp [ChangeMaps.setBlock]
  refine ⟨w', hrun, ⟨D.put kl (.held val), ?_, hs, fun x => ?_⟩, ht'.grown, hsz⟩
  · obtain ⟨es, clock, hb, F, hle, hD⟩ := h1'
    refine ⟨es, clock, hb, F, ?_, hD⟩
    rw [← hs, hD]
    simp [Maps.size, length_sorted]
  · by_cases hx : x = kl
    · subst hx
      rw [putV_same]
      refine ⟨by rw [Maps.has_put_same h1.isMap (K.key hkey)]; rfl, fun u hu z => ?_⟩
      rw [Maps.atKey_put_same h1.isMap (K.key hkey)]
      cases hu
      rfl
    · rw [putV_ne hx]
      refine ⟨by rw [Maps.has_put_other hx, (h3 x).1], fun u hu z => ?_⟩
      rw [Maps.atKey_put_other hx]
      exact (h3 x).2 u hu z
/-- delete(m, k). -/
theorem MapV.drop {t : TypeId} (h : MapV P w k b cnt f) (K : Keyed P k) (ht : P.underlying t = some (.map k e)) {key : Value} {kl : Lit} (hkey : keyOf P k key = some kl) (ty : TypeId) :
    ∃ w', (Builtin.delete_ #[t, k] ty #[.map (some b), key]).run P w = .ok (.tuple #[]) w' ∧ MapV P w' k b (if (f kl).isSome then cnt - 1 else cnt) (delV f kl) ∧ w.grownBy w' (some b) ∧ w'.heap.size = w.heap.size := by
  obtain ⟨D, h1, h2, h3⟩ := h
  obtain ⟨w', hrun, h1', ht'⟩ := h1.drop K ht hkey ty
  have hs : Maps.size (D.del kl) = if (f kl).isSome then cnt - 1 else cnt := by
    have := Maps.size_del (k := kl) (h1.tidy K)
    rw [(h3 kl).1, h2] at this
    split at this <;> rename_i hc
    · rw [if_pos hc]; omega
    · rw [if_neg hc]; omega
  have hsz : w'.heap.size = w.heap.size := by
    obtain ⟨es, clock, es', clock', hb, rfl⟩ := ht'
    simp [ChangeMaps.setBlock]
  refine ⟨w', hrun, ⟨D.del kl, ?_, hs, fun x => ?_⟩, ht'.grown, hsz⟩
  · obtain ⟨es, clock, hb, F, hle, hD⟩ := h1'
    refine ⟨es, clock, hb, F, ?_, hD⟩
    rw [← hs, hD]
    simp [Maps.size, length_sorted]
  · by_cases hx : x = kl
    · subst hx
      rw [delV_same]
      exact ⟨Maps.has_del_same, fun u hu z => by cases hu⟩
    · rw [delV_ne hx]
      refine ⟨by rw [Maps.has_del_other hx, (h3 x).1], fun u hu z => ?_⟩
      rw [Maps.atKey_del_other hx]
      exact (h3 x).2 u hu z
end
end Go.Proofs.YtoadihebdaooaaaGreat
namespace Go.Proofs.YtoadihebdaooaaaGreat
open Go.RowKit
set_option linter.unusedVariables false
theorem int_ne (a b : Bool) (c d e f : Int) (w : World) : Sem.run Tryz.prog (binOp BinOp.neq 148 (.agg #[.bool a, .int .u64 c, .int .u64 e]) (.agg #[.bool b, .int .u64 d, .int .u64 f])) w = .ok (.bool (!(a == b && (c == d && e == f)))) w := by
  cases h1 : a == b <;> cases h2 : c == d <;> cases h3 : e == f <;> go_simp
theorem wi_ext {x y : WI} (h : (x.neg == y.neg && (x.hi == y.hi && x.lo == y.lo)) = true) : x = y := by
  obtain ⟨a, b, c⟩ := x
  obtain ⟨a', b', c'⟩ := y
  simp at h
  obtain ⟨rfl, rfl, rfl⟩ := h
  rfl
theorem take_eq_succ {α : Type} {xs ys : List α} {k : Nat} {x y : α} (hx : xs[k]? = some x) (hy : ys[k]? = some y) (h : xs.take k = ys.take k) (he : x = y) : xs.take (k + 1) = ys.take (k + 1) := by rw [take_snoc hx, take_snoc hy, h, he]
set_option maxRecDepth 100000 in
theorem values_any (xs ys : List WI) (a : Option Addr) (l c : Nat) (a' : Option Addr) (l' c' : Nat) (w : World) (hx : IntsAt w.heap.size w a l c xs) (hy : IntsAt w.heap.size w a' l' c' ys) :
    Calls Tryz.prog 42 #[.slice a l c, .slice a' l' c'] w fun e w' => ∃ r : Bool, e = .returned (.bool r) ∧ (r = true ↔ xs = ys) ∧ Below w.heap.size w w' := by
  have hlx := hx.1
  have hly := hy.1
  have hmx : l ≤ maxLen := Nat.le_trans hx.2.1 hx.2.2.1
  have hmy : l' ≤ maxLen := Nat.le_trans hy.2.1 hy.2.2.1
  unfold maxLen at hmx hmy
  have HX := Lib.hid hx
  have HY := Lib.hid hy
  have HLX := Lib.hid hlx
  have HLY := Lib.hid hly
  clear hx hy hlx hly
  by_cases hl : l = l'
  · subst hl
    go_enter Tryz.func42, Tryz.ntmps42
    go_wp2_with fail
    go_loopw [5] (fun i wr => ∃ k : Nat, k ≤ l ∧ i = .int .i64 (k : Int) ∧ xs.take k = ys.take k ∧ Below w.heap.size w wr) (fun i _ => l - (intOf i).toNat)
    case atStart => exact ⟨0, by omega, rfl, rfl, Below.refl _ _⟩
    case round =>
      obtain ⟨k, hk, rfl, htk, hbr⟩ := hrel
      by_cases hlt : k < l
      · obtain ⟨b, off, x, rfl, hB, hxk, hxw, x0, x1, x2⟩ := HX.out.get hbr hlt
        obtain ⟨b', off', y, rfl, hB', hyk, hyw, y0, y1, y2⟩ := HY.out.get hbr hlt
        obtain ⟨xn, xh, xl⟩ := x
        obtain ⟨yn, yh, yl⟩ := y
        have hne := fun w => int_ne xn yn xh yh xl yl w
        obtain ⟨r, hr⟩ : ∃ r, (xn == yn && (xh == yh && xl == yl)) = r := ⟨_, rfl⟩
        rw [hr] at hne
        have HR := Lib.hid hr
        have HXK := Lib.hid hxk
        have HYK := Lib.hid hyk
        have HTK := Lib.hid htk
        have HBR := Lib.hid hbr
        have i1 : (0 : Int) ≤ (k : Int) := by omega
        have i2 : (k : Int) < (l : Int) := by omega
        have z1 : b < wr.heap.size := by have := hbr.size; omega
        have z2 : b' < wr.heap.size := by have := hbr.size; omega
        clear hr hxk hyk htk hbr hxw hyw
        cases r
        · go_wp2_with fail
          go_quiet (fail)
          go_wp2_with fail
          go_returns
          refine ⟨false, rfl, ⟨fun h => (by cases h), fun h => ?_⟩, below_drewN HBR.out _⟩
          have h1 := HXK.out
          rw [h, HYK.out] at h1
          cases h1
          have := HR.out
          simp at this
        · go_wp2_with fail
          go_quiet (fail)
          go_wp2_with fail
          go_roundw
          case rel => exact ⟨k + 1, by omega, by go_num, take_eq_succ HXK.out HYK.out HTK.out (wi_ext HR.out), below_drewN HBR.out _⟩
          case measure => simp only [intOf]; omega
      · obtain rfl : k = l := by omega
        have HT := Lib.hid htk
        clear htk
        go_wp2_with fail
        go_returns
        refine ⟨true, rfl, ⟨fun _ => ?_, fun _ => rfl⟩, hbr⟩
        have h := HT.out
        rw [List.take_of_length_le (by have := HLX.out; omega), List.take_of_length_le (by have := HLY.out; omega)] at h
        exact h
  · have hl2 : ((l : Int) != (l' : Int)) = true := by rw [bne_iff_ne]; omega
    go_enter Tryz.func42, Tryz.ntmps42
    go_wp2_with fail
    go_returns
    exact ⟨false, rfl, ⟨fun h => (by cases h), fun h => absurd (by rw [← HLX.out, ← HLY.out, h]) hl⟩, Below.refl _ _⟩
end Go.Proofs.YtoadihebdaooaaaGreat
