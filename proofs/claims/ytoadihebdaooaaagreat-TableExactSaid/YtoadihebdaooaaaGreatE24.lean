/- Contracts of retrofitref04.Bytes, retrofitref07.Name. · Contract of retrofitref04.Bounds. Printed by mkZ5.py. · Contract of retrofitref04.Fits. -/
import Derived.Test.YtoadihebdaooaaaGreatE2
import Derived.Test.YtoadihebdaooaaaGreatE23
import Derived.Test.YtoadihebdaooaaaGreatE3
import Derived.Test.YtoadihebdaooaaaGreatE9
namespace Go.Proofs.YtoadihebdaooaaaGreat
open Go.RowKit
set_option linter.unusedVariables false
def bytesA : Array Value := #[.int .i64 0, .int .i64 1, .int .i64 1, .int .i64 2, .int .i64 4, .int .i64 8, .int .i64 1, .int .i64 2, .int .i64 4, .int .i64 8, .int .i64 8]
theorem bytesA_get {k : Int} (h1 : 1 ≤ k) (h2 : k ≤ 10) : bytesA[k.toNat]? = some (.int .i64 (kSize k)) := by
  rcases (by omega : k = 1 ∨ k = 2 ∨ k = 3 ∨ k = 4 ∨ k = 5 ∨ k = 6 ∨ k = 7 ∨ k = 8 ∨ k = 9 ∨ k = 10) with rfl | rfl | rfl | rfl | rfl | rfl | rfl | rfl | rfl | rfl <;> rfl
set_option maxRecDepth 100000 in
theorem bytes04_any (k : Int) (w : World) : Calls Tryz.prog 97 #[.int .i64 k] w fun e w' => e = .returned (.int .i64 (kSize k)) ∧ Below w.heap.size w w' := by
  rcases (by omega : k < 1 ∨ (1 ≤ k ∧ 10 < k) ∨ (1 ≤ k ∧ k ≤ 10)) with h | ⟨h, h'⟩ | ⟨h, h'⟩
  · have H : Hid (kSize k = 0) := Lib.hid (kSize_zero (by omega))
    go_enter Tryz.func97, Tryz.ntmps97
    go_wp2
    go_ret
    exact ⟨by rw [H.out]; rfl, Below.refl _ _⟩
  · have H : Hid (kSize k = 0) := Lib.hid (kSize_zero (by omega))
    go_enter Tryz.func97, Tryz.ntmps97
    go_wp2
    go_ret
    exact ⟨by rw [H.out]; rfl, Below.refl _ _⟩
  · have hc : (w.alloc (.cells bytesA 223)).cell? ⟨w.heap.size, k.toNat, none⟩ = some (.int .i64 (kSize k)) := (cell_at (heap_alloc_new w _) _).trans (bytesA_get h h')
    have h0 : 0 ≤ k := by omega
    have h11 : k < 11 := by omega
    have HG : Hid (Below w.heap.size w (w.alloc (.cells bytesA 223))) := Lib.hid (by go_grown)
    unfold bytesA at hc
    generalize kSize k = q at *
    go_enter Tryz.func97, Tryz.ntmps97
    go_wp2
    go_ret
    exact ⟨rfl, HG.out⟩
set_option maxRecDepth 100000 in
set_option maxHeartbeats 1000000 in
theorem name07_any (s : ByteArray) (w : World) (hs : s.size ≤ maxLen) : Calls Tryz.prog 58 #[.string s] w fun e w' => e = .returned (.bool (isNameB s)) ∧ w = w' := by
  unfold maxLen at hs
  by_cases h0 : s.size = 0
  · have H := Lib.hid (isName_long (.inl h0))
    have t0 : (s.size : Int) < 1 := by omega
    clear h0
    go_enter Tryz.func58, Tryz.ntmps58
    go_wp2
    go_ret
    exact ⟨ret_bool H.out.symm, rfl⟩
  · by_cases h1 : 12 < s.size
    · have H := Lib.hid (isName_long (.inr h1))
      have t0 : ¬ (s.size : Int) < 1 := by omega
      have t1 : (12 : Int) < (s.size : Int) := by omega
      clear h0 h1
      go_enter Tryz.func58, Tryz.ntmps58
      go_wp2
      go_ret
      exact ⟨ret_bool H.out.symm, rfl⟩
    · have t0 : ¬ (s.size : Int) < 1 := by omega
      have t1 : ¬ (12 : Int) < (s.size : Int) := by omega
      have H0 := Lib.hid h0
      have H1 := Lib.hid h1
      clear h0 h1
      go_enter Tryz.func58, Tryz.ntmps58
      go_wp2_with fail
      go_loop [3] (fun i => ∃ k : Nat, k ≤ s.size ∧ i = .int .i64 k ∧ (s.data.toList.take k).all chB = true ∧ (0 < k → letB ((s.data.toList.getD 0 0).toNat) = true)) (fun i => s.size - (intOf i).toNat)
      case atStart => exact ⟨0, Nat.zero_le _, rfl, rfl, fun h => by omega⟩
      case round =>
        obtain ⟨k, hk, rfl, hall, hfst⟩ := hrel
        have HA := Lib.hid hall
        have HF := Lib.hid hfst
        clear hall hfst t0 t1
        by_cases hlt : k < s.size
        · have HT := Lib.hid (take_snoc (data_get? hlt))
          have hlt' : (k : Int) < (s.size : Int) := by omega
          have hb0 : (s[k].toNat : Int) ≤ 255 := by have := s[k].toNat_lt; omega
          have HD := Lib.hid (data_getD hlt)
          rcases (by omega : (s[k].toNat : Int) < 48 ∨ (48 ≤ (s[k].toNat : Int) ∧ (s[k].toNat : Int) ≤ 57) ∨ (57 < (s[k].toNat : Int) ∧ (s[k].toNat : Int) < 97) ∨ (97 ≤ (s[k].toNat : Int) ∧ (s[k].toNat : Int) ≤ 122) ∨ 122 < (s[k].toNat : Int)) with h | ⟨h, h'⟩ | ⟨h, h'⟩ | ⟨h, h'⟩ | h
          · have H := Lib.hid (isName_bad hlt (by unfold chB letB; simp; omega))
            have e1 : decide (97 ≤ (s[k].toNat : Int)) = false := by simp; omega
            have e2 : decide (48 ≤ (s[k].toNat : Int)) = false := by simp; omega
            go_wp2
            go_ret
            exact ⟨ret_bool H.out.symm, rfl⟩
          · have e1 : decide (97 ≤ (s[k].toNat : Int)) = false := by simp; omega
            have e2 : decide (48 ≤ (s[k].toNat : Int)) = true := by simp; omega
            have e3 : decide ((s[k].toNat : Int) ≤ 57) = true := by simp; omega
            by_cases hk0 : k = 0
            · have hb : letB (s[k].toNat) = false := by unfold letB; simp; omega
              have H : Hid (isNameB s = false) := Lib.hid (by subst hk0; exact isName_head hlt hb)
              have e4 : ((k : Int) == 0) = true := by simp; omega
              clear hb hk0
              go_wp2
              go_ret
              exact ⟨ret_bool H.out.symm, rfl⟩
            · have H := Lib.hid (show chB s[k] = true by unfold chB letB; simp; omega)
              have e4 : ((k : Int) == 0) = false := by simp; omega
              have HK := Lib.hid hk0
              clear hk0
              go_wp2
              go_round
              case rel => exact ⟨k + 1, by omega, by go_num, by rw [HT.out, List.all_append, HA.out]; simp [H.out], fun _ => HF.out (by have := HK.out; omega)⟩
              case measure => simp [intOf]; omega
          · have H := Lib.hid (isName_bad hlt (by unfold chB letB; simp; omega))
            have e1 : decide (97 ≤ (s[k].toNat : Int)) = false := by simp; omega
            have e2 : decide (48 ≤ (s[k].toNat : Int)) = true := by simp; omega
            have e3 : decide ((s[k].toNat : Int) ≤ 57) = false := by simp; omega
            go_wp2
            go_ret
            exact ⟨ret_bool H.out.symm, rfl⟩
          · have H := Lib.hid (show chB s[k] = true by unfold chB letB; simp; omega)
            have HL := Lib.hid (show letB (s[k].toNat) = true by unfold letB; simp; omega)
            have e1 : decide (97 ≤ (s[k].toNat : Int)) = true := by simp; omega
            have e2 : decide (48 ≤ (s[k].toNat : Int)) = true := by simp; omega
            have e3 : decide ((s[k].toNat : Int) ≤ 57) = false := by simp; omega
            have e5 : decide ((s[k].toNat : Int) ≤ 122) = true := by simp; omega
            go_wp2
            go_round
            case rel =>
              refine ⟨k + 1, by omega, by go_num, by rw [HT.out, List.all_append, HA.out]; simp [H.out], fun _ => ?_⟩
              rcases (by omega : k = 0 ∨ 0 < k) with hz | hz
              · have h1 := HL.out
                have h2 := HD.out
                subst hz
                rw [h2]; exact h1
              · exact HF.out hz
            case measure => simp [intOf]; omega
          · have H := Lib.hid (isName_bad hlt (by unfold chB letB; simp; omega))
            have e1 : decide (97 ≤ (s[k].toNat : Int)) = true := by simp; omega
            have e2 : decide (48 ≤ (s[k].toNat : Int)) = true := by simp; omega
            have e3 : decide ((s[k].toNat : Int) ≤ 57) = false := by simp; omega
            have e5 : decide ((s[k].toNat : Int) ≤ 122) = false := by simp; omega
            go_wp2
            go_ret
            exact ⟨ret_bool H.out.symm, rfl⟩
        · obtain rfl : k = s.size := by omega
          have h0 := H0.out
          have hp : 0 < s.size := by omega
          have H := Lib.hid (isName_good hp (by have := H1.out; omega) (by have := HF.out hp; rwa [data_getD hp] at this) (by have := HA.out; rwa [List.take_of_length_le (by simp)] at this))
          clear h0 hp
          go_wp2
          go_ret
          exact ⟨ret_bool H.out.symm, rfl⟩
end Go.Proofs.YtoadihebdaooaaaGreat
namespace Go.Proofs.YtoadihebdaooaaaGreat
open Go.RowKit
set_option linter.unusedVariables false
def lstA : Array Value := #[.int .u64 0, .int .u64 0, .int .u64 128, .int .u64 32768, .int .u64 2147483648, .int .u64 9223372036854775808, .int .u64 0, .int .u64 0, .int .u64 0, .int .u64 0, .int .u64 0]
def mstA : Array Value := #[.int .u64 0, .int .u64 1, .int .u64 127, .int .u64 32767, .int .u64 2147483647, .int .u64 9223372036854775807, .int .u64 255, .int .u64 65535, .int .u64 4294967295, .int .u64 18446744073709551615, .int .u64 18446744073709551615]
theorem lst_lit : (#[.int .u64 0, .int .u64 0, .int .u64 128, .int .u64 32768, .int .u64 2147483648, .int .u64 9223372036854775808, .int .u64 0, .int .u64 0, .int .u64 0, .int .u64 0, .int .u64 0] : Array Value) = lstA := rfl
theorem mst_lit : (#[.int .u64 0, .int .u64 1, .int .u64 127, .int .u64 32767, .int .u64 2147483647, .int .u64 9223372036854775807, .int .u64 255, .int .u64 65535, .int .u64 4294967295, .int .u64 18446744073709551615, .int .u64 18446744073709551615] : Array Value) = mstA := rfl
def lstN (k : Int) : Int := if kSig k then kMax k + 1 else 0
theorem lst_get {k : Int} (h1 : 1 ≤ k) (h2 : k ≤ 10) : lstA[k.toNat]? = some (.int .u64 (lstN k)) ∧ mstA[k.toNat]? = some (.int .u64 (kMax k)) ∧ decide (0 < lstN k) = kSig k ∧ leastW k = ⟨kSig k, 0, lstN k⟩ := by
  rcases (by omega : k = 1 ∨ k = 2 ∨ k = 3 ∨ k = 4 ∨ k = 5 ∨ k = 6 ∨ k = 7 ∨ k = 8 ∨ k = 9 ∨ k = 10) with rfl | rfl | rfl | rfl | rfl | rfl | rfl | rfl | rfl | rfl <;> exact ⟨rfl, rfl, by decide, by rfl⟩
def z3 : Array Value := #[.bool false, .int .u64 0, .int .u64 0]
/-- What the last statement of Bounds keeps, whatever of it has been done. -/
structure MB (w0 : World) (B : Nat) (S : Bool) (L M : Int) (f : Nat → Bool) (w : World) : Prop where
  r1 : w.heap[B]? = some (.cells (if f 12 then #[.bool S, .int .u64 0, .int .u64 L] else z3) 148 (0, 0))
  r2 : w.heap[B + 1]? = some (.cells (if f 13 then #[.bool false, .int .u64 0, .int .u64 M] else z3) 148 (0, 0))
  l : w.heap[B + 1 + 1]? = some (.cells lstA 267 (0, 0))
  m : w.heap[B + 1 + 1 + 1]? = some (.cells mstA 267 (0, 0))
  bel : Below B w0 w
theorem MB.do12 {w0 w : World} {B : Nat} {S : Bool} {L M : Int} {f : Nat → Bool} (h : MB w0 B S L M f w) (hf : f 12 = false) : MB w0 B S L M (setB f 12) (((w.setCell ⟨B, 0, none⟩ (.bool S)).setCell ⟨B, 1, none⟩ (.int .u64 0)).setCell ⟨B, 2, none⟩ (.int .u64 L)) := by
  have h1 := h.r1
  rw [hf] at h1
  have e12 : setB f 12 12 = true := by unfold setB; simp
  have e13 : setB f 12 13 = f 13 := by unfold setB; simp
  have hn : ∀ b, b ≠ B → (((w.setCell ⟨B, 0, none⟩ (.bool S)).setCell ⟨B, 1, none⟩ (.int .u64 0)).setCell ⟨B, 2, none⟩ (.int .u64 L)).heap[b]? = w.heap[b]? := fun b hb => by
    rw [hset_ne _ _ _ _ hb, hset_ne _ _ _ _ hb, hset_ne _ _ _ _ hb]
  refine ⟨?_, ?_, (hn _ (by omega)).trans h.l, (hn _ (by omega)).trans h.m, ((h.bel.setCell (Nat.le_refl _) _).setCell (Nat.le_refl _) _).setCell (Nat.le_refl _) _⟩
  · rw [hset _ _ _ _ _ _ _ (hset _ _ _ _ _ _ _ (hset _ _ _ _ _ _ _ h1)), e12]
    rfl
  · rw [hn _ (by omega), e13]; exact h.r2
theorem MB.do13 {w0 w : World} {B : Nat} {S : Bool} {L M : Int} {f : Nat → Bool} (h : MB w0 B S L M f w) (hf : f 13 = false) : MB w0 B S L M (setB f 13) (((w.setCell ⟨B + 1, 0, none⟩ (.bool false)).setCell ⟨B + 1, 1, none⟩ (.int .u64 0)).setCell ⟨B + 1, 2, none⟩ (.int .u64 M)) := by
  have h1 := h.r2
  rw [hf] at h1
  have e12 : setB f 13 12 = f 12 := by unfold setB; simp
  have e13 : setB f 13 13 = true := by unfold setB; simp
  have hn : ∀ b, b ≠ B + 1 → (((w.setCell ⟨B + 1, 0, none⟩ (.bool false)).setCell ⟨B + 1, 1, none⟩ (.int .u64 0)).setCell ⟨B + 1, 2, none⟩ (.int .u64 M)).heap[b]? = w.heap[b]? := fun b hb => by
    rw [hset_ne _ _ _ _ hb, hset_ne _ _ _ _ hb, hset_ne _ _ _ _ hb]
  refine ⟨?_, ?_, (hn _ (by omega)).trans h.l, (hn _ (by omega)).trans h.m, ((h.bel.setCell (by simp) _).setCell (by simp) _).setCell (by simp) _⟩
  · rw [hn _ (by omega), e12]; exact h.r1
  · rw [hset _ _ _ _ _ _ _ (hset _ _ _ _ _ _ _ (hset _ _ _ _ _ _ _ h1)), e13]
    rfl
set_option maxRecDepth 100000 in
set_option maxHeartbeats 2000000 in
theorem bounds04_any (k : Int) (w : World) (h1 : 1 ≤ k) (h2 : k ≤ 10) : Calls Tryz.prog 155 #[.int .i64 k] w fun e w' => e = .returned (.tuple #[(leastW k).v, (greatW k).v]) ∧ Below w.heap.size w w' := by
  obtain ⟨g1, g2, g3, g4⟩ := lst_get h1 h2
  obtain ⟨VL, hVL⟩ : ∃ v, (leastW k).v = v := ⟨_, rfl⟩
  obtain ⟨VG, hVG⟩ : ∃ v, (greatW k).v = v := ⟨_, rfl⟩
  rw [hVL, hVG]
  have HVE := Lib.hid (And.intro hVL hVG)
  clear hVL hVG
  have hR1 := keepA (.cells mstA 267) (keepA (.cells lstA 267) (keepA (.cells #[.bool false, .int .u64 0, .int .u64 0] 148) (heap_alloc_new w (.cells #[.bool false, .int .u64 0, .int .u64 0] 148))))
  have hR2 := keepA (.cells mstA 267) (keepA (.cells lstA 267) (heap_alloc_new (w.alloc (.cells #[.bool false, .int .u64 0, .int .u64 0] 148)) (.cells #[.bool false, .int .u64 0, .int .u64 0] 148)))
  have hL := keepA (.cells mstA 267) (heap_alloc_new ((w.alloc (.cells #[.bool false, .int .u64 0, .int .u64 0] 148)).alloc (.cells #[.bool false, .int .u64 0, .int .u64 0] 148)) (.cells lstA 267))
  have hM := heap_alloc_new (((w.alloc (.cells #[.bool false, .int .u64 0, .int .u64 0] 148)).alloc (.cells #[.bool false, .int .u64 0, .int .u64 0] 148)).alloc (.cells lstA 267)) (.cells mstA 267)
  have hb : Below w.heap.size w ((((w.alloc (.cells #[.bool false, .int .u64 0, .int .u64 0] 148)).alloc (.cells #[.bool false, .int .u64 0, .int .u64 0] 148)).alloc (.cells lstA 267)).alloc (.cells mstA 267)) := by go_grown
  rw [World.size_alloc] at hR2
  rw [World.size_alloc, World.size_alloc] at hL
  rw [World.size_alloc, World.size_alloc, World.size_alloc] at hM
  have HH := Lib.hid (And.intro hR1 (And.intro hR2 (And.intro hL (And.intro hM hb))))
  have HG := Lib.hid (And.intro g1 (And.intro g2 (And.intro g3 g4)))
  clear hR1 hR2 hL hM hb g1 g2 g3 g4
  go_enter Tryz.func155, Tryz.ntmps155
  go_upto_region 5 with (fail)
  obtain ⟨hR1, hR2, hL, hM, hb⟩ := HH.out
  rw [lst_lit, mst_lit]
  clear HH
  generalize ((((w.alloc (.cells #[.bool false, .int .u64 0, .int .u64 0] 148)).alloc (.cells #[.bool false, .int .u64 0, .int .u64 0] 148)).alloc (.cells lstA 267)).alloc (.cells mstA 267)) = W at *
  generalize hBe : w.heap.size = B at *
  have d := HG.out.2.2.1
  obtain ⟨L, hLe⟩ : ∃ L, lstN k = L := ⟨_, rfl⟩
  obtain ⟨M, hMe⟩ : ∃ M, kMax k = M := ⟨_, rfl⟩
  obtain ⟨S, hSe⟩ : ∃ S, kSig k = S := ⟨_, rfl⟩
  have HC : Hid (lstA[k.toNat]? = some (.int .u64 L) ∧ mstA[k.toNat]? = some (.int .u64 M)) := Lib.hid ⟨by rw [← hLe]; exact HG.out.1, by rw [← hMe]; exact HG.out.2.1⟩
  rw [hLe, hSe] at d
  have i1 : (0 : Int) ≤ k := by omega
  have i2 : k < 11 := by omega
  have HM0 : Hid (MB w B S L M (fun _ => false) W) := Lib.hid ⟨hR1, hR2, hL, hM, hb⟩
  have HV : Hid (VL = .agg #[.bool S, .int .u64 0, .int .u64 L] ∧ VG = .agg #[.bool false, .int .u64 0, .int .u64 M]) := Lib.hid ⟨by rw [← HVE.out.1, HG.out.2.2.2, hSe, hLe]; rfl, by rw [← HVE.out.2, ← hMe]; rfl⟩
  clear hR1 hR2 hL hM hb hLe hMe hSe
  refine wp_region_mem (by kernel_rfl) (by kernel_rfl) (by kernel_rfl) (by kernel_rfl) (fun i => ([(.int .i64 k), (.pointer (some ⟨B + 1 + 1, k.toNat, none⟩)), (.int .u64 L), (.bool S), (.int .i64 k), (.pointer (some ⟨B + 1 + 1, k.toNat, none⟩)), (.int .u64 L), (.agg #[.bool S, .int .u64 0, .int .u64 L]), (.int .i64 k), (.pointer (some ⟨B + 1 + 1 + 1, k.toNat, none⟩)), (.int .u64 M), (.agg #[.bool false, .int .u64 0, .int .u64 M]), undef, undef] : List Value).getD i undef) (fun i => i == 12 || i == 13) (fun f _ w' => MB w B S L M f w') (fun f g vs us w' hs h => ⟨by rw [← (hs 12 rfl).1]; exact h.r1, by rw [← (hs 13 rfl).1]; exact h.r2, h.l, h.m, h.bel⟩) (fun i hi => by simp at hi; simp; omega) ?_ ?_ ?_ ?_
  · intro vs
    exact ⟨HM0.out.r1, HM0.out.r2, HM0.out.l, HM0.out.m, HM0.out.bel.drew⟩
  · intro f vs w' i o hS hMw ho hd
    simp only [putAll, Act.put, List.setIfInBounds_toArray, List.set_cons_succ, List.set_cons_zero]
    have c1 := (cell_at hMw.l k.toNat).trans HC.out.1
    have c2 := (cell_at hMw.m k.toNat).trans HC.out.2
    clear hMw
    revert hS ho hd
    match i with
    | 0 =>
      intro _ ho hd
      obtain rfl := (Option.some.inj ho).symm
      clear ho hd
      go_simp
    | 1 =>
      intro _ ho hd
      obtain rfl := (Option.some.inj ho).symm
      have d0 : vs 0 = (.int .i64 k) := (hd ⟨0, .data⟩ (by simp) rfl).2 rfl
      clear ho hd
      rw [d0]
      go_simp
    | 2 =>
      intro _ ho hd
      obtain rfl := (Option.some.inj ho).symm
      have d1 : vs 1 = (.pointer (some ⟨B + 1 + 1, k.toNat, none⟩)) := (hd ⟨1, .data⟩ (by simp) rfl).2 rfl
      clear ho hd
      rw [d1]
      go_simp
    | 3 =>
      intro _ ho hd
      obtain rfl := (Option.some.inj ho).symm
      have d2 : vs 2 = (.int .u64 L) := (hd ⟨2, .data⟩ (by simp) rfl).2 rfl
      clear ho hd
      rw [d2]
      go_simp
    | 4 =>
      intro _ ho hd
      obtain rfl := (Option.some.inj ho).symm
      clear ho hd
      go_simp
    | 5 =>
      intro _ ho hd
      obtain rfl := (Option.some.inj ho).symm
      have d4 : vs 4 = (.int .i64 k) := (hd ⟨4, .data⟩ (by simp) rfl).2 rfl
      clear ho hd
      rw [d4]
      go_simp
    | 6 =>
      intro _ ho hd
      obtain rfl := (Option.some.inj ho).symm
      have d5 : vs 5 = (.pointer (some ⟨B + 1 + 1, k.toNat, none⟩)) := (hd ⟨5, .data⟩ (by simp) rfl).2 rfl
      clear ho hd
      rw [d5]
      go_simp
    | 7 =>
      intro _ ho hd
      obtain rfl := (Option.some.inj ho).symm
      have d3 : vs 3 = (.bool S) := (hd ⟨3, .data⟩ (by simp) rfl).2 rfl
      have d6 : vs 6 = (.int .u64 L) := (hd ⟨6, .data⟩ (by simp) rfl).2 rfl
      clear ho hd
      rw [d3, d6]
      go_simp
    | 8 =>
      intro _ ho hd
      obtain rfl := (Option.some.inj ho).symm
      clear ho hd
      go_simp
    | 9 =>
      intro _ ho hd
      obtain rfl := (Option.some.inj ho).symm
      have d8 : vs 8 = (.int .i64 k) := (hd ⟨8, .data⟩ (by simp) rfl).2 rfl
      clear ho hd
      rw [d8]
      go_simp
    | 10 =>
      intro _ ho hd
      obtain rfl := (Option.some.inj ho).symm
      have d9 : vs 9 = (.pointer (some ⟨B + 1 + 1 + 1, k.toNat, none⟩)) := (hd ⟨9, .data⟩ (by simp) rfl).2 rfl
      clear ho hd
      rw [d9]
      go_simp
    | 11 =>
      intro _ ho hd
      obtain rfl := (Option.some.inj ho).symm
      have d10 : vs 10 = (.int .u64 M) := (hd ⟨10, .data⟩ (by simp) rfl).2 rfl
      clear ho hd
      rw [d10]
      go_simp
    | 12 => intro hS; exact Bool.noConfusion hS
    | 13 => intro hS; exact Bool.noConfusion hS
    | n + 14 =>
      intro _ ho
      simp at ho
  · intro f vs w' i o hS hMw hfi ho hd
    simp only [putAll, Act.put, List.setIfInBounds_toArray, List.set_cons_succ, List.set_cons_zero]
    revert hS hfi ho hd
    match i with
    | 0 => intro hS; exact Bool.noConfusion hS
    | 1 => intro hS; exact Bool.noConfusion hS
    | 2 => intro hS; exact Bool.noConfusion hS
    | 3 => intro hS; exact Bool.noConfusion hS
    | 4 => intro hS; exact Bool.noConfusion hS
    | 5 => intro hS; exact Bool.noConfusion hS
    | 6 => intro hS; exact Bool.noConfusion hS
    | 7 => intro hS; exact Bool.noConfusion hS
    | 8 => intro hS; exact Bool.noConfusion hS
    | 9 => intro hS; exact Bool.noConfusion hS
    | 10 => intro hS; exact Bool.noConfusion hS
    | 11 => intro hS; exact Bool.noConfusion hS
    | 12 =>
      intro _ hfi ho hd
      obtain rfl := (Option.some.inj ho).symm
      have d7 : vs 7 = (.agg #[.bool S, .int .u64 0, .int .u64 L]) := (hd ⟨7, .data⟩ (by simp) rfl).2 rfl
      clear ho hd
      rw [d7]
      have hq := hMw.r1
      rw [hfi] at hq
      have a0 := cell_at hq 0
      have e0 := free_at hq 0
      have a1 := cell_at hq 1
      have e1 := free_at hq 1
      have a2 := cell_at hq 2
      have e2 := free_at hq 2
      unfold z3 at a0 a1 a2
      simp at a0 a1 a2
      have HD := Lib.hid (hMw.do12 hfi)
      clear hq hMw
      go_simp
      exact HD.out
    | 13 =>
      intro _ hfi ho hd
      obtain rfl := (Option.some.inj ho).symm
      have d11 : vs 11 = (.agg #[.bool false, .int .u64 0, .int .u64 M]) := (hd ⟨11, .data⟩ (by simp) rfl).2 rfl
      clear ho hd
      rw [d11]
      have hq := hMw.r2
      rw [hfi] at hq
      have a0 := cell_at hq 0
      have e0 := free_at hq 0
      have a1 := cell_at hq 1
      have e1 := free_at hq 1
      have a2 := cell_at hq 2
      have e2 := free_at hq 2
      unfold z3 at a0 a1 a2
      simp at a0 a1 a2
      have HD := Lib.hid (hMw.do13 hfi)
      clear hq hMw
      go_simp
      exact HD.out
    | n + 14 =>
      intro _ _ ho
      simp at ho
  · intro vs w' hMw hcs
    have q1 := hMw.r1
    have q2 := hMw.r2
    rw [if_pos rfl] at q1 q2
    have a0 := cell_at q1 0
    have a1 := cell_at q1 1
    have a2 := cell_at q1 2
    have b0 := cell_at q2 0
    have b1 := cell_at q2 1
    have b2 := cell_at q2 2
    simp at a0 a1 a2 b0 b1 b2
    have HB := Lib.hid hMw.bel
    clear hMw hcs q1 q2
    simp only [putAll, Act.put, List.setIfInBounds_toArray, List.set_cons_succ, List.set_cons_zero]
    go_wp2_with fail
    refine bodyPost_ret (v := .tuple #[.agg #[.bool S, .int .u64 0, .int .u64 L], .agg #[.bool false, .int .u64 0, .int .u64 M]]) (by simp [results, Tryz.results155, go_sem, a0, a1, a2, b0, b1, b2]) rfl ?_
    exact ⟨by rw [HV.out.1, HV.out.2], by rw [hBe]; exact HB.out⟩
end Go.Proofs.YtoadihebdaooaaaGreat
namespace Go.Proofs.YtoadihebdaooaaaGreat
open Go.RowKit
set_option linter.unusedVariables false
set_option maxRecDepth 100000 in
set_option maxHeartbeats 1000000 in
theorem fits04_any (k : Int) (x : WI) (w : World) (hx : x.wf) : Calls Tryz.prog 127 #[.int .i64 k, x.v] w fun e w' => e = .returned (.bool (fitsF k x)) ∧ Below w.heap.size w w' := by
  have HGD := Lib.hid (fun W => good01_any x W hx)
  have HCM := Lib.hid (fun y W (hy : WI.wf y) (fx : x.form = true) (fy : y.form = true) => cmp01_any x y W hx hy fx fy)
  have hb0 : Below w.heap.size w (w.alloc (.cells #[.bool x.neg, .int .u64 x.hi, .int .u64 x.lo] 148)) := by go_grown
  have hX0 := heap_alloc_new w (.cells #[.bool x.neg, .int .u64 x.hi, .int .u64 x.lo] 148)
  have HX0 := Lib.hid (And.intro hX0 hb0)
  obtain ⟨r, hr⟩ : ∃ r, fitsF k x = r := ⟨_, rfl⟩
  rw [hr]
  have HR := Lib.hid hr
  obtain ⟨F, hF⟩ : ∃ F, x.form = F := ⟨_, rfl⟩
  obtain ⟨V, hV⟩ : ∃ V, x.val = V := ⟨_, rfl⟩
  have HFV := Lib.hid (And.intro hF hV)
  rw [hF] at HGD
  clear hX0 hb0 hr hx
  obtain ⟨n, hi, lo⟩ := x
  dsimp only at HX0
  dsimp only [WI.v] at HGD HCM ⊢
  clear hF hV
  by_cases hk : 1 ≤ k ∧ k ≤ 10
  · obtain ⟨h1, h2⟩ := hk
    have e1 : (kSize k == 0) = false := by rw [beq_eq_false_iff_ne]; have := kSize_set h1 h2; omega
    have HBD := Lib.hid (fun W => bounds04_any k W h1 h2)
    have HRV : Hid (r = (F && decide (kMin k ≤ V) && decide (V ≤ kMax k))) := Lib.hid (by rw [← HR.out]; unfold fitsF; rw [kindB_true h1 h2, HFV.out.1, HFV.out.2]; simp)
    generalize hq : kSize k = q at *
    go_enter Tryz.func127, Tryz.ntmps127
    go_wp2_with fail
    generalize w.alloc (.cells #[.bool n, .int .u64 hi, .int .u64 lo] 148) = W at *
    refine (bytes04_any k W).mono ?_
    rintro e w1 ⟨rfl, hb1⟩
    rw [hq]
    have hx1 := keep hb1 HX0.out.1
    have x0 := cell_at hx1 0
    have x1 := cell_at hx1 1
    have x2 := cell_at hx1 2
    simp at x0 x1 x2
    have hxl := lt_some hx1
    have HX1 := Lib.hid (And.intro hx1 (HX0.out.2.trans (hb1.mono HX0.out.2.size)))
    clear hx1 hb1
    go_wp2_with fail
    refine (HGD.out w1).mono ?_
    rintro e w2 ⟨rfl, hb2⟩
    have hx2 := keep hb2 HX1.out.1
    have HX2 := Lib.hid (And.intro hx2 (HX1.out.2.trans (hb2.mono HX1.out.2.size)))
    clear x0 x1 x2 hb2 hxl
    cases F
    · have hr0 : r = false := by rw [HRV.out]; rfl
      subst hr0
      go_wp2_with fail
      go_returns
      exact ⟨rfl, HX2.out.2⟩
    · go_wp2_with fail
      refine (HBD.out w2).mono ?_
      rintro e w3 ⟨rfl, hb3⟩
      have hca := fun W => HCM.out (leastW k) W (leastW_wf k) HFV.out.1 (leastW_form k)
      have hcb := fun W => HCM.out (greatW k) W (greatW_wf k) HFV.out.1 (greatW_form k)
      simp only [HFV.out.2, leastW_val, greatW_val] at hca hcb
      obtain ⟨A, hA⟩ : ∃ A, leastW k = A := ⟨_, rfl⟩
      obtain ⟨C, hC⟩ : ∃ C, greatW k = C := ⟨_, rfl⟩
      rw [hA, hC]
      rw [hA] at hca
      rw [hC] at hcb
      clear hA hC
      obtain ⟨an, ah, al⟩ := A
      obtain ⟨bn, bh, bl⟩ := C
      dsimp only [WI.v] at hca hcb ⊢
      obtain ⟨sa, hsa⟩ : ∃ sa, signF V (kMin k) = sa := ⟨_, rfl⟩
      obtain ⟨sb, hsb⟩ : ∃ sb, signF V (kMax k) = sb := ⟨_, rfl⟩
      rw [hsa] at hca
      rw [hsb] at hcb
      have HCA := Lib.hid hca
      have HCB := Lib.hid hcb
      have HS := Lib.hid (And.intro hsa hsb)
      clear hca hcb hsa hsb
      have hx3 := keep hb3 HX2.out.1
      have HB3 := Lib.hid (HX2.out.2.trans (hb3.mono HX2.out.2.size))
      have HX3 := Lib.hid (keepA (.cells #[.bool bn, .int .u64 bh, .int .u64 bl] 148) (keepA (.cells #[.bool an, .int .u64 ah, .int .u64 al] 148) hx3))
      have HA3 := Lib.hid (keepA (.cells #[.bool bn, .int .u64 bh, .int .u64 bl] 148) (heap_alloc_new w3 (.cells #[.bool an, .int .u64 ah, .int .u64 al] 148)))
      have HC3 := Lib.hid (heap_alloc_new (w3.alloc (.cells #[.bool an, .int .u64 ah, .int .u64 al] 148)) (.cells #[.bool bn, .int .u64 bh, .int .u64 bl] 148))
      have hz := HB3.out.size
      have HB4 := Lib.hid ((HB3.out.alloc hz (.cells #[.bool an, .int .u64 ah, .int .u64 al] 148)).alloc (by simp; omega) (.cells #[.bool bn, .int .u64 bh, .int .u64 bl] 148))
      have x0 := cell_at hx3 0
      have x1 := cell_at hx3 1
      have x2 := cell_at hx3 2
      simp at x0 x1 x2
      have hxl := lt_some hx3
      clear hx3 hb3 hx2
      go_wp2_with fail
      refine (HCA.out _).mono ?_
      rintro e w4 ⟨rfl, hb4⟩
      have HB5 := Lib.hid (HB4.out.trans (hb4.mono HB4.out.size))
      have hx4 := keep hb4 HX3.out
      have hc4 := keep hb4 HC3.out
      rw [World.size_alloc] at hc4
      have y0 := cell_at hx4 0
      have y1 := cell_at hx4 1
      have y2 := cell_at hx4 2
      have b0 := cell_at hc4 0
      have b1 := cell_at hc4 1
      have b2 := cell_at hc4 2
      simp at y0 y1 y2 b0 b1 b2
      have hl4 := lt_some hc4
      have hxl4 := lt_some hx4
      clear x0 x1 x2 hb4 hx4 hc4 hxl
      by_cases h3 : kMin k ≤ V
      · have e3 : decide (0 ≤ sa) = true := by rw [← HS.out.1]; simp; exact sign_ge.2 h3
        have h3' : decide (kMin k ≤ V) = true := by simp; exact h3
        have HRW : Hid (r = decide (sb ≤ 0)) := Lib.hid (by
          rw [HRV.out, h3', ← HS.out.2]
          simp [sign_le])
        clear h3 h3'
        go_wp2_with fail
        refine (HCB.out w4).mono ?_
        rintro e w5 ⟨rfl, hb5⟩
        have HB6 := Lib.hid (HB5.out.trans (hb5.mono HB5.out.size))
        clear hb5 y0 y1 y2 b0 b1 b2
        go_wp2_with fail
        go_returns
        exact ⟨ret_bool HRW.out.symm, HB6.out⟩
      · have e3 : decide (0 ≤ sa) = false := by
          rw [← HS.out.1]
          have : ¬ 0 ≤ signF V (kMin k) := fun h => h3 (sign_ge.1 h)
          simp
          omega
        have hr0 : r = false := by rw [HRV.out]; simp; omega
        subst hr0
        clear h3
        go_wp2_with fail
        go_returns
        exact ⟨rfl, HB5.out⟩
  · have e1 : kSize k = 0 := kSize_zero hk
    have hr0 : r = false := by
      rw [← HR.out]
      unfold fitsF
      have : kindB k = false := by unfold kindB; simp; omega
      rw [this]; rfl
    subst hr0
    go_enter Tryz.func127, Tryz.ntmps127
    go_wp2_with fail
    refine (bytes04_any k _).mono ?_
    rintro e w1 ⟨rfl, hb1⟩
    rw [e1]
    have HB := Lib.hid (HX0.out.2.trans (hb1.mono HX0.out.2.size))
    clear hb1
    go_wp2_with fail
    go_returns
    exact ⟨rfl, HB.out⟩
end Go.Proofs.YtoadihebdaooaaaGreat
