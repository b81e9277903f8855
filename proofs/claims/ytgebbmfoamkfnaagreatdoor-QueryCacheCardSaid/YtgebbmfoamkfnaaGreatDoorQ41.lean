/- Contracts of retrofitref10.Bits, Is, Ids. · Plain: a set's ids and its test are those of the document. · retrofitref20.has, Matches: the answers of the document. · QueryCache: the asks; the law's own map of what it saw. -/
import Derived.Test.YtgebbmfoamkfnaaGreatDoorQ1
import Derived.Deep.DeepCutAuto
import Derived.Test.YtgebbmfoamkfnaaGreatDoorQ16
import Derived.Test.YtgebbmfoamkfnaaGreatDoorQ26
import Derived.Test.YtgebbmfoamkfnaaGreatDoorQ39
import Derived.Test.YtgebbmfoamkfnaaGreatDoorQ18
namespace Go.Proofs.YtgebbmfoamkfnaaGreatDoor
open Go.RowKit
set_option linter.unusedVariables false
/-- A bit of a number. -/
def bitAt (s : Int) (i : Nat) : Bool := s / 2 ^ i % 2 == 1
/-- The first k of 32 bits, the others not set. -/
def bitsK (s : Int) (k : Nat) : List Value := (List.range 32).map fun i => .bool (decide (i < k) && bitAt s i)
def bitsV (s : Int) : Array Value := (bitsK s 32).toArray
theorem bitsK_len (s : Int) (k : Nat) : (bitsK s k).length = 32 := by simp [bitsK]
theorem bitsK_get (s : Int) (k : Nat) {i : Nat} (h : i < 32) : (bitsK s k)[i]? = some (.bool (decide (i < k) && bitAt s i)) := by
  unfold bitsK; rw [List.getElem?_map, List.getElem?_range h]; rfl
theorem bitsV_get (s : Int) {i : Nat} (h : i < 32) : (bitsV s)[i]? = some (.bool (bitAt s i)) := by
  unfold bitsV
  rw [List.getElem?_toArray, bitsK_get s 32 h]; simp [h]
theorem bitsK_set (s : Int) (k : Nat) (h : k < 32) : (bitsK s k).set k (.bool (bitAt s k)) = bitsK s (k + 1) := by
  apply List.ext_getElem?
  intro i
  rw [List.getElem?_set]
  by_cases hi : i < 32
  · rw [bitsK_get _ _ hi, bitsK_get _ _ hi]
    by_cases hk : k = i
    · subst hk; rw [if_pos rfl, if_pos (by rw [bitsK_len]; omega)]; simp
    · rw [if_neg hk]
      congr 3
      have : (i < k) ↔ (i < k + 1) := by omega
      simp [this]
  · rw [List.getElem?_eq_none (by rw [bitsK_len]; omega), List.getElem?_eq_none (by rw [bitsK_len]; omega), if_neg (by omega)]
theorem bitsK_one (s : Int) (k : Nat) : (bitsK s k).toArray.all (·.oneCell') = true := by
  rw [Array.all_eq_true_iff_forall_mem]; intro v hv; simp [bitsK] at hv; obtain ⟨x, _, rfl⟩ := hv; rfl
def zerosB : Array Value := #[.bool false, .bool false, .bool false, .bool false, .bool false, .bool false, .bool false, .bool false, .bool false, .bool false, .bool false, .bool false, .bool false, .bool false, .bool false, .bool false, .bool false, .bool false, .bool false, .bool false, .bool false, .bool false, .bool false, .bool false, .bool false, .bool false, .bool false, .bool false, .bool false, .bool false, .bool false, .bool false]
theorem zerosBV : (#[.bool false, .bool false, .bool false, .bool false, .bool false, .bool false, .bool false, .bool false, .bool false, .bool false, .bool false, .bool false, .bool false, .bool false, .bool false, .bool false, .bool false, .bool false, .bool false, .bool false, .bool false, .bool false, .bool false, .bool false, .bool false, .bool false, .bool false, .bool false, .bool false, .bool false, .bool false, .bool false] : Array Value) = zerosB := rfl
theorem zerosB_eq (s : Int) : zerosB = (bitsK s 0).toArray := by
  unfold bitsK zerosB
  simp [List.range, List.range.loop]
theorem zerosB_one : zerosB.all (·.oneCell') = true := by
  rw [Array.all_eq_true_iff_forall_mem]; intro v hv; simp [zerosB] at hv; subst hv; rfl
theorem Tryz.size152 : (Tryz.prog.info? 152).map (·.size) = some 32 := by kernel_rfl
theorem pow_nn (k : Nat) : (0 : Int) ≤ 2 ^ k := by
  induction k with
  | zero => simp
  | succ k ih => rw [Int.pow_succ]; omega
theorem shift_succ (s : Int) (k : Nat) : s / 2 ^ (k + 1) = s / 2 ^ k / 2 := by
  rw [Int.pow_succ, Int.ediv_ediv_of_nonneg (pow_nn k)]
theorem shift_bd {s : Int} (h0 : 0 ≤ s) (hs : s ≤ 4294967295) (k : Nat) : 0 ≤ s / 2 ^ k ∧ s / 2 ^ k ≤ 4294967295 := by
  induction k with
  | zero => simp; omega
  | succ k ih => rw [shift_succ]; omega
theorem bset {s : Int} {k : Nat} {ub : Nat} {w : World} (hk : k < 32) (h : w.heap[ub]? = some (.cells (bitsK s k).toArray 152 (0, 0))) : (w.setCell ⟨ub, k, none⟩ (.bool (bitAt s k))).heap[ub]? = some (.cells (bitsK s (k + 1)).toArray 152 (0, 0)) := by
  rw [hset _ _ _ _ _ _ _ h, List.setIfInBounds_toArray, bitsK_set _ _ hk]
set_option maxRecDepth 100000 in
set_option maxHeartbeats 1000000 in
theorem bits10_any (s : Int) (w : World) (h0 : 0 ≤ s) (hs : s ≤ 4294967295) : Calls Tryz.prog 75 #[.int .u32 s] w fun e w' => e = .returned (.agg (bitsV s)) ∧ Below w.heap.size w w' := by
  have hR0 := keepA (.cells zerosB 152) (heap_alloc_new w (.cells zerosB 152))
  have hU0 := heap_alloc_new (w.alloc (.cells zerosB 152)) (.cells zerosB 152)
  have hi0 : (Tryz.prog.info? 152).map (·.size) = some zerosB.size := Tryz.size152
  rw [World.size_alloc] at hU0
  have hbel0 : Below w.heap.size w ((w.alloc (.cells zerosB 152)).alloc (.cells zerosB 152)) := by go_grown
  have HB := Lib.hid (And.intro hR0 (And.intro hU0 (And.intro hi0 hbel0)))
  clear hR0 hU0 hi0 hbel0
  go_enter Tryz.func75, Tryz.ntmps75
  go_wp2_with (first | (refine wpList_store_row rfl 152 (.tmp 3) (.tmp 5) rfl (w.heap.size + 1) zerosB rfl rfl 152 zerosB HB.out.2.1 HB.out.2.2.1 rfl zerosB_one ?_))
  rw [zerosBV]
  obtain ⟨hR, hU, hi, hbel⟩ := HB.out
  clear HB
  have hR := (setRow_other _ (w.heap.size + 1) w.heap.size zerosB (by omega)).trans hR
  have hU := setRow_heap _ (w.heap.size + 1) zerosB zerosB _ _ hU
  have hbel := below_setRow hbel (by omega : w.heap.size ≤ w.heap.size + 1) zerosB
  generalize ((w.alloc (.cells zerosB 152)).alloc (.cells zerosB 152)).setRow (w.heap.size + 1) zerosB = W at hR hU hbel ⊢
  rw [zerosB_eq s] at hU
  generalize hub : w.heap.size + 1 = ub at *
  have nub : w.heap.size < ub := by omega
  have HI := Lib.hid (And.intro hR (And.intro hU hbel))
  have HNU := Lib.hid nub
  clear hR hU hbel hub nub
  go_loopw [0, 4] (fun x i wr => ∃ k : Nat, k ≤ 32 ∧ x = .int .u32 (s / 2 ^ k) ∧ i = .int .i64 k ∧ wr.heap[w.heap.size]? = some (.cells zerosB 152 (0, 0)) ∧ wr.heap[ub]? = some (.cells (bitsK s k).toArray 152 (0, 0)) ∧ Below w.heap.size w wr) (fun _ i _ => 32 - (intOf i).toNat)
  case atStart => exact ⟨0, by omega, by simp, rfl, HI.out.1, HI.out.2.1, HI.out.2.2⟩
  case round =>
    obtain ⟨k, hk, rfl, rfl, hR, hU, hbw⟩ := hrel
    have hsb := shift_bd h0 hs k
    have hsc := Lib.hid (shift_succ s k)
    by_cases hlt : k < 32
    · have hbs := bset hlt hU
      have f1 := free_at hU k
      have c1 := (cell_at hU k).trans (show (bitsK s k).toArray[k]? = _ by rw [List.getElem?_toArray, bitsK_get s k hlt])
      have i1 : (0 : Int) ≤ (k : Int) := by omega
      have i2 : (k : Int) < 32 := by omega
      have HH := Lib.hid (And.intro hR (And.intro hbs hbw))
      unfold bitAt at hbs
      clear hR hU hbw hbs
      obtain ⟨q0, q1⟩ := hsb
      have HQ : Hid (bitAt s k = (s / 2 ^ k % 2 == 1)) := Lib.hid rfl
      generalize s / 2 ^ k = q at *
      have hm := Int.tmod_eq_emod_of_nonneg (a := q) (b := 2) q0
      have hd := Int.tdiv_eq_ediv_of_nonneg (a := q) (b := 2) q0
      go_wp2_with fail
      go_roundw
      case rel =>
        refine ⟨k + 1, by omega, by rw [hsc.out], by go_num, ?_, ?_, HH.out.2.2.setCell (by have := HNU.out; simp; omega) _⟩
        · rw [hset_ne _ _ _ _ (by have := HNU.out; simp; omega)]; exact HH.out.1
        · have h := HH.out.2.1; rw [HQ.out] at h; exact h
      case measure => simp [intOf]; omega
    · obtain rfl : k = 32 := by omega
      have hsz : (bitsV s).size = 32 := by simp [bitsV, bitsK_len]
      have hi : (Tryz.prog.info? 152).map (·.size) = some (bitsV s).size := by rw [hsz]; exact Tryz.size152
      have hs2 : zerosB.size = (bitsV s).size := by rw [hsz]; rfl
      have HT := Lib.hid (setRow_heap wr w.heap.size zerosB (bitsV s) 152 (0, 0) hR)
      have HS := Lib.hid (And.intro (show wr.heap[ub]? = some (.cells (bitsV s) 152 (0, 0)) from hU) (And.intro hR (And.intro hi (And.intro hs2 hbw))))
      clear hU hR hi hs2 hbw hsz hsb
      go_wp2_with (first | (refine wpList_load_row rfl 152 (.tmp 3) rfl ub rfl 152 (bitsV s) (0, 0) _ HS.out.1 Tryz.underlying152 rfl HS.out.2.2.1 ?_) | (refine wpList_store_row rfl 152 (.tmp 2) (.tmp 17) rfl w.heap.size (bitsV s) rfl rfl 152 zerosB HS.out.2.1 HS.out.2.2.1 HS.out.2.2.2.1 (bitsK_one s 32) ?_))
      refine bodyPost_ret (v := .agg (bitsV s)) (results_cell_row rfl _ _ w.heap.size 152 (bitsV s) (0, 0) _ rfl HT.out Tryz.underlying152 rfl HS.out.2.2.1) rfl ⟨rfl, ?_⟩
      exact below_setRow HS.out.2.2.2.2 (Nat.le_refl _) _
/-- The ids from 1 to m. -/
def ids10 (s : Int) (m : Nat) : List Int := ((List.range m).map fun (j : Nat) => (j : Int) + 1).filter fun i => bitAt s i.toNat
theorem ids10_succ (s : Int) (m : Nat) : ids10 s (m + 1) = ids10 s m ++ if bitAt s (m + 1) then [(m : Int) + 1] else [] := by
  unfold ids10
  rw [List.range_succ, List.map_append, List.filter_append]
  have : ((m : Int) + 1).toNat = m + 1 := by omega
  simp [List.filter_cons, this]
theorem ids10_len (s : Int) (m : Nat) : (ids10 s m).length ≤ m := by
  unfold ids10
  have := List.length_filter_le (fun i => bitAt s i.toNat) ((List.range m).map fun (j : Nat) => (j : Int) + 1)
  simpa using this
/-- The answer of Ids. -/
def IsIds10 (s : Int) (w : World) (e : Ending) (w' : World) : Prop :=
  ∃ va n vc, e = .returned (.slice va n vc) ∧ n = (ids10 s 24).length ∧ w'.ownsRow w.heap.size 3 1 (.slice va n vc) n ((ids10 s 24).map (.int .i64)) ∧ Below w.heap.size w w'
set_option maxRecDepth 100000 in
set_option maxHeartbeats 1000000 in
theorem ids10_any (s : Int) (w : World) (h0 : 0 ≤ s) (hs : s ≤ 4294967295) : Calls Tryz.prog 38 #[.int .u32 s] w (IsIds10 s w) := by
  obtain ⟨i0, hi, hz0, hz1, hz2⟩ := info_parts Tryz.info3
  go_enter Tryz.func38, Tryz.ntmps38
  go_wp2_with fail
  refine (bits10_any s _ h0 hs).mono ?_
  rintro e w1 ⟨rfl, hb1⟩
  have hzw := hb1.size
  have hsz : (bitsV s).size = 32 := by simp [bitsV, bitsK_len]
  have hi0 : (Tryz.prog.info? 152).map (·.size) = some (bitsV s).size := by rw [hsz]; exact Tryz.size152
  have hs2 : zerosB.size = (bitsV s).size := by rw [hsz]; rfl
  have hU0 := heap_alloc_new w1 (.cells zerosB 152)
  have hU := setRow_heap _ w1.heap.size zerosB (bitsV s) _ _ hU0
  have hbw : Below w.heap.size w ((w1.alloc (.cells zerosB 152)).setRow w1.heap.size (bitsV s)) := below_setRow (hb1.alloc hzw _) hzw _
  have hzz : w1.heap.size < ((w1.alloc (.cells zerosB 152)).setRow w1.heap.size (bitsV s)).heap.size := lt_some hU
  have HS := Lib.hid (And.intro hU0 (And.intro hi0 hs2))
  have HU := Lib.hid (And.intro hU hbw)
  clear hU0 hi0 hs2 hU hbw hsz hb1
  go_upto_region 2 with (first | (refine wpList_store_row rfl 152 (.tmp 3) (.tmp 7) rfl w1.heap.size (bitsV s) rfl rfl 152 zerosB HS.out.1 HS.out.2.1 HS.out.2.2 (bitsK_one s 32) ?_))
  rw [zerosBV]
  obtain ⟨hU, hbw⟩ := HU.out
  clear HU HS
  generalize (w1.alloc (.cells zerosB 152)).setRow w1.heap.size (bitsV s) = W at *
  generalize w1.heap.size = ub at *
  have hrow := World.ownsRow_lit (base := w.heap.size) (e := 3) (size := 1) W #[] 0 hbw.size (by unfold maxLen; omega) rfl
  have HI := Lib.hid (And.intro (keepA (.cells #[] 3) hU) (And.intro hrow (hbw.alloc hbw.size (.cells #[] 3))))
  clear hU hbw hrow
  go_wp2_with fail
  go_loopw [4, 5] (fun v i wr => ∃ (k : Nat) (va : Option Addr) (n vc : Nat), k ≤ 24 ∧ i = .int .i64 ((k : Int) + 1) ∧ v = .slice va n vc ∧ n = (ids10 s k).length ∧ n ≤ 24 ∧ wr.heap[ub]? = some (.cells (bitsV s) 152 (0, 0)) ∧ wr.ownsRow w.heap.size 3 1 (.slice va n vc) n ((ids10 s k).map (.int .i64)) ∧ Below w.heap.size w wr)
    (fun _ i _ => 30 - (intOf i).toNat)
  case atStart => exact ⟨0, _, 0, _, by omega, rfl, rfl, rfl, by omega, HI.out.1, HI.out.2.1, HI.out.2.2⟩
  case round =>
    obtain ⟨k, va, n, vc, hk, rfl, rfl, hn, hn24, hU, hown, hbw⟩ := hrel
    have hzr := hbw.size
    by_cases hlt : k < 24
    · have hd1 : decide ((k : Int) + 1 ≤ 24) = true := by simp; omega
      have hsuc := Lib.hid (ids10_succ s k)
      have HLEN := Lib.hid (ids10_len s (k + 1))
      have c1 := (cell_at hU (k + 1)).trans (bitsV_get s (by omega))
      have i1 : (0 : Int) ≤ (k : Int) + 1 := by omega
      have i2 : (k : Int) + 1 < 32 := by omega
      have i3 : ((k : Int) + 1).toNat = k + 1 := by omega
      have HN := Lib.hid hn
      clear hn
      cases hb : bitAt s (k + 1)
      · rw [hb] at c1
        have HS : Hid (ids10 s (k + 1) = ids10 s k) := Lib.hid (by rw [hsuc.out, hb]; simp)
        have HH := Lib.hid (And.intro hU (And.intro hown hbw))
        clear hb hU hown hbw
        go_wp2_with fail
        go_roundw
        case rel => exact ⟨k + 1, va, n, vc, by omega, by go_num, rfl, by rw [HS.out]; exact HN.out, hn24, HH.out.1, by rw [HS.out]; exact HH.out.2.1, HH.out.2.2⟩
        case measure => simp [intOf]; omega
      · rw [hb] at c1
        have HS : Hid (ids10 s (k + 1) = ids10 s k ++ [(k : Int) + 1]) := Lib.hid (by rw [hsuc.out, hb]; simp)
        clear hb
        have hn24' : n + 1 ≤ 24 := by have := HLEN.out; rw [HS.out] at this; simp at this; have := HN.out; omega
        have hownA := hown.alloc (.cells #[.int .i64 ((k : Int) + 1)] 3)
        have HH := Lib.hid (And.intro hU hbw)
        clear hU hbw
        go_wp2_with (at_builtin; go_loud (refine wpList_append_own _ rfl (.tmp 16) (.tmp 18) 72 rfl w.heap.size 3 i0 (.int .i64 0) 1 8 Tryz.underlying72 hi hz0 hz1 hz2 rfl (by decide) (.slice va n vc) n ((ids10 s k).map (.int .i64)) rfl hownA ⟨wr.heap.size, 0, none⟩ 1 1 [.int .i64 ((k : Int) + 1)] rfl rfl (cell_one_new _ _ _) (ints_oneCell .i64 [(k : Int) + 1]) (by unfold maxLen; omega) (by omega) (by simp; omega) ?_))
        intro v' w2 hown2 hg2 _
        obtain ⟨va', vc', hv'⟩ := ownsRow_slice hown2
        rw [hv'] at hown2 ⊢
        clear hv'
        have hrow : ∀ x, (Value.slice va n vc).ownBlock = some x → w.heap.size ≤ x := fun x hx => (hown.lt x hx).1
        have hbel : Below w.heap.size w w2 := (HH.out.2.alloc hzr _).grown hg2 (by simp; omega) hrow
        have hU2 := keepG hg2 (keepA (.cells #[.int .i64 ((k : Int) + 1)] 3) HH.out.1) (ownsRow_ne_block3 hownA (keepA (.cells #[.int .i64 ((k : Int) + 1)] 3) HH.out.1) (fun cur hc => by cases hc))
        have HO := Lib.hid (And.intro hown2 (And.intro hU2 hbel))
        clear hown2 hown hownA hg2 hrow hU2 hbel HH
        go_wp2_with fail
        go_roundw
        case rel => exact ⟨k + 1, va', n + 1, vc', by omega, by go_num, rfl, by rw [HS.out]; simp; exact HN.out, hn24', HO.out.2.1, by rw [HS.out, List.map_append]; exact HO.out.1, HO.out.2.2⟩
        case measure => simp [intOf]; omega
    · obtain rfl : k = 24 := by omega
      have hd1 : decide (((24 : Nat) : Int) + 1 ≤ 24) = false := by simp
      have HN := Lib.hid hn
      clear hn hU
      go_wp2_with fail
      go_returns
      exact ⟨va, n, vc, rfl, HN.out, hown, hbw⟩
end Go.Proofs.YtgebbmfoamkfnaaGreatDoor
namespace Go.Proofs.YtgebbmfoamkfnaaGreatDoor
open Go.RowKit
set_option linter.unusedVariables false
/-- The set with the component, or without it. -/
theorem bitAt_nat16 (s i : Nat) : bitAt (s : Int) i = s.testBit i := by
  unfold bitAt
  have e : ((s : Int) / 2 ^ i % 2) = ((s / 2 ^ i % 2 : Nat) : Int) := by simp
  rw [e, Nat.testBit_eq_decide_div_mod_eq]
  by_cases hh : s / 2 ^ i % 2 = 1
  · rw [hh]; rfl
  · simp [hh]; omega
theorem hasB_at16 {s c : Int} (h0 : 0 ≤ s) (h1 : s ≤ 4294967295) (hc : idB c = true) : hasB s c = bitAt s c.toNat := by
  obtain ⟨n, rfl, g1, g2⟩ := idNat hc
  obtain ⟨s, rfl⟩ := Int.eq_ofNat_of_zero_le h0
  rw [hasBit (by omega) g1 g2, Int.toNat_natCast, bitAt_nat16]
theorem ids_same16 {s : Int} (h0 : 0 ≤ s) (h1 : s ≤ 4294967295) : idsTo s 24 = ids10 s 24 := by
  unfold idsTo ids10
  apply List.filter_congr
  intro x hx
  obtain ⟨j, hj, rfl⟩ := List.mem_map.1 hx
  have := List.mem_range.1 hj
  exact hasB_at16 h0 h1 (idB_true (by omega) (by omega))
end Go.Proofs.YtgebbmfoamkfnaaGreatDoor
namespace Go.Proofs.YtgebbmfoamkfnaaGreatDoor
open Go.RowKit
set_option linter.unusedVariables false
theorem mem_ids10 {s i : Int} (h0 : 0 ≤ s) (h1 : s ≤ 4294967295) : i ∈ ids10 s 24 ↔ idB i = true ∧ hasB s i = true := by
  rw [← ids_same16 h0 h1]
  constructor
  · intro h
    have := idsTo_mem h
    exact ⟨this.2, this.1⟩
  · rintro ⟨h2, h3⟩
    unfold idsTo
    rw [List.mem_filter]
    refine ⟨?_, h3⟩
    obtain ⟨n, rfl, n1, n2⟩ := idNat h2
    exact List.mem_map.2 ⟨n - 1, List.mem_range.2 (by omega), by omega⟩
theorem within_ids {s t : Int} (hs : 0 ≤ s ∧ s ≤ 4294967295) (ht : 0 ≤ t ∧ t ≤ 4294967295) : within s t = (ids10 s 24).all fun i => decide (i ∈ ids10 t 24) := by
  apply Bool.eq_iff_iff.2
  rw [within_iff ⟨hs.1, by omega⟩ ⟨ht.1, by omega⟩, List.all_eq_true]
  constructor
  · intro h i hi
    obtain ⟨h1, h2⟩ := (mem_ids10 hs.1 hs.2).1 hi
    exact decide_eq_true ((mem_ids10 ht.1 ht.2).2 ⟨h1, h i h1 h2⟩)
  · intro h i h1 h2
    exact ((mem_ids10 ht.1 ht.2).1 (of_decide_eq_true (h i ((mem_ids10 hs.1 hs.2).2 ⟨h1, h2⟩)))).2
theorem meets_ids {s t : Int} (hs : 0 ≤ s ∧ s ≤ 4294967295) (ht : 0 ≤ t ∧ t ≤ 4294967295) : meets s t = (ids10 s 24).any fun i => decide (i ∈ ids10 t 24) := by
  apply Bool.eq_iff_iff.2
  rw [meets_iff ⟨hs.1, by omega⟩ ⟨ht.1, by omega⟩, List.any_eq_true]
  constructor
  · rintro ⟨i, h1, h2, h3⟩
    exact ⟨i, (mem_ids10 hs.1 hs.2).2 ⟨h1, h2⟩, decide_eq_true ((mem_ids10 ht.1 ht.2).2 ⟨h1, h3⟩)⟩
  · rintro ⟨i, h1, h2⟩
    obtain ⟨h3, h4⟩ := (mem_ids10 hs.1 hs.2).1 h1
    exact ⟨i, h3, h4, ((mem_ids10 ht.1 ht.2).1 (of_decide_eq_true h2)).2⟩
set_option maxRecDepth 100000 in
set_option maxHeartbeats 1000000 in
theorem has20_any (l : List Int) (n : Nat) (va : Option Addr) (vc : Nat) (x : Int) (w : World) (B : Nat) (ho : w.ownsRow B 3 1 (.slice va n vc) n (l.map (.int .i64))) (hn : n ≤ 100000) : Calls Tryz.prog 40 #[.slice va n vc, .int .i64 x] w fun e w' => e = .returned (.bool (decide (x ∈ l))) ∧ Below w.heap.size w w' := by
  have hln : l.length = n := by have := ho.1; rw [List.length_map] at this; omega
  have HO := Lib.hid ho
  have HLN := Lib.hid hln
  clear ho hln
  go_enter Tryz.func40, Tryz.ntmps40
  go_wp2_with fail
  go_loopw [5] (fun i wr => ∃ k : Nat, i = .int .i64 (k : Int) ∧ k ≤ n ∧ x ∉ l.take k ∧ Below w.heap.size w wr) (fun i _ => n - (intOf i).toNat)
  case atStart => exact ⟨0, rfl, Nat.zero_le _, by simp, Below.refl _ _⟩
  case round =>
    obtain ⟨k, rfl, hk, hni, hb⟩ := hrel
    by_cases hlt : k < n
    · obtain ⟨q, rfl, _, hql, hqc⟩ := row_block (ownsRow_below HO.out hb) (by omega)
      obtain ⟨y, hy⟩ : ∃ y, l[k]? = some y := ⟨_, List.getElem?_eq_getElem (by rw [HLN.out]; exact hlt)⟩
      have y0 := hqc k (.int .i64 y) (by rw [List.getElem?_map, hy]; rfl)
      have g0 : (0 : Int) ≤ (k : Int) := by omega
      have g1 : (k : Int) < (n : Int) := by omega
      have HTK := Lib.hid (take_snoc hy)
      have HNI := Lib.hid hni
      have HMY := Lib.hid (List.mem_of_getElem? hy)
      have HB := Lib.hid hb
      clear hqc hy hni hb
      by_cases hxy : y = x
      · subst hxy
        go_wp2_with fail
        go_returns
        exact ⟨ret_bool (by rw [decide_eq_true HMY.out]), HB.out⟩
      · go_wp2_with fail
        go_roundw
        case rel => exact ⟨k + 1, by go_num, by omega, by rw [HTK.out]; simp [HNI.out, Ne.symm hxy], HB.out⟩
        case measure => simp [intOf]; omega
    · obtain rfl : k = n := by omega
      rw [List.take_of_length_le (by rw [HLN.out]; exact Nat.le_refl _)] at hni
      have HFIN := Lib.hid (And.intro hni hb)
      clear hni hb
      go_wp2_with fail
      go_returns
      exact ⟨ret_bool (by rw [decide_eq_false HFIN.out.1]), HFIN.out.2⟩
set_option maxRecDepth 100000 in
set_option maxHeartbeats 1000000 in
theorem match20_any (al no s : Int) (w : World) (ha : 0 ≤ al ∧ al ≤ 4294967295) (hn : 0 ≤ no ∧ no ≤ 4294967295) (hs : 0 ≤ s ∧ s ≤ 4294967295) : Calls Tryz.prog 13 #[.int .u32 al, .int .u32 no, .int .u32 s] w fun e w' => e = .returned (.bool (matchB al no s)) ∧ Below w.heap.size w w' := by
  obtain ⟨R, hR⟩ : ∃ R, matchB al no s = R := ⟨_, rfl⟩
  rw [hR]
  unfold matchB at hR
  rw [within_ids ha hs, meets_ids hn hs] at hR
  have HA := Lib.hid (fun W => ids10_any al W ha.1 ha.2)
  have HN := Lib.hid (fun W => ids10_any no W hn.1 hn.2)
  have HS := Lib.hid (fun W => ids10_any s W hs.1 hs.2)
  have hla := ids10_len al 24
  have hln := ids10_len no 24
  have hls := ids10_len s 24
  unfold IsIds10 at HA HN HS
  generalize ids10 al 24 = la at *
  generalize ids10 no 24 = ln at *
  generalize ids10 s 24 = ls at *
  have HR := Lib.hid hR
  clear ha hn hs hR
  go_enter Tryz.func13, Tryz.ntmps13
  go_wp2_with fail
  refine (HA.out _).mono ?_
  rintro e w1 ⟨aa, an, ac, rfl, han, hao, hb1⟩
  have han2 : an ≤ 24 := by omega
  have HAN := Lib.hid han
  clear han hla
  have HAO := Lib.hid hao
  have HB1 := Lib.hid hb1
  clear hao hb1 HA
  go_wp2_with fail
  refine (HN.out _).mono ?_
  rintro e w2 ⟨na, nn, nc, rfl, hnn, hno, hb2⟩
  have hnn2 : nn ≤ 24 := by omega
  have HNN := Lib.hid hnn
  clear hnn hln
  have HAO2 := Lib.hid (ownsRow_below HAO.out hb2)
  have HNO := Lib.hid hno
  have HB2 := Lib.hid (HB1.out.trans (hb2.mono HB1.out.size))
  clear hno hb2 HN HAO HB1
  go_wp2_with fail
  refine (HS.out _).mono ?_
  rintro e w3 ⟨sa, sn, sc, rfl, hsn, hso, hb3⟩
  have hsn2 : sn ≤ 24 := by omega
  clear hsn hls
  have HAO3 := Lib.hid (ownsRow_below HAO2.out hb3)
  have HNO3 := Lib.hid (ownsRow_below HNO.out hb3)
  have HSO := Lib.hid hso
  have HB3 := Lib.hid (HB2.out.trans (hb3.mono HB2.out.size))
  clear hso hb3 HS HAO2 HNO HB2
  go_wp2_with fail
  go_loopw [10] (fun i wr => ∃ k : Nat, i = .int .i64 (k : Int) ∧ k ≤ an ∧ ((la.take k).all fun i => decide (i ∈ ls)) = true ∧ Below w3.heap.size w3 wr) (fun i _ => an - (intOf i).toNat)
  case atStart => exact ⟨0, rfl, Nat.zero_le _, by simp, Below.refl _ _⟩
  case round =>
    obtain ⟨k, rfl, hk, hall, hb⟩ := hrel
    have hHAS := fun y => has20_any ls sn sa sc y wr _ (ownsRow_below HSO.out hb) (by omega)
    by_cases hlt : k < an
    · obtain ⟨q, rfl, _, hql, hqc⟩ := row_block (ownsRow_below HAO3.out hb) (by omega)
      obtain ⟨y, hy⟩ : ∃ y, la[k]? = some y := ⟨_, List.getElem?_eq_getElem (by have := HAN.out; omega)⟩
      have y0 := hqc k (.int .i64 y) (by rw [List.getElem?_map, hy]; rfl)
      have g0 : (0 : Int) ≤ (k : Int) := by omega
      have g1 : (k : Int) < (an : Int) := by omega
      have HTK := Lib.hid (take_snoc hy)
      have HMY := Lib.hid (List.mem_of_getElem? hy)
      have HALL := Lib.hid hall
      have HB := Lib.hid hb
      have hh := hHAS y
      obtain ⟨r, hr⟩ : ∃ r, decide (y ∈ ls) = r := ⟨_, rfl⟩
      rw [hr] at hh
      have HH := Lib.hid hh
      have HRR := Lib.hid hr
      clear hqc hy hall hb hHAS hh hr
      go_wp2_with fail
      refine HH.out.mono ?_
      rintro e w5 ⟨rfl, hb5⟩
      have HB5 := Lib.hid (HB.out.trans (hb5.mono HB.out.size))
      clear hb5
      cases r
      · have HF : Hid (R = false) := Lib.hid (by
          rw [← HR.out]
          have : (la.all fun i => decide (i ∈ ls)) = false := List.all_eq_false.2 ⟨y, HMY.out, by rw [HRR.out]; simp⟩
          rw [this]; rfl)
        go_wp2_with fail
        go_returns
        exact ⟨ret_bool HF.out.symm, HB3.out.trans (HB5.out.mono HB3.out.size)⟩
      · go_wp2_with fail
        go_roundw
        case rel => exact ⟨k + 1, by go_num, by omega, by rw [HTK.out, List.all_append, HALL.out]; simp [of_decide_eq_true HRR.out], HB5.out⟩
        case measure => simp [intOf]; omega
    · obtain rfl : k = an := by omega
      rw [List.take_of_length_le (by have := HAN.out; omega)] at hall
      have HB4 := Lib.hid hb
      have HR2 : Hid ((!(ln.any fun i => decide (i ∈ ls))) = R) := Lib.hid (by rw [← HR.out, hall]; rfl)
      clear hall hb hHAS
      go_wp2_with fail
      go_loopw [11] (fun i w2 => ∃ j : Nat, i = .int .i64 (j : Int) ∧ j ≤ nn ∧ ((ln.take j).any fun i => decide (i ∈ ls)) = false ∧ Below w3.heap.size w3 w2) (fun i _ => nn - (intOf i).toNat)
      case atStart => exact ⟨0, rfl, Nat.zero_le _, by simp, HB4.out⟩
      case round =>
        rename_i _ wq
        obtain ⟨j, rfl, hj, hany, hb⟩ := hrel
        by_cases hlt2 : j < nn
        · have hHAS := fun y W (hb : Below w3.heap.size w3 W) => has20_any ls sn sa sc y W _ (ownsRow_below HSO.out hb) (by omega)
          obtain ⟨q, rfl, _, hql, hqc⟩ := row_block (ownsRow_below HNO3.out hb) (by omega)
          obtain ⟨y, hy⟩ : ∃ y, ln[j]? = some y := ⟨_, List.getElem?_eq_getElem (by have := HNN.out; omega)⟩
          have y0 := hqc j (.int .i64 y) (by rw [List.getElem?_map, hy]; rfl)
          have g0 : (0 : Int) ≤ (j : Int) := by omega
          have g1 : (j : Int) < (nn : Int) := by omega
          have HTK := Lib.hid (take_snoc hy)
          have HMY := Lib.hid (List.mem_of_getElem? hy)
          have HANY := Lib.hid hany
          have HB := Lib.hid hb
          have hh := hHAS y _ hb
          obtain ⟨r, hr⟩ : ∃ r, decide (y ∈ ls) = r := ⟨_, rfl⟩
          rw [hr] at hh
          have HH := Lib.hid hh
          have HRR := Lib.hid hr
          clear hqc hy hany hb hHAS hh hr
          go_wp2_with fail
          refine HH.out.mono ?_
          rintro e w5 ⟨rfl, hb5⟩
          have HB5 := Lib.hid (HB.out.trans (hb5.mono HB.out.size))
          clear hb5
          cases r
          · go_wp2_with fail
            go_roundw
            case rel => exact ⟨j + 1, by go_num, by omega, by rw [HTK.out, List.any_append, HANY.out]; simp [of_decide_eq_false HRR.out], HB5.out⟩
            case measure => simp [intOf]; omega
          · have HF : Hid (R = false) := Lib.hid (by
              rw [← HR2.out]
              have : (ln.any fun i => decide (i ∈ ls)) = true := List.any_eq_true.2 ⟨y, HMY.out, HRR.out⟩
              rw [this]; rfl)
            go_wp2_with fail
            go_returns
            exact ⟨ret_bool HF.out.symm, HB3.out.trans (HB5.out.mono HB3.out.size)⟩
        · obtain rfl : j = nn := by omega
          rw [List.take_of_length_le (by have := HNN.out; omega)] at hany
          have HF : Hid (R = true) := Lib.hid (by rw [← HR2.out, hany]; rfl)
          have HB := Lib.hid hb
          clear hany hb
          go_wp2_with fail
          go_returns
          exact ⟨ret_bool HF.out.symm, HB3.out.trans (HB.out.mono HB3.out.size)⟩
end Go.Proofs.YtgebbmfoamkfnaaGreatDoor
namespace Go.Proofs.YtgebbmfoamkfnaaGreatDoor
open Go.RowKit
open Go.Maps (Keyed IsMap Tidy int_keyed keyOf_int_mk)
set_option linter.unusedVariables false
theorem Tryz.rowA2 : 73 < Tryz.prog.types.size := of_decide_eq_true (by kernel_rfl)
theorem Tryz.wideA2 : (match Tryz.prog.underlying 73 with | some (.array _ _) | some (.struct _) => true | _ => false) = true := by kernel_rfl
set_option maxRecDepth 100000 in
theorem Tryz.lawA2 : Keyed Tryz.prog 73 := Keyed.of_law (deep_law_laid laidOut (m := 2) (by omega) Tryz.rowA2 (by kernel_rfl) Tryz.wideA2)
theorem Tryz.ktA2 : Tryz.prog.keyType 73 = true := by kernel_rfl
theorem Tryz.coA2 : Tryz.prog.cellsOf 73 = 2 := by kernel_rfl
theorem Tryz.coU32 : Tryz.prog.cellsOf 25 = 1 := by kernel_rfl
theorem Tryz.zeroU32s (w : World) : (zeroValue 63).run Tryz.prog w = .ok (.slice none 0 0) w := by kernel_rfl
theorem a2_key {q : Int × Int} (h : QWf q) : keyOf Tryz.prog 73 (qVal q) = some (qK q) := by
  obtain ⟨m, hm⟩ := Tryz.tsz
  have e : Tryz.prog.keyLits (m + 2) 73 [.int .u32 q.1, .int .u32 q.2] = some [.int .u32 q.1, .int .u32 q.2] := by
    simp [Program.keyLits, show List.range 2 = [0, 1] from rfl, Tryz.underlying73, Tryz.underlying25, Tryz.coA2, Tryz.coU32, wf_u32 h.1.1 h.1.2, wf_u32 h.2.1 h.2.2]
  unfold keyOf qVal
  rw [Tryz.underlying73]
  simp only [Tryz.ktA2, hm, Value.cells, e]
  simp [Value.formed, Tryz.underlying73, Tryz.coA2]
  rfl
/-- An ask of the law. -/
structure AskD where
  all : Int
  none : Int
  n : Int
  clr : Bool
  other : Bool
def AskD.q (x : AskD) : Int × Int := (x.all, x.none)
def AskD.wf (x : AskD) : Prop := QWf x.q
def askL (x : AskD) : List Value := [.int .u32 x.all, .int .u32 x.none, .int .i64 x.n, .bool x.clr, .bool x.other]
/-- A row of asks that lies below block B. -/
def AsksAt (B : Nat) (w : World) (a : Option Addr) (len : Nat) (l : List AskD) : Prop :=
  l.length = len ∧ len ≤ maxLen ∧ (∀ x ∈ l, x.wf) ∧ (len = 0 ∨ ∃ b off, a = some ⟨b, off, none⟩ ∧ b < B ∧ ∀ (i : Nat) (x : AskD), l[i]? = some x → ∀ (j : Nat) (v : Value), (askL x)[j]? = some v → w.cell? ⟨b, off + i * 5 + j, none⟩ = some v)
theorem AsksAt.below {B : Nat} {w w' : World} {a : Option Addr} {len : Nat} {l : List AskD} (h : AsksAt B w a len l) (hb : Below B w w') : AsksAt B w' a len l := by
  obtain ⟨h1, h2, h3, h4⟩ := h
  refine ⟨h1, h2, h3, h4.imp id ?_⟩
  rintro ⟨b, off, ha, hB, hc⟩
  exact ⟨b, off, ha, hB, fun i x hx j v hv => (hb.cell (p := ⟨b, off + i * 5 + j, none⟩) hB).trans (hc i x hx j v hv)⟩
theorem AsksAt.get {B : Nat} {w : World} {a : Option Addr} {len : Nat} {l : List AskD} (h : AsksAt B w a len l) {k : Nat} (hk : k < len) : ∃ b off x, a = some ⟨b, off, none⟩ ∧ b < B ∧ l[k]? = some x ∧ x.wf ∧ w.cell? ⟨b, off + k * 5, none⟩ = some (.int .u32 x.all) ∧ w.cell? ⟨b, off + k * 5 + 1, none⟩ = some (.int .u32 x.none) ∧ w.cell? ⟨b, off + k * 5 + 2, none⟩ = some (.int .i64 x.n) ∧ w.cell? ⟨b, off + k * 5 + 3, none⟩ = some (.bool x.clr) ∧ w.cell? ⟨b, off + k * 5 + 4, none⟩ = some (.bool x.other) := by
  obtain ⟨h1, h2, h3, h4⟩ := h
  rcases h4 with h4 | ⟨b, off, ha, hB, hc⟩
  · omega
  · have hl : k < l.length := by omega
    have hx := List.getElem?_eq_getElem hl
    have hcx := hc k _ hx
    exact ⟨b, off, _, ha, hB, hx, h3 _ (List.getElem_mem hl), hcx 0 _ rfl, hcx 1 _ rfl, hcx 2 _ rfl, hcx 3 _ rfl, hcx 4 _ rfl⟩
/-- The sets of an ask: the first ones; the first of them may be another one. -/
def xor2 (s : Int) : Int := bits BinOp.xor .u32 s 2
theorem xor2_bd (s : Int) : 0 ≤ xor2 s ∧ xor2 s ≤ 4294967295 := bits_u32 _ _ _
def setAt (other : Bool) (k : Nat) (s : Int) : Int := if other = true ∧ k = 0 then xor2 s else s
def askSets (other : Bool) : Nat → List Int → List Int
  | _, [] => []
  | k, s :: r => setAt other k s :: askSets other (k + 1) r
theorem askSets_len (o : Bool) : ∀ (k : Nat) (l : List Int), (askSets o k l).length = l.length
  | _, [] => rfl
  | k, s :: r => by simp [askSets, askSets_len o (k + 1) r]
theorem askSets_get (o : Bool) : ∀ (k : Nat) (l : List Int) (j : Nat) (s : Int), l[j]? = some s → (askSets o k l)[j]? = some (setAt o (k + j) s)
  | _, [], j, s, h => by simp at h
  | k, x :: r, 0, s, h => by cases h; rfl
  | k, x :: r, j + 1, s, h => by
    have := askSets_get o (k + 1) r j s (by simpa using h)
    simp only [askSets, List.getElem?_cons_succ]
    rw [this]
    congr 2
    omega
theorem askSets_ok (o : Bool) : ∀ (k : Nat) (l : List Int), setsOk l → setsOk (askSets o k l)
  | _, [], h => fun s hs => by cases hs
  | k, x :: r, h => fun s hs => by
    rcases List.mem_cons.1 hs with rfl | hs
    · unfold setAt
      split
      · exact xor2_bd x
      · exact h x (List.mem_cons_self ..)
    · exact askSets_ok o (k + 1) r (fun y hy => h y (List.mem_cons_of_mem _ hy)) s hs
/-- What the law's map holds of a query. -/
def SawIs (w : World) : Option (List Int) → Option Value → Prop
  | none, v => v = none
  | some l, v => ∃ sa n sc, v = some (.slice sa n sc) ∧ l.length = n ∧ n ≤ 60 ∧ w.ownsRow 0 25 1 (.slice sa n sc) n (l.map (.int .u32))
def SawAt (w : World) (mb : Nat) (S : CS) : Prop := ∃ f, MapV Tryz.prog w 73 mb S.cnt f ∧ ∀ q, QWf q → SawIs w (S.kf q) (f (qK q))
section
variable {w w' : World} {mb : Nat} {S : CS}
theorem SawIs.out {F : Nat → Prop} {l : Option (List Int)} {v : Option Value} (h : SawIs w l v) (ho : Out F w w') (hF : ∀ x cs, F x → w.heap[x]? ≠ some (.cells cs 25 (0, 0))) : SawIs w' l v := by
  cases l with
  | none => exact h
  | some l =>
    obtain ⟨sa, n, sc, h1, h2, h3, h4⟩ := h
    refine ⟨sa, n, sc, h1, h2, h3, ownsRow_out h4 ho (fun x hx hf => ?_)⟩
    obtain ⟨cur, hc⟩ := row_type h4 hx
    exact hF x cur hf hc
theorem SawAt.out {F : Nat → Prop} (h : SawAt w mb S) (ho : Out F w w') (hF : ∀ x, F x → x ≠ mb ∧ ∀ cs, w.heap[x]? ≠ some (.cells cs 25 (0, 0))) : SawAt w' mb S := by
  obtain ⟨f, h1, h2⟩ := h
  exact ⟨f, h1.out ho (fun hf => (hF _ hf).1 rfl), fun q hq => (h2 q hq).out ho (fun x cs hf => (hF x hf).2 cs)⟩
theorem SawAt.below (h : SawAt w mb S) (hb : Below w.heap.size w w') : SawAt w' mb S := h.out (F := fun _ => False) (Out.of hb) (fun _ hf => hf.elim)
theorem SawAt.lt (h : SawAt w mb S) : mb < w.heap.size := by obtain ⟨f, h1, _⟩ := h; exact h1.lt
theorem SawAt.obj (h : SawAt w mb S) : ∃ es c, w.heap[mb]? = some (.map es c) := by obtain ⟨f, h1, _⟩ := h; exact h1.obj
theorem SawAt.made (w : World) (lk : Int) : SawAt (w.alloc (.map #[] 0)) w.heap.size ⟨fun _ => none, 0, lk⟩ := ⟨fun _ => none, MapV.made w Tryz.prog 73, fun q hq => rfl⟩
theorem SawAt.len (h : SawAt w mb S) (ty : TypeId) : (Builtin.len_ #[67] ty #[.map (some mb)]).run Tryz.prog w = .ok (.int .i64 S.cnt) w := by
  obtain ⟨f, h1, _⟩ := h
  exact h1.len Tryz.underlying67 ty
theorem SawAt.look (h : SawAt w mb S) {q : Int × Int} (hq : QWf q) : ∃ sa n sc, (Instr.lookup 67 (.map (some mb)) (.agg #[.int .u32 q.1, .int .u32 q.2]) false).run Tryz.prog w = .ok (.slice sa n sc) w ∧ (S.old q).length = n ∧ n ≤ 60 ∧ w.ownsRow 0 25 1 (.slice sa n sc) n ((S.old q).map (.int .u32)) := by
  obtain ⟨f, hm, hf⟩ := h
  have hl : (Instr.lookup 67 (.map (some mb)) (.agg #[.int .u32 q.1, .int .u32 q.2]) false).run Tryz.prog w = .ok ((f (qK q)).getD (.slice none 0 0)) w := hm.look Tryz.lawA2 Tryz.underlying67 Tryz.zeroU32s (a2_key hq)
  have hq2 := hf q hq
  unfold CS.old
  cases hk : S.kf q with
  | none =>
    rw [hk] at hq2
    rw [show f (qK q) = none from hq2] at hl
    exact ⟨none, 0, 0, hl, rfl, by omega, World.ownsRow_nil _ _ _ _⟩
  | some l =>
    rw [hk] at hq2
    obtain ⟨sa, n, sc, hu, h2, h3, h4⟩ := hq2
    rw [hu] at hl
    exact ⟨sa, n, sc, hl, h2, h3, h4⟩
theorem SawAt.put (h : SawAt w mb S) {q : Int × Int} (hq : QWf q) (l : List Int) {sa : Option Addr} {n sc : Nat} (hln : l.length = n) (hn : n ≤ 60) (ho : w.ownsRow 0 25 1 (.slice sa n sc) n (l.map (.int .u32))) (hcn : S.cnt ≤ 1000000) :
    ∃ w7, (Instr.mapUpdate 67 (.map (some mb)) (.agg #[.int .u32 q.1, .int .u32 q.2]) (.slice sa n sc)).run Tryz.prog w = .ok () w7 ∧ SawAt w7 mb (S.ask q l) ∧ Out (fun x => x = mb) w w7 := by
  obtain ⟨es, c, hob⟩ := h.obj
  obtain ⟨f, hm, hf⟩ := h
  obtain ⟨w7, hput, hm7, hg7, hsz7⟩ := hm.store (key := qVal q) (val := .slice sa n sc) Tryz.lawA2 Tryz.underlying67 (by unfold maxLen; omega) (a2_key hq)
  have ho7 : Out (fun x => x = mb) w w7 := ⟨hg7.os, hg7.tape, hg7.output, by rw [hsz7]; exact Nat.le_refl _, fun k hk hn => hg7.block k hk (fun e => hn (by cases e; rfl))⟩
  have hkm : ∀ x cs, x = mb → w.heap[x]? ≠ some (.cells cs 25 (0, 0)) := fun x cs e => by
    subst e
    rw [hob]
    simp
  have hcnt : (f (qK q)).isSome = (S.kf q).isSome := by
    have h1 := hf q hq
    cases hk : S.kf q with
    | none => rw [hk] at h1; rw [show f (qK q) = none from h1]; rfl
    | some l' => rw [hk] at h1; obtain ⟨_, _, _, hu, _⟩ := h1; rw [hu]; rfl
  rw [hcnt] at hm7
  refine ⟨w7, hput, ⟨putV f (qK q) (.slice sa n sc), hm7, fun x hx => ?_⟩, ho7⟩
  show SawIs w7 (if x = q then some l else S.kf x) _
  by_cases hxq : x = q
  · subst hxq
    rw [if_pos rfl, putV_same]
    refine ⟨sa, n, sc, rfl, hln, hn, ownsRow_out ho ho7 (fun z hz e => ?_)⟩
    obtain ⟨cur, hc⟩ := row_type ho hz
    exact hkm z cur e hc
  · rw [if_neg hxq, putV_ne (fun e => hxq (qK_inj hx hq e))]
    exact (hf x hx).out ho7 hkm
end
end Go.Proofs.YtgebbmfoamkfnaaGreatDoor
