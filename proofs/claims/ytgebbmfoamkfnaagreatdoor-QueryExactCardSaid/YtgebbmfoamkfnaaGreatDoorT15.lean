/- Contracts of retrofitref10.Bits, Is, Ids. · Plain: a set's ids and its test are those of the document. · Plain: the texts of numbers, values, parts and commands, and that they tell them apart. ·  · strings.Join of a row of texts. -/
import Derived.Test.YtgebbmfoamkfnaaGreatDoorT1
import Derived.Deep.DeepCutAuto
import Derived.Test.YtgebbmfoamkfnaaGreatDoorT14
import Derived.Test.YtgebbmfoamkfnaaGreatDoorT3
import Derived.Lib.ItoaNum
import Derived.Lib.Join
import Derived.Shelf.Strings.Builder1
import Derived.Shelf.Strings.Builder2
import Derived.Shelf.Strings.OnBuilder
import Derived.Shelf.Strings.BuilderF
import Derived.Shelf.Strings.BuilderK
import Derived.Shelf.Strings.Builder2Cap
import Derived.Shelf.Strconv.Itoa0
import Derived.Shelf.Strconv.Itoa1
import Derived.Shelf.LaysM
import Derived.Shelf.Strconv.Itoa2
import Derived.Shelf.Strconv.Itoa3
import Derived.Shelf.Strings.Search1
import Derived.Shelf.Strings.Search2
import Derived.Shelf.Strings.Search3
import Derived.Shelf.Strings.Cut
import Derived.Shelf.Strings.Count
import Derived.Shelf.Strings.Shaped
import Derived.Shelf.Strings.Prefix
import Derived.Shelf.Bits.Mul64
import Derived.Shelf.Strings.Repeat
import Derived.Shelf.Unicode.DecodeSlow
import Derived.Shelf.Strings.BuilderCap
import Derived.Test.YtgebbmfoamkfnaaGreatDoorProg
namespace Go.Proofs.YtgebbmfoamkfnaaGreatDoor
open Go.RowKit
set_option linter.unusedVariables false
def bitAt (s : Int) (i : Nat) : Bool := s / 2 ^ i % 2 == 1
def bitsK (s : Int) (k : Nat) : List Value := (List.range 32).map fun i => .bool (decide (i < k) && bitAt s i)
def bitsV (s : Int) : Array Value := (bitsK s 32).toArray
theorem bitsK_len (s : Int) (k : Nat) : (bitsK s k).length = 32 := by simp [bitsK]
theorem bitsK_get (s : Int) (k : Nat) {i : Nat} (h : i < 32) : (bitsK s k)[i]? = some (.bool (decide (i < k) && bitAt s i)) := by
 unfold bitsK; rw [List.getElem?_map, List.getElem?_range h]; rfl
theorem bitsV_get (s : Int) {i : Nat} (h : i < 32) : (bitsV s)[i]? = some (.bool (bitAt s i)) := by
 unfold bitsV
 rw [List.getElem?_toArray, bitsK_get s 32 h]; simp [h]
theorem bitsK_set (s : Int) (k : Nat) (h : k < 32) : (bitsK s k).set k (.bool (bitAt s k)) = bitsK s (k + 1) := by
 apply List.ext_getElem?
 intro i
 rw [List.getElem?_set]
 by_cases hi : i < 32
 ·rw [bitsK_get _ _ hi, bitsK_get _ _ hi]
  by_cases hk : k = i
  ·subst hk; rw [if_pos rfl, if_pos (by rw [bitsK_len]; omega)]; simp
  ·rw [if_neg hk]
   congr 3
   have : (i < k) ↔ (i < k + 1) := by omega
   simp [this]
 ·rw [List.getElem?_eq_none (by rw [bitsK_len]; omega), List.getElem?_eq_none (by rw [bitsK_len]; omega), if_neg (by omega)]
theorem bitsK_one (s : Int) (k : Nat) : (bitsK s k).toArray.all (·.oneCell') = true := by
 rw [Array.all_eq_true_iff_forall_mem]; intro v hv; simp [bitsK] at hv; obtain ⟨x, _, rfl⟩ := hv; rfl
def zerosB : Array Value := #[.bool false, .bool false, .bool false, .bool false, .bool false, .bool false, .bool false, .bool false, .bool false, .bool false, .bool false, .bool false, .bool false, .bool false, .bool false, .bool false, .bool false, .bool false, .bool false, .bool false, .bool false, .bool false, .bool false, .bool false, .bool false, .bool false, .bool false, .bool false, .bool false, .bool false, .bool false, .bool false]
theorem zerosBV : (#[.bool false, .bool false, .bool false, .bool false, .bool false, .bool false, .bool false, .bool false, .bool false, .bool false, .bool false, .bool false, .bool false, .bool false, .bool false, .bool false, .bool false, .bool false, .bool false, .bool false, .bool false, .bool false, .bool false, .bool false, .bool false, .bool false, .bool false, .bool false, .bool false, .bool false, .bool false, .bool false] : Array Value) = zerosB := rfl
theorem zerosB_eq (s : Int) : zerosB = (bitsK s 0).toArray := by
 unfold bitsK zerosB
 simp [List.range, List.range.loop]
theorem zerosB_one : zerosB.all (·.oneCell') = true := by
 rw [Array.all_eq_true_iff_forall_mem]; intro v hv; simp [zerosB] at hv; subst hv; rfl
theorem Tryz.size152 : (Tryz.prog.info? 152).map (·.size) = some 32 := by kernel_rfl
theorem pow_nn (k : Nat) : (0 : Int) ≤ 2 ^ k := by
 induction k with
 | zero => simp
 | succ k ih => rw [Int.pow_succ]; omega
theorem shift_succ (s : Int) (k : Nat) : s / 2 ^ (k + 1) = s / 2 ^ k / 2 := by
 rw [Int.pow_succ, Int.ediv_ediv_of_nonneg (pow_nn k)]
theorem shift_bd {s : Int} (h0 : 0 ≤ s) (hs : s ≤ 4294967295) (k : Nat) : 0 ≤ s / 2 ^ k ∧ s / 2 ^ k ≤ 4294967295 := by
 induction k with
 | zero => simp; omega
 | succ k ih => rw [shift_succ]; omega
theorem bset {s : Int} {k : Nat} {ub : Nat} {w : World} (hk : k < 32) (h : w.heap[ub]? = some (.cells (bitsK s k).toArray 152 (0, 0))) : (w.setCell ⟨ub, k, none⟩ (.bool (bitAt s k))).heap[ub]? = some (.cells (bitsK s (k + 1)).toArray 152 (0, 0)) := by
 rw [hset _ _ _ _ _ _ _ h, List.setIfInBounds_toArray, bitsK_set _ _ hk]
set_option maxRecDepth 100000 in
set_option maxHeartbeats 1000000 in
theorem bits10_any (s : Int) (w : World) (h0 : 0 ≤ s) (hs : s ≤ 4294967295) : Calls Tryz.prog 75 #[.int .u32 s] w fun e w' => e = .returned (.agg (bitsV s)) ∧ Below w.heap.size w w' := by
 have hR0 := keepA (.cells zerosB 152) (heap_alloc_new w (.cells zerosB 152))
 have hU0 := heap_alloc_new (w.alloc (.cells zerosB 152)) (.cells zerosB 152)
 have hi0 : (Tryz.prog.info? 152).map (·.size) = some zerosB.size := Tryz.size152
 rw [World.size_alloc] at hU0
 have hbel0 : Below w.heap.size w ((w.alloc (.cells zerosB 152)).alloc (.cells zerosB 152)) := by go_grown
 have HB := Lib.hid (And.intro hR0 (And.intro hU0 (And.intro hi0 hbel0)))
 clear hR0 hU0 hi0 hbel0
 go_enter Tryz.func75, Tryz.ntmps75
 go_wp2_with (first | (refine wpList_store_row rfl 152 (.tmp 3) (.tmp 5) rfl (w.heap.size + 1) zerosB rfl rfl 152 zerosB HB.out.2.1 HB.out.2.2.1 rfl zerosB_one ?_))
 rw [zerosBV]
 obtain ⟨hR, hU, hi, hbel⟩ := HB.out
 clear HB
 have hR := (setRow_other _ (w.heap.size + 1) w.heap.size zerosB (by omega)).trans hR
 have hU := setRow_heap _ (w.heap.size + 1) zerosB zerosB _ _ hU
 have hbel := below_setRow hbel (by omega : w.heap.size ≤ w.heap.size + 1) zerosB
 generalize ((w.alloc (.cells zerosB 152)).alloc (.cells zerosB 152)).setRow (w.heap.size + 1) zerosB = W at hR hU hbel ⊢
 rw [zerosB_eq s] at hU
 generalize hub : w.heap.size + 1 = ub at *
 have nub : w.heap.size < ub := by omega
 have HI := Lib.hid (And.intro hR (And.intro hU hbel))
 have HNU := Lib.hid nub
 clear hR hU hbel hub nub
 go_loopw [0, 4] (fun x i wr => ∃ k : Nat, k ≤ 32 ∧ x = .int .u32 (s / 2 ^ k) ∧ i = .int .i64 k ∧ wr.heap[w.heap.size]? = some (.cells zerosB 152 (0, 0)) ∧ wr.heap[ub]? = some (.cells (bitsK s k).toArray 152 (0, 0)) ∧ Below w.heap.size w wr) (fun _ i _ => 32 - (intOf i).toNat)
 case atStart => exact ⟨0, by omega, by simp, rfl, HI.out.1, HI.out.2.1, HI.out.2.2⟩
 case round =>
  obtain ⟨k, hk, rfl, rfl, hR, hU, hbw⟩ := hrel
  have hsb := shift_bd h0 hs k
  have hsc := Lib.hid (shift_succ s k)
  by_cases hlt : k < 32
  ·have hbs := bset hlt hU
   have f1 := free_at hU k
   have c1 := (cell_at hU k).trans (show (bitsK s k).toArray[k]? = _ by rw [List.getElem?_toArray, bitsK_get s k hlt])
   have i1 : (0 : Int) ≤ (k : Int) := by omega
   have i2 : (k : Int) < 32 := by omega
   have HH := Lib.hid (And.intro hR (And.intro hbs hbw))
   unfold bitAt at hbs
   clear hR hU hbw hbs
   obtain ⟨q0, q1⟩ := hsb
   have HQ : Hid (bitAt s k = (s / 2 ^ k % 2 == 1)) := Lib.hid rfl
   generalize s / 2 ^ k = q at *
   have hm := Int.tmod_eq_emod_of_nonneg (a := q) (b := 2) q0
   have hd := Int.tdiv_eq_ediv_of_nonneg (a := q) (b := 2) q0
   go_wp2_with fail
   go_roundw
   case rel =>
    refine ⟨k + 1, by omega, by rw [hsc.out], by go_num, ?_, ?_, HH.out.2.2.setCell (by have := HNU.out; simp; omega) _⟩
    ·rw [hset_ne _ _ _ _ (by have := HNU.out; simp; omega)]; exact HH.out.1
    ·have h := HH.out.2.1; rw [HQ.out] at h; exact h
   case measure => simp [intOf]; omega
  ·obtain rfl : k = 32 := by omega
   have hsz : (bitsV s).size = 32 := by simp [bitsV, bitsK_len]
   have hi : (Tryz.prog.info? 152).map (·.size) = some (bitsV s).size := by rw [hsz]; exact Tryz.size152
   have hs2 : zerosB.size = (bitsV s).size := by rw [hsz]; rfl
   have HT := Lib.hid (setRow_heap wr w.heap.size zerosB (bitsV s) 152 (0, 0) hR)
   have HS := Lib.hid (And.intro (show wr.heap[ub]? = some (.cells (bitsV s) 152 (0, 0)) from hU) (And.intro hR (And.intro hi (And.intro hs2 hbw))))
   clear hU hR hi hs2 hbw hsz hsb
   go_wp2_with (first | (refine wpList_load_row rfl 152 (.tmp 3) rfl ub rfl 152 (bitsV s) (0, 0) _ HS.out.1 Tryz.underlying152 rfl HS.out.2.2.1 ?_) | (refine wpList_store_row rfl 152 (.tmp 2) (.tmp 17) rfl w.heap.size (bitsV s) rfl rfl 152 zerosB HS.out.2.1 HS.out.2.2.1 HS.out.2.2.2.1 (bitsK_one s 32) ?_))
   refine bodyPost_ret (v := .agg (bitsV s)) (results_cell_row rfl _ _ w.heap.size 152 (bitsV s) (0, 0) _ rfl HT.out Tryz.underlying152 rfl HS.out.2.2.1) rfl ⟨rfl, ?_⟩
   exact below_setRow HS.out.2.2.2.2 (Nat.le_refl _) _
def is10 (s : Int) : Bool := (List.range 32).all fun i => !(bitAt s i) || decide (1 ≤ i ∧ i ≤ 24)
def ids10 (s : Int) (m : Nat) : List Int := ((List.range m).map fun (j : Nat) => (j : Int) + 1).filter fun i => bitAt s i.toNat
theorem ids10_succ (s : Int) (m : Nat) : ids10 s (m + 1) = ids10 s m ++ if bitAt s (m + 1) then [(m : Int) + 1] else [] := by
 unfold ids10
 rw [List.range_succ, List.map_append, List.filter_append]
 have : ((m : Int) + 1).toNat = m + 1 := by omega
 simp [List.filter_cons, this]
theorem ids10_len (s : Int) (m : Nat) : (ids10 s m).length ≤ m := by
 unfold ids10
 have := List.length_filter_le (fun i => bitAt s i.toNat) ((List.range m).map fun (j : Nat) => (j : Int) + 1)
 simpa using this
set_option maxRecDepth 100000 in
set_option maxHeartbeats 1000000 in
theorem is10_any (s : Int) (w : World) (h0 : 0 ≤ s) (hs : s ≤ 4294967295) : Calls Tryz.prog 37 #[.int .u32 s] w fun e w' => e = .returned (.bool (is10 s)) ∧ Below w.heap.size w w' := by
 go_enter Tryz.func37, Tryz.ntmps37
 go_wp2_with fail
 refine (bits10_any s _ h0 hs).mono ?_
 rintro e w1 ⟨rfl, hb1⟩
 have hz1 := hb1.size
 have hsz : (bitsV s).size = 32 := by simp [bitsV, bitsK_len]
 have hi : (Tryz.prog.info? 152).map (·.size) = some (bitsV s).size := by rw [hsz]; exact Tryz.size152
 have hs2 : zerosB.size = (bitsV s).size := by rw [hsz]; rfl
 have hU0 := heap_alloc_new w1 (.cells zerosB 152)
 have hU := setRow_heap _ w1.heap.size zerosB (bitsV s) _ _ hU0
 have hbw : Below w.heap.size w ((w1.alloc (.cells zerosB 152)).setRow w1.heap.size (bitsV s)) := below_setRow (hb1.alloc hz1 _) hz1 _
 have HS := Lib.hid (And.intro hU0 (And.intro hi hs2))
 have HU := Lib.hid (And.intro hU hbw)
 clear hU0 hi hs2 hU hbw hsz hb1
 go_wp2_with (first | (refine wpList_store_row rfl 152 (.tmp 3) (.tmp 6) rfl w1.heap.size (bitsV s) rfl rfl 152 zerosB HS.out.1 HS.out.2.1 HS.out.2.2 (bitsK_one s 32) ?_))
 rw [zerosBV]
 obtain ⟨hU, hbw⟩ := HU.out
 clear HU HS
 generalize (w1.alloc (.cells zerosB 152)).setRow w1.heap.size (bitsV s) = W at *
 generalize w1.heap.size = ub at *
 go_loop [4] (fun i => ∃ k : Nat, k ≤ 32 ∧ i = .int .i64 k ∧ ∀ j, j < k → (!(bitAt s j) || decide (1 ≤ j ∧ j ≤ 24)) = true) (fun i => 32 - (intOf i).toNat)
 case atStart => exact ⟨0, by omega, rfl, fun j h => by omega⟩
 case round =>
  obtain ⟨k, hk, rfl, hall⟩ := hrel
  have HA := Lib.hid hall
  clear hall
  by_cases hlt : k < 32
  ·have c1 := (cell_at hU k).trans (bitsV_get s hlt)
   have i1 : (0 : Int) ≤ (k : Int) := by omega
   have i2 : (k : Int) < 32 := by omega
   cases hb : bitAt s k
   ·rw [hb] at c1
    have HB := Lib.hid hb
    clear hb
    go_wp2_with fail
    go_round
    case rel =>
     refine ⟨k + 1, by omega, by go_num, fun j hj => ?_⟩
     rcases (by omega : j < k ∨ j = k) with h | rfl
     ·exact HA.out j h
     ·rw [HB.out]; rfl
    case measure => simp [intOf]; omega
   ·rw [hb] at c1
    have HB := Lib.hid hb
    clear hb
    rcases (by omega : k < 1 ∨ (1 ≤ k ∧ 24 < k) ∨ (1 ≤ k ∧ k ≤ 24)) with h | ⟨h, h'⟩ | ⟨h, h'⟩
    ·have H : Hid (is10 s = false) := Lib.hid (by
      unfold is10; rw [List.all_eq_false]; exact ⟨k, List.mem_range.2 hlt, by rw [HB.out]; simp; omega⟩)
     have t1 : (k : Int) < 1 := by omega
     go_wp2_with fail
     go_returns
     exact ⟨ret_bool H.out.symm, hbw⟩
    ·have H : Hid (is10 s = false) := Lib.hid (by
      unfold is10; rw [List.all_eq_false]; exact ⟨k, List.mem_range.2 hlt, by rw [HB.out]; simp; omega⟩)
     have t1 : ¬ (k : Int) < 1 := by omega
     have t2 : (24 : Int) < (k : Int) := by omega
     go_wp2_with fail
     go_returns
     exact ⟨ret_bool H.out.symm, hbw⟩
    ·have t1 : ¬ (k : Int) < 1 := by omega
     have t2 : ¬ (24 : Int) < (k : Int) := by omega
     go_wp2_with fail
     go_round
     case rel =>
      refine ⟨k + 1, by omega, by go_num, fun j hj => ?_⟩
      rcases (by omega : j < k ∨ j = k) with h | rfl
      ·exact HA.out j h
      ·simp; omega
     case measure => simp [intOf]; omega
  ·obtain rfl : k = 32 := by omega
   have H : Hid (is10 s = true) := Lib.hid (by
    unfold is10; rw [List.all_eq_true]; exact fun j hj => HA.out j (List.mem_range.1 hj))
   go_wp2_with fail
   go_returns
   exact ⟨ret_bool H.out.symm, hbw⟩
def IsIds10 (s : Int) (w : World) (e : Ending) (w' : World) : Prop :=
 ∃ va n vc, e = .returned (.slice va n vc) ∧ n = (ids10 s 24).length ∧ w'.ownsRow w.heap.size 3 1 (.slice va n vc) n ((ids10 s 24).map (.int .i64)) ∧ Below w.heap.size w w'
set_option maxRecDepth 100000 in
set_option maxHeartbeats 1000000 in
theorem ids10_any (s : Int) (w : World) (h0 : 0 ≤ s) (hs : s ≤ 4294967295) : Calls Tryz.prog 38 #[.int .u32 s] w (IsIds10 s w) := by
 obtain ⟨i0, hi, hz0, hz1, hz2⟩ := info_parts Tryz.info3
 go_enter Tryz.func38, Tryz.ntmps38
 go_wp2_with fail
 refine (bits10_any s _ h0 hs).mono ?_
 rintro e w1 ⟨rfl, hb1⟩
 have hzw := hb1.size
 have hsz : (bitsV s).size = 32 := by simp [bitsV, bitsK_len]
 have hi0 : (Tryz.prog.info? 152).map (·.size) = some (bitsV s).size := by rw [hsz]; exact Tryz.size152
 have hs2 : zerosB.size = (bitsV s).size := by rw [hsz]; rfl
 have hU0 := heap_alloc_new w1 (.cells zerosB 152)
 have hU := setRow_heap _ w1.heap.size zerosB (bitsV s) _ _ hU0
 have hbw : Below w.heap.size w ((w1.alloc (.cells zerosB 152)).setRow w1.heap.size (bitsV s)) := below_setRow (hb1.alloc hzw _) hzw _
 have hzz : w1.heap.size < ((w1.alloc (.cells zerosB 152)).setRow w1.heap.size (bitsV s)).heap.size := lt_some hU
 have HS := Lib.hid (And.intro hU0 (And.intro hi0 hs2))
 have HU := Lib.hid (And.intro hU hbw)
 clear hU0 hi0 hs2 hU hbw hsz hb1
 go_upto_region 2 with (first | (refine wpList_store_row rfl 152 (.tmp 3) (.tmp 7) rfl w1.heap.size (bitsV s) rfl rfl 152 zerosB HS.out.1 HS.out.2.1 HS.out.2.2 (bitsK_one s 32) ?_))
 rw [zerosBV]
 obtain ⟨hU, hbw⟩ := HU.out
 clear HU HS
 generalize (w1.alloc (.cells zerosB 152)).setRow w1.heap.size (bitsV s) = W at *
 generalize w1.heap.size = ub at *
 have hrow := World.ownsRow_lit (base := w.heap.size) (e := 3) (size := 1) W #[] 0 hbw.size (by unfold maxLen; omega) rfl
 have HI := Lib.hid (And.intro (keepA (.cells #[] 3) hU) (And.intro hrow (hbw.alloc hbw.size (.cells #[] 3))))
 clear hU hbw hrow
 go_wp2_with fail
 go_loopw [4, 5] (fun v i wr => ∃ (k : Nat) (va : Option Addr) (n vc : Nat), k ≤ 24 ∧ i = .int .i64 ((k : Int) + 1) ∧ v = .slice va n vc ∧ n = (ids10 s k).length ∧ n ≤ 24 ∧ wr.heap[ub]? = some (.cells (bitsV s) 152 (0, 0)) ∧ wr.ownsRow w.heap.size 3 1 (.slice va n vc) n ((ids10 s k).map (.int .i64)) ∧ Below w.heap.size w wr)
  (fun _ i _ => 30 - (intOf i).toNat)
 case atStart => exact ⟨0, _, 0, _, by omega, rfl, rfl, rfl, by omega, HI.out.1, HI.out.2.1, HI.out.2.2⟩
 case round =>
  obtain ⟨k, va, n, vc, hk, rfl, rfl, hn, hn24, hU, hown, hbw⟩ := hrel
  have hzr := hbw.size
  by_cases hlt : k < 24
  ·have hd1 : decide ((k : Int) + 1 ≤ 24) = true := by simp; omega
   have hsuc := Lib.hid (ids10_succ s k)
   have HLEN := Lib.hid (ids10_len s (k + 1))
   have c1 := (cell_at hU (k + 1)).trans (bitsV_get s (by omega))
   have i1 : (0 : Int) ≤ (k : Int) + 1 := by omega
   have i2 : (k : Int) + 1 < 32 := by omega
   have i3 : ((k : Int) + 1).toNat = k + 1 := by omega
   have HN := Lib.hid hn
   clear hn
   cases hb : bitAt s (k + 1)
   ·rw [hb] at c1
    have HS : Hid (ids10 s (k + 1) = ids10 s k) := Lib.hid (by rw [hsuc.out, hb]; simp)
    have HH := Lib.hid (And.intro hU (And.intro hown hbw))
    clear hb hU hown hbw
    go_wp2_with fail
    go_roundw
    case rel => exact ⟨k + 1, va, n, vc, by omega, by go_num, rfl, by rw [HS.out]; exact HN.out, hn24, HH.out.1, by rw [HS.out]; exact HH.out.2.1, HH.out.2.2⟩
    case measure => simp [intOf]; omega
   ·rw [hb] at c1
    have HS : Hid (ids10 s (k + 1) = ids10 s k ++ [(k : Int) + 1]) := Lib.hid (by rw [hsuc.out, hb]; simp)
    clear hb
    have hn24' : n + 1 ≤ 24 := by have := HLEN.out; rw [HS.out] at this; simp at this; have := HN.out; omega
    have hownA := hown.alloc (.cells #[.int .i64 ((k : Int) + 1)] 3)
    have HH := Lib.hid (And.intro hU hbw)
    clear hU hbw
    go_wp2_with (at_builtin; go_loud (refine wpList_append_own _ rfl (.tmp 16) (.tmp 18) 72 rfl w.heap.size 3 i0 (.int .i64 0) 1 8 Tryz.underlying72 hi hz0 hz1 hz2 rfl (by decide) (.slice va n vc) n ((ids10 s k).map (.int .i64)) rfl hownA ⟨wr.heap.size, 0, none⟩ 1 1 [.int .i64 ((k : Int) + 1)] rfl rfl (cell_one_new _ _ _) (ints_oneCell .i64 [(k : Int) + 1]) (by unfold maxLen; omega) (by omega) (by simp; omega) ?_))
    intro v' w2 hown2 hg2 _
    obtain ⟨va', vc', hv'⟩ := ownsRow_slice hown2
    rw [hv'] at hown2 ⊢
    clear hv'
    have hrow : ∀ x, (Value.slice va n vc).ownBlock = some x → w.heap.size ≤ x := fun x hx => (hown.lt x hx).1
    have hbel : Below w.heap.size w w2 := (HH.out.2.alloc hzr _).grown hg2 (by simp; omega) hrow
    have hU2 := keepG hg2 (keepA (.cells #[.int .i64 ((k : Int) + 1)] 3) HH.out.1) (ownsRow_ne_block3 hownA (keepA (.cells #[.int .i64 ((k : Int) + 1)] 3) HH.out.1) (fun cur hc => by cases hc))
    have HO := Lib.hid (And.intro hown2 (And.intro hU2 hbel))
    clear hown2 hown hownA hg2 hrow hU2 hbel HH
    go_wp2_with fail
    go_roundw
    case rel => exact ⟨k + 1, va', n + 1, vc', by omega, by go_num, rfl, by rw [HS.out]; simp; exact HN.out, hn24', HO.out.2.1, by rw [HS.out, List.map_append]; exact HO.out.1, HO.out.2.2⟩
    case measure => simp [intOf]; omega
  ·obtain rfl : k = 24 := by omega
   have hd1 : decide (((24 : Nat) : Int) + 1 ≤ 24) = false := by simp
   have HN := Lib.hid hn
   clear hn hU
   go_wp2_with fail
   go_returns
   exact ⟨va, n, vc, rfl, HN.out, hown, hbw⟩
end Go.Proofs.YtgebbmfoamkfnaaGreatDoor
namespace Go.Proofs.YtgebbmfoamkfnaaGreatDoor
open Go.RowKit
set_option linter.unusedVariables false
theorem bit_high16 {s i : Nat} (hs : s < 4294967296) (hi : 32 ≤ i) : s.testBit i = false :=
 Nat.testBit_lt_two_pow (Nat.lt_of_lt_of_le hs (by have := Nat.pow_le_pow_right (n := 2) (by omega) hi; omega))
theorem bitAt_nat16 (s i : Nat) : bitAt (s : Int) i = s.testBit i := by
 unfold bitAt
 have e : ((s : Int) / 2 ^ i % 2) = ((s / 2 ^ i % 2 : Nat) : Int) := by simp
 rw [e, Nat.testBit_eq_decide_div_mod_eq]
 by_cases hh : s / 2 ^ i % 2 = 1
 ·rw [hh]; rfl
 ·simp [hh]; omega
theorem hasB_at16 {s c : Int} (h0 : 0 ≤ s) (h1 : s ≤ 4294967295) (hc : idB c = true) : hasB s c = bitAt s c.toNat := by
 obtain ⟨n, rfl, g1, g2⟩ := idNat hc
 obtain ⟨s, rfl⟩ := Int.eq_ofNat_of_zero_le h0
 rw [hasBit (by omega) g1 g2, Int.toNat_natCast, bitAt_nat16]
theorem ids_same16 {s : Int} (h0 : 0 ≤ s) (h1 : s ≤ 4294967295) : idsTo s 24 = ids10 s 24 := by
 unfold idsTo ids10
 apply List.filter_congr
 intro x hx
 obtain ⟨j, hj, rfl⟩ := List.mem_map.1 hx
 have := List.mem_range.1 hj
 exact hasB_at16 h0 h1 (idB_true (by omega) (by omega))
theorem mask_bit16 : ∀ i, i < 32 → (4261412865 : Nat).testBit i = !decide (1 ≤ i ∧ i ≤ 24) := by decide
theorem sIs_nat16 {s : Nat} (hs : s < 4294967296) : sIs (s : Int) = (s &&& 4261412865 == 0) := by
 unfold sIs
 rw [show (33554430 : Int) = ((33554430 : Nat) : Int) from rfl, u32_andNot_nat _ _ hs (by omega)]
 show (((s &&& 4261412865 : Nat) : Int) == 0) = _
 by_cases h : s &&& 4261412865 = 0
 ·rw [h]; rfl
 ·rw [beq_false_of_ne h, beq_false_of_ne (by omega)]
theorem sIs_same16 {s : Int} (h0 : 0 ≤ s) (h1 : s ≤ 4294967295) : sIs s = is10 s := by
 obtain ⟨s, rfl⟩ := Int.eq_ofNat_of_zero_le h0
 have hs : s < 4294967296 := by omega
 rw [sIs_nat16 hs]
 apply Bool.eq_iff_iff.2
 unfold is10
 rw [List.all_eq_true, beq_iff_eq]
 constructor
 ·intro h i hi
  have hi := List.mem_range.1 hi
  have hb : (s &&& 4261412865).testBit i = false := by rw [h]; simp
  rw [Nat.testBit_and, mask_bit16 i hi] at hb
  rw [bitAt_nat16]
  cases hx : s.testBit i
  ·rfl
  ·rw [hx] at hb; simp at hb; simp; omega
 ·intro h
  apply Nat.eq_of_testBit_eq
  intro i
  rw [Nat.testBit_and, Nat.zero_testBit]
  by_cases hi : i < 32
  ·have := h i (List.mem_range.2 hi)
   rw [bitAt_nat16] at this
   rw [mask_bit16 i hi]
   cases hx : s.testBit i
   ·rfl
   ·rw [hx] at this; simp at this; simp; omega
  ·rw [bit_high16 hs (by omega)]; rfl
end Go.Proofs.YtgebbmfoamkfnaaGreatDoor
namespace Go.Proofs.YtgebbmfoamkfnaaGreatDoor
open Go.RowKit
set_option linter.unusedVariables false
open Go.Lib (decDigits join joinTail)
/-- What stands ahead of a byte that neither has is one. -/
theorem cut_eq {s : UInt8} : ∀ {x y p q : List UInt8}, s ∉ x → s ∉ y → (p = [] ∨ ∃ p', p = s :: p') → (q = [] ∨ ∃ q', q = s :: q') → x ++ p = y ++ q → x = y ∧ p = q
  | [], [], _, _, _, _, _, _, h => ⟨rfl, h⟩
  | [], c :: y, p, q, _, hy, hp, _, h => by
    rcases hp with rfl | ⟨p', rfl⟩
    · cases h
    · simp only [List.nil_append, List.cons_append, List.cons.injEq] at h
      exact absurd (by rw [h.1]; exact List.mem_cons_self) hy
  | c :: x, [], p, q, hx, _, _, hq, h => by
    rcases hq with rfl | ⟨q', rfl⟩
    · cases h
    · simp only [List.nil_append, List.cons_append, List.cons.injEq] at h
      exact absurd (by rw [← h.1]; exact List.mem_cons_self) hx
  | c :: x, d :: y, p, q, hx, hy, hp, hq, h => by
    simp only [List.cons_append, List.cons.injEq] at h
    obtain ⟨h1, h2⟩ := cut_eq (fun e => hx (List.mem_cons_of_mem _ e)) (fun e => hy (List.mem_cons_of_mem _ e)) hp hq h.2
    exact ⟨by rw [h.1, h1], h2⟩
theorem join_step (s : UInt8) (x : List UInt8) (r : List (List UInt8)) : join (x :: r) [s] = x ++ (match r with | [] => [] | y :: t => s :: join (y :: t) [s]) := by
  rw [Lib.join_cons]
  cases r with
  | nil => simp [joinTail]
  | cons y t =>
    show x ++ joinTail [s] (y :: t) = x ++ (s :: join (y :: t) [s])
    rw [Lib.join_cons]
    simp [joinTail]
theorem join_inj {s : UInt8} : ∀ {a b : List (List UInt8)}, a ≠ [] → b ≠ [] → (∀ x ∈ a, s ∉ x) → (∀ x ∈ b, s ∉ x) → join a [s] = join b [s] → a = b
  | [], _, h, _, _, _, _ => absurd rfl h
  | _ :: _, [], _, h, _, _, _ => absurd rfl h
  | x :: r, y :: t, _, _, ha, hb, h => by
    rw [join_step, join_step] at h
    obtain ⟨h1, h2⟩ := cut_eq (ha x (by simp)) (hb y (by simp)) (by cases r with | nil => exact .inl rfl | cons z u => exact .inr ⟨_, rfl⟩) (by cases t with | nil => exact .inl rfl | cons z u => exact .inr ⟨_, rfl⟩) h
    subst h1
    match r, t, h2, ha, hb with
    | [], [], _, _, _ => rfl
    | [], _ :: _, h2, _, _ => cases h2
    | _ :: _, [], h2, _, _ => cases h2
    | z :: u, z' :: u', h2, ha, hb =>
      simp only [List.cons.injEq, true_and] at h2
      rw [join_inj (by simp) (by simp) (fun w hw => ha w (List.mem_cons_of_mem _ hw)) (fun w hw => hb w (List.mem_cons_of_mem _ hw)) h2]
/-- Digits. -/
theorem dd_ge {u : Nat} (h : ¬ u < 10) : decDigits u = decDigits (u / 10) ++ [UInt8.ofNat (48 + u % 10)] := by rw [decDigits, dif_neg h]
theorem ofNat_small {n : Nat} (h : n < 256) : (UInt8.ofNat n).toNat = n := by simp; omega
theorem dd_digit : ∀ (u : Nat), ∀ c ∈ decDigits u, 48 ≤ c.toNat ∧ c.toNat ≤ 57
  | u => by
    intro c hc
    by_cases h : u < 10
    · rw [Lib.decDigits_one h] at hc
      obtain rfl := List.mem_singleton.1 hc
      rw [ofNat_small (by omega)]
      omega
    · rw [dd_ge h] at hc
      rcases List.mem_append.1 hc with hc | hc
      · exact dd_digit (u / 10) c hc
      · obtain rfl := List.mem_singleton.1 hc
        rw [ofNat_small (by omega)]
        omega
  termination_by u => u
  decreasing_by omega
def dval (l : List UInt8) : Nat := l.foldl (fun a c => a * 10 + (c.toNat - 48)) 0
theorem dval_dd : ∀ (u : Nat), dval (decDigits u) = u
  | u => by
    by_cases h : u < 10
    · rw [Lib.decDigits_one h]
      show 0 * 10 + ((UInt8.ofNat (48 + u)).toNat - 48) = u
      rw [ofNat_small (by omega)]
      omega
    · rw [dd_ge h]
      have ih := dval_dd (u / 10)
      unfold dval at ih ⊢
      rw [List.foldl_append, ih]
      show u / 10 * 10 + ((UInt8.ofNat (48 + u % 10)).toNat - 48) = u
      rw [ofNat_small (by omega)]
      omega
  termination_by u => u
  decreasing_by omega
theorem dd_inj {a b : Nat} (h : decDigits a = decDigits b) : a = b := by rw [← dval_dd a, h, dval_dd]
theorem dd_no {u : Nat} {s : UInt8} (h : s.toNat < 48 ∨ 57 < s.toNat) : s ∉ decDigits u := fun hm => by
  have := dd_digit u s hm
  omega
theorem dd_len2 (u : Nat) (h : u < 100) : (decDigits u).length ≤ 2 := by
  by_cases h1 : u < 10
  · rw [Lib.decDigits_one h1]; simp
  · rw [dd_ge h1, List.length_append, Lib.decDigits_one (by omega)]; simp
theorem join_mem {s c : UInt8} : ∀ {l : List (List UInt8)}, c ∈ join l [s] → c = s ∨ ∃ x ∈ l, c ∈ x
  | [], h => by simp [Lib.join_nil] at h
  | x :: r, h => by
    rw [join_step] at h
    rcases List.mem_append.1 h with h | h
    · exact .inr ⟨x, by simp, h⟩
    · cases r with
      | nil => cases h
      | cons y t =>
        rcases List.mem_cons.1 h with h | h
        · exact .inl h
        · rcases join_mem h with h | ⟨z, hz, hc⟩
          · exact .inl h
          · exact .inr ⟨z, List.mem_cons_of_mem _ hz, hc⟩
end Go.Proofs.YtgebbmfoamkfnaaGreatDoor
namespace Go.Proofs
open Go.Shelf
def Tryz.lays156_ren : Go.Shelf.Ren := ⟨fun | 156 => 79 | 165 => 110 | 166 => 111 | 169 => 112 | 240 => 146 | 241 => 147 | 276 => 178 | 277 => 179 | n => n, fun | 31 => 139 | 9 => 9 | 3 => 3 | 4 => 4 | 0 => 0 | 20 => 20 | 72 => 203 | 76 => 143 | 70 => 201 | 37 => 156 | 75 => 142 | 127 => 242 | 164 => 284 | 5 => 5 | 80 => 40 | n => n, fun | n => n⟩
theorem Tryz.lays156 : Go.Proofs.Lays.n156 Tryz.prog Tryz.lays156_ren := {
  mixed := by kernel_rfl
  f156 := Tryz.func79.trans (congrArg some (by kernel_rfl))
  f165 := Tryz.func110.trans (congrArg some (by kernel_rfl))
  f166 := Tryz.func111.trans (congrArg some (by kernel_rfl))
  f169 := Tryz.func112.trans (congrArg some (by kernel_rfl))
  f240 := Tryz.func146.trans (congrArg some (by kernel_rfl))
  f241 := Tryz.func147.trans (congrArg some (by kernel_rfl))
  f276 := Tryz.func178.trans (congrArg some (by kernel_rfl))
  f277 := Tryz.func179.trans (congrArg some (by kernel_rfl))
  t0 := Tryz.underlying0
  a0 := Tryz.isAgg0
  z0 := Tryz.sizeOf0
  v0 := Tryz.zeroValue0
  t3 := Tryz.underlying3
  a3 := Tryz.isAgg3
  z3 := Tryz.sizeOf3
  v3 := Tryz.zeroValue3
  t4 := Tryz.underlying4
  a4 := Tryz.isAgg4
  z4 := Tryz.sizeOf4
  v4 := Tryz.zeroValue4
  t9 := Tryz.underlying9
  a9 := Tryz.isAgg9
  z9 := Tryz.sizeOf9
  v9 := Tryz.zeroValue9
  t20 := Tryz.underlying20
  a20 := Tryz.isAgg20
  z20 := Tryz.sizeOf20
  v20 := Tryz.zeroValue20
  t31 := Tryz.underlying139
  a31 := Tryz.isAgg139
  z31 := Tryz.sizeOf139
  v31 := Tryz.zeroValue139
  t37 := Tryz.underlying156
  a37 := Tryz.isAgg156
  z37 := Tryz.sizeOf156
  v37 := Tryz.zeroValue156
  t70 := Tryz.underlying201
  a70 := Tryz.isAgg201
  z70 := Tryz.sizeOf201
  v70 := Tryz.zeroValue201
  t72 := Tryz.underlying203
  a72 := Tryz.isAgg203
  z72 := Tryz.sizeOf203
  v72 := Tryz.zeroValue203
  t75 := Tryz.underlying142
  a75 := Tryz.isAgg142
  z75 := Tryz.sizeOf142
  v75 := Tryz.zeroValue142
  t76 := Tryz.underlying143
  a76 := Tryz.isAgg143
  z76 := Tryz.sizeOf143
  v76 := Tryz.zeroValue143
  t127 := Tryz.underlying242
  a127 := Tryz.isAgg242
  z127 := Tryz.sizeOf242
  v127 := Tryz.zeroValue242
  t164 := Tryz.underlying284
  a164 := Tryz.isAgg284
  z164 := Tryz.sizeOf284
  v164 := Tryz.zeroValue284 }
theorem Tryz.Builder_Extra_156 : Builder.Extra Tryz.prog Tryz.lays156_ren := {
  sizeBuilder := by kernel_rfl
  liesBuilder := by kernel_rfl
  t5 := Tryz.underlying5
  a5 := Tryz.isAgg5
  z5 := Tryz.sizeOf5
  v5 := Tryz.zeroValue5
  infoByte := by kernel_rfl
  cellsByte := by kernel_rfl
  sizeByte := by kernel_rfl
  neB5 := by decide }
open Go.RowKit in
theorem Tryz.strings_Join (bk o c : Nat) (xs : List ByteArray) (sep : ByteArray) (w : World) (hcells : ∀ (j : Nat) x, xs[j]? = some x → w.cell? ⟨bk, o + j, none⟩ = some (.string x)) (hbk : bk < w.heap.size) (hN : xs.length ≤ 140737488355328) (hcap : xs.length ≤ c) (hlen : (Lib.join (xs.map (·.data.toList)) sep.data.toList).length ≤ 140737488355328) :
    Calls Tryz.prog 79 #[.slice (some ⟨bk, o, none⟩) xs.length c, .string sep] w fun e w' => e = .returned (.string ⟨(Lib.join (xs.map (·.data.toList)) sep.data.toList).toArray⟩) ∧ Below w.heap.size w w' := Any.strings_Join Tryz.lays156 Tryz.Builder_Extra_156 bk o c xs sep w hcells hbk hN hcap hlen
def Tryz.lays171_ren : Go.Shelf.Ren := ⟨fun | 171 => 78 | 243 => 109 | 246 => 145 | 283 => 174 | 284 => 175 | 285 => 176 | 286 => 177 | 129 => 201 | 317 => 200 | 318 => 202 | 319 => 203 | 320 => 204 | 337 => 211 | 338 => 212 | n => n, fun | 3 => 3 | 9 => 9 | 2 => 2 | 4 => 4 | 171 => 279 | 0 => 0 | 53 => 49 | 37 => 156 | 5 => 5 | 173 => 282 | 212 => 306 | 51 => 25 | 20 => 20 | 213 => 307 | 46 => 70 | 232 => 323 | 233 => 324 | n => n, fun | 17 => 3 | 18 => 6 | 19 => 7 | n => n⟩
theorem Tryz.lays171 : Go.Proofs.Lays.n171 Tryz.prog Tryz.lays171_ren := {
  mixed := by kernel_rfl
  f129 := Tryz.func201.trans (congrArg some (by kernel_rfl))
  f171 := Tryz.func78.trans (congrArg some (by kernel_rfl))
  f243 := Tryz.func109.trans (congrArg some (by kernel_rfl))
  f246 := Tryz.func145.trans (congrArg some (by kernel_rfl))
  f283 := Tryz.func174.trans (congrArg some (by kernel_rfl))
  f284 := Tryz.func175.trans (congrArg some (by kernel_rfl))
  f285 := Tryz.func176.trans (congrArg some (by kernel_rfl))
  f286 := Tryz.func177.trans (congrArg some (by kernel_rfl))
  f317 := Tryz.func200.trans (congrArg some (by kernel_rfl))
  f318 := Tryz.func202.trans (congrArg some (by kernel_rfl))
  f319 := Tryz.func203.trans (congrArg some (by kernel_rfl))
  f320 := Tryz.func204.trans (congrArg some (by kernel_rfl))
  f337 := Tryz.func211.trans (congrArg some (by kernel_rfl))
  f338 := Tryz.func212.trans (congrArg some (by kernel_rfl))
  t0 := Tryz.underlying0
  a0 := Tryz.isAgg0
  z0 := Tryz.sizeOf0
  v0 := Tryz.zeroValue0
  t2 := Tryz.underlying2
  a2 := Tryz.isAgg2
  z2 := Tryz.sizeOf2
  v2 := Tryz.zeroValue2
  t3 := Tryz.underlying3
  a3 := Tryz.isAgg3
  z3 := Tryz.sizeOf3
  v3 := Tryz.zeroValue3
  t4 := Tryz.underlying4
  a4 := Tryz.isAgg4
  z4 := Tryz.sizeOf4
  v4 := Tryz.zeroValue4
  t5 := Tryz.underlying5
  a5 := Tryz.isAgg5
  z5 := Tryz.sizeOf5
  v5 := Tryz.zeroValue5
  t9 := Tryz.underlying9
  a9 := Tryz.isAgg9
  z9 := Tryz.sizeOf9
  v9 := Tryz.zeroValue9
  t20 := Tryz.underlying20
  a20 := Tryz.isAgg20
  z20 := Tryz.sizeOf20
  v20 := Tryz.zeroValue20
  t37 := Tryz.underlying156
  a37 := Tryz.isAgg156
  z37 := Tryz.sizeOf156
  v37 := Tryz.zeroValue156
  t46 := Tryz.underlying70
  a46 := Tryz.isAgg70
  z46 := Tryz.sizeOf70
  v46 := Tryz.zeroValue70
  t51 := Tryz.underlying25
  a51 := Tryz.isAgg25
  z51 := Tryz.sizeOf25
  v51 := Tryz.zeroValue25
  t53 := Tryz.underlying49
  a53 := Tryz.isAgg49
  z53 := Tryz.sizeOf49
  v53 := Tryz.zeroValue49
  t171 := Tryz.underlying279
  a171 := Tryz.isAgg279
  z171 := Tryz.sizeOf279
  v171 := Tryz.zeroValue279
  t173 := Tryz.underlying282
  a173 := Tryz.isAgg282
  z173 := Tryz.sizeOf282
  v173 := Tryz.zeroValue282
  t212 := Tryz.underlying306
  a212 := Tryz.isAgg306
  z212 := Tryz.sizeOf306
  v212 := Tryz.zeroValue306
  t213 := Tryz.underlying307
  a213 := Tryz.isAgg307
  z213 := Tryz.sizeOf307
  t232 := Tryz.underlying323
  a232 := Tryz.isAgg323
  z232 := Tryz.sizeOf323
  v232 := Tryz.zeroValue323
  t233 := Tryz.underlying324
  a233 := Tryz.isAgg324
  z233 := Tryz.sizeOf324
  v233 := Tryz.zeroValue324
  g17 := by kernel_rfl
  g18 := by kernel_rfl
  g19 := by kernel_rfl }
open Go.RowKit Go.Sort Go.Lib in
theorem Tryz.strconv_Itoa_small (i : Nat) (hi : i < 100) (w : World) :
    Calls Tryz.prog 78 #[.int .i64 i] w fun e w' => e = .returned (.string ⟨(Lib.decDigits i).toArray⟩) ∧ w' = w := Any.strconv_Itoa_small Tryz.lays171 i hi w
end Go.Proofs
namespace Go.Proofs.YtgebbmfoamkfnaaGreatDoor
open Go.RowKit
set_option linter.unusedVariables false
open Go.Lib (decDigits byteCells join)
theorem Tryz.infoS9 : (Tryz.prog.info? 9).map (fun i => (i.zero, i.size, i.bytes)) = some (some (.string ByteArray.empty), 1, 16) := by kernel_rfl
theorem join_len {s : UInt8} {m : Nat} : ∀ {l : List (List UInt8)}, (∀ x ∈ l, x.length ≤ m) → (join l [s]).length ≤ l.length * (m + 1)
  | [], _ => by simp [Lib.join_nil]
  | x :: r, h => by
    have h1 := h x (by simp)
    rw [join_step, List.length_append, List.length_cons]
    cases r with
    | nil => simp; omega
    | cons y t =>
      have h2 := join_len (s := s) (l := y :: t) (fun z hz => h z (List.mem_cons_of_mem _ hz))
      have e : (s :: join (y :: t) [s]).length = (join (y :: t) [s]).length + 1 := rfl
      show x.length + (s :: join (y :: t) [s]).length ≤ _
      rw [e, Nat.add_mul]
      omega
/-- Texts as a row of strings. -/
def strV (l : List (List UInt8)) : List Value := l.map fun x => .string ⟨x.toArray⟩
theorem strV_at {l : List (List UInt8)} {i : Nat} {x : List UInt8} (h : l[i]? = some x) : (strV l)[i]? = some (.string ⟨x.toArray⟩) := by
  unfold strV
  rw [List.getElem?_map, h]
  rfl
theorem strV_snoc (l : List (List UInt8)) (x : List UInt8) : strV (l ++ [x]) = strV l ++ [.string ⟨x.toArray⟩] := by simp [strV]
theorem ba_lists (l : List (List UInt8)) : (l.map fun x => (⟨x.toArray⟩ : ByteArray)).map (·.data.toList) = l := by
  rw [List.map_map]
  exact (List.map_congr_left (fun x _ => rfl)).trans (List.map_id l)
/-- strings.Join of a row of texts. -/
theorem join_any {B n c : Nat} {a : Option Addr} {l : List (List UInt8)} {s : UInt8} {w : World} (h : w.ownsRow B 9 1 (.slice a n c) n (strV l)) (hn : l.length = n) (h0 : 0 < n) (hl : (join l [s]).length ≤ 1000000) (hn2 : n ≤ 1000000) :
    Calls Tryz.prog 79 #[.slice a n c, .string ⟨#[s]⟩] w fun e w' => e = .returned (.string ⟨(join l [s]).toArray⟩) ∧ Below w.heap.size w w' := by
  obtain ⟨q, rfl, _, hql, hqc⟩ := row_block h h0
  have hcap : n ≤ c := by
    rcases h.2 with ⟨he, _⟩ | ⟨g, cap, cur, he, _, _, hc, _⟩
    · cases he
    · cases he; exact hc
  have hJ := Tryz.strings_Join q 0 c (l.map fun x => (⟨x.toArray⟩ : ByteArray)) ⟨#[s]⟩ w (fun j x hx => by
    rw [List.getElem?_map] at hx
    cases hj : l[j]? with
    | none => rw [hj] at hx; cases hx
    | some y =>
      rw [hj] at hx
      cases hx
      rw [Nat.zero_add]
      exact hqc j _ (strV_at hj)) hql (by rw [List.length_map]; omega) (by rw [List.length_map]; omega) (by
    rw [ba_lists]
    exact Nat.le_trans hl (by omega))
  rw [ba_lists, List.length_map, hn] at hJ
  exact hJ
end Go.Proofs.YtgebbmfoamkfnaaGreatDoor
