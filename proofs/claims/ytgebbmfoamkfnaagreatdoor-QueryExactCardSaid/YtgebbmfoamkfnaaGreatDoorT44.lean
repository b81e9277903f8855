/- The number of ids; retrofitref10.Of; a set's text, the way back by the document. · retrofitref10.Parse. Printed by mkFY.py. -/
import Derived.Test.YtgebbmfoamkfnaaGreatDoorT43
import Derived.Test.YtgebbmfoamkfnaaGreatDoorT3
import Derived.Test.YtgebbmfoamkfnaaGreatDoorT2
namespace Go.Proofs.YtgebbmfoamkfnaaGreatDoor
open Go.RowKit
open Go.Lib (decDigits join)
set_option linter.unusedVariables false
def hnN (f : Nat → Bool) : Nat → Nat
 | 0 => 0
 | j + 1 => 2 * hnN f j + (if f (31 - j) = true then 1 else 0)
theorem hnN_lt (f : Nat → Bool) : ∀ j, hnN f j < 2 ^ j
 | 0 => by simp [hnN]
 | j + 1 => by
  have := hnN_lt f j
  unfold hnN
  rw [Nat.pow_succ]
  split <;> omega
theorem hnN_bit (f : Nat → Bool) : ∀ j, j ≤ 32 → ∀ i, i < j → (hnN f j).testBit i = f (32 - j + i)
 | 0, _, i, h => absurd h (Nat.not_lt_zero i)
 | j + 1, hj, 0, _ => by
  rw [Nat.testBit_zero]
  have e : 32 - (j + 1) + 0 = 31 - j := by omega
  rw [e]
  unfold hnN
  cases f (31 - j) <;> simp
 | j + 1, hj, i + 1, h => by
  have ih := hnN_bit f j (by omega) i (by omega)
  rw [Nat.testBit_succ]
  have e : hnN f (j + 1) / 2 = hnN f j := by
   conv => lhs; unfold hnN
   split <;> omega
  rw [e, ih]
  congr 1
  omega
def inL (l : List Int) (i : Nat) : Bool := decide ((i : Int) ∈ l)
def numB (l : List Int) : Int := (hnN (inL l) 32 : Nat)
theorem numB_bd (l : List Int) : 0 ≤ numB l ∧ numB l ≤ 4294967295 := by
 have := hnN_lt (inL l) 32
 unfold numB
 omega
theorem numB_bit (l : List Int) (i : Nat) (h : i < 32) : bitAt (numB l) i = inL l i := by
 unfold numB
 rw [bitAt_nat16, hnN_bit (inL l) 32 (by omega) i h]
 congr 1
 omega
theorem ris_eq : ∀ {a b : List Int}, a.Pairwise (· < ·) → b.Pairwise (· < ·) → (∀ i, i ∈ a ↔ i ∈ b) → a = b
 | [], [], _, _, _ => rfl
 | [], y :: t, _, _, h => absurd ((h y).2 (by simp)) (by simp)
 | x :: r, [], _, _, h => absurd ((h x).1 (by simp)) (by simp)
 | x :: r, y :: t, ha, hb, h => by
  have ha2 := List.pairwise_cons.1 ha
  have hb2 := List.pairwise_cons.1 hb
  have hxy : x = y := by
   have h1 := (h x).1 (by simp)
   have h2 := (h y).2 (by simp)
   rcases List.mem_cons.1 h1 with h1 | h1
   ·exact h1
   ·rcases List.mem_cons.1 h2 with h2 | h2
    ·exact h2.symm
    ·have := hb2.1 x h1
     have := ha2.1 y h2
     omega
  subst hxy
  rw [ris_eq ha2.2 hb2.2 fun i => ?_]
  have hi := h i
  constructor
  ·intro h1
   have := ha2.1 i h1
   rcases List.mem_cons.1 (hi.1 (List.mem_cons_of_mem _ h1)) with e | h2
   ·omega
   ·exact h2
  ·intro h1
   have := hb2.1 i h1
   rcases List.mem_cons.1 (hi.2 (List.mem_cons_of_mem _ h1)) with e | h2
   ·omega
   ·exact h2
theorem ids_rise (s : Int) : (idsTo s 24).Pairwise (· < ·) := by
 unfold idsTo
 refine List.Pairwise.sublist List.filter_sublist ?_
 rw [List.pairwise_map]
 exact List.Pairwise.imp (fun h => by omega) List.pairwise_lt_range
theorem ids_ris (s : Int) : Ris (idsTo s 24) := ⟨ids_rise s, fun i hi => ids_pos hi⟩
theorem numB_ids {l : List Int} (h : Ris l) : idsTo (numB l) 24 = l := by
 obtain ⟨b0, b1⟩ := numB_bd l
 refine ris_eq (ids_rise _) h.1 fun i => ?_
 rw [ids_same16 b0 b1, mem_ids10 b0 b1]
 constructor
 ·rintro ⟨h1, h2⟩
  obtain ⟨n, rfl, n1, n2⟩ := idNat h1
  rw [hasB_at16 b0 b1 h1, Int.toNat_natCast, numB_bit l n (by omega)] at h2
  exact of_decide_eq_true h2
 ·intro hi
  have hb := h.2 i hi
  have h1 : idB i = true := idB_true hb.1 hb.2
  refine ⟨h1, ?_⟩
  rw [hasB_at16 b0 b1 h1, numB_bit l i.toNat (by omega)]
  unfold inL
  rw [show ((i.toNat : Nat) : Int) = i by omega]
  exact decide_eq_true hi
theorem numB_ok {l : List Int} (h : ∀ i ∈ l, 1 ≤ i ∧ i ≤ 24) : SOk (numB l) := by
 obtain ⟨b0, b1⟩ := numB_bd l
 refine ⟨b0, b1, ?_⟩
 rw [sIs_same16 b0 b1]
 unfold is10
 rw [List.all_eq_true]
 intro i hi
 rw [numB_bit l i (List.mem_range.1 hi)]
 by_cases hm : (i : Int) ∈ l
 ·have := h _ hm
  simp [inL, hm]
  omega
 ·simp [inL, hm]
def back10 (s : List UInt8) : Option Int := if s = [45] then some 0 else (p10 s [] (-1)).map numB
theorem textS_zero : textS 0 = [45] := by kernel_rfl
theorem back10_is (s : List UInt8) : CanonS s (back10 s) := by
 unfold back10
 by_cases h : s = [45]
 ·rw [if_pos h]
  exact CanonS.of SOk.zero (by rw [h]; exact textS_zero)
 ·rw [if_neg h]
  cases hp : p10 s [] (-1) with
  | none =>
   refine ⟨fun n hn he => ?_, fun _ => rfl⟩
   unfold textS at he
   cases hl : idsTo n 24 with
   | nil => rw [hl] at he; exact absurd he.symm h
   | cons x t =>
    rw [hl, if_neg (by simp)] at he
    have h2 := p10_all t x [] (by rw [List.nil_append, ← hl]; exact ids_ris n)
    rw [show join (dL (x :: t)) [43] = s from he, hp] at h2
    cases h2
  | some L =>
   obtain ⟨T, t1, t2, t3, t4⟩ := p10_is s [] (-1) L ⟨List.Pairwise.nil, by simp⟩ (.inl rfl) hp
   rw [List.nil_append] at t2
   subst t2
   refine CanonS.of (numB_ok t3.2) ?_
   unfold textS
   rw [numB_ids t3, if_neg (by intro e; exact t1 (List.isEmpty_iff.1 e))]
   rw [show (L.map fun i => decDigits i.toNat) = dL L from rfl, t4]
   rfl
def bitsL (l : List Int) : List Value := (List.range 32).map fun i => .bool (inL l i)
theorem bitsL_len (l : List Int) : (bitsL l).length = 32 := by simp [bitsL]
theorem bitsL_get (l : List Int) {i : Nat} (h : i < 32) : (bitsL l)[i]? = some (.bool (inL l i)) := by
 unfold bitsL; rw [List.getElem?_map, List.getElem?_range h]; rfl
theorem bitsL_zero : zerosB = (bitsL []).toArray := by
 unfold bitsL inL zerosB
 simp [List.range, List.range.loop]
theorem bitsL_set (l : List Int) (y : Nat) (h : y < 32) : (bitsL l).set y (.bool true) = bitsL (l ++ [(y : Int)]) := by
 apply List.ext_getElem?
 intro i
 rw [List.getElem?_set]
 by_cases hi : i < 32
 ·rw [bitsL_get _ hi, bitsL_get _ hi]
  by_cases hk : y = i
  ·subst hk; rw [if_pos rfl, if_pos (by rw [bitsL_len]; omega)]; simp [inL]
  ·rw [if_neg hk]
   congr 2
   unfold inL
   apply decide_eq_decide.2
   simp
   omega
 ·rw [List.getElem?_eq_none (by rw [bitsL_len]; omega), List.getElem?_eq_none (by rw [bitsL_len]; omega), if_neg (by omega)]
theorem bsetL {l : List Int} {y ub : Nat} {w : World} (hy : y < 32) (h : w.heap[ub]? = some (.cells (bitsL l).toArray 152 (0, 0))) : (w.setCell ⟨ub, y, none⟩ (.bool true)).heap[ub]? = some (.cells (bitsL (l ++ [(y : Int)])).toArray 152 (0, 0)) := by
 rw [hset _ _ _ _ _ _ _ h, List.setIfInBounds_toArray, bitsL_set _ _ hy]
set_option maxRecDepth 100000 in
set_option maxHeartbeats 2000000 in
theorem of10_any (l : List Int) (hr : ∀ i ∈ l, 1 ≤ i ∧ i ≤ 24) (n : Nat) (va : Option Addr) (vc B : Nat) (w : World) (ho : w.ownsRow B 3 1 (.slice va n vc) n (l.map (.int .i64))) (hn : n ≤ 100000) : Calls Tryz.prog 70 #[.slice va n vc] w fun e w' => e = .returned (.tuple #[.int .u32 (numB l), .bool true]) ∧ Below w.heap.size w w' := by
 have hln : l.length = n := by have := ho.1; rw [List.length_map] at this; omega
 have hU0 := heap_alloc_new w (.cells zerosB 152)
 have hi0 : (Tryz.prog.info? 152).map (·.size) = some zerosB.size := Tryz.size152
 have hbel0 : Below w.heap.size w (w.alloc (.cells zerosB 152)) := by go_grown
 have HB := Lib.hid (And.intro hU0 (And.intro hi0 hbel0))
 have HO := Lib.hid ho
 have HLN := Lib.hid hln
 have HR := Lib.hid hr
 clear hU0 hi0 hbel0 ho hln hr
 go_enter Tryz.func70, Tryz.ntmps70
 go_wp2_with (first | (refine wpList_store_row rfl 152 (.tmp 4) (.tmp 8) rfl w.heap.size zerosB rfl rfl 152 zerosB HB.out.1 HB.out.2.1 rfl zerosB_one ?_))
 rw [zerosBV]
 obtain ⟨hU, hi, hbel⟩ := HB.out
 clear HB
 have hU := setRow_heap _ w.heap.size zerosB zerosB _ _ hU
 have hbel := below_setRow hbel (Nat.le_refl w.heap.size) zerosB
 generalize (w.alloc (.cells zerosB 152)).setRow w.heap.size zerosB = W at hU hbel ⊢
 rw [bitsL_zero] at hU
 generalize hub : w.heap.size = ub at *
 have HUB := Lib.hid hub
 have HW := Lib.hid (And.intro hU hbel)
 clear hU hbel hub
 go_wp2_with fail
 go_loopw [5] (fun i wr => ∃ k : Nat, i = .int .i64 (k : Int) ∧ k ≤ n ∧ wr.heap[ub]? = some (.cells (bitsL (l.take k)).toArray 152 (0, 0)) ∧ Below ub w wr) (fun i _ => n - (intOf i).toNat)
 case atStart => exact ⟨0, rfl, Nat.zero_le _, HW.out.1, HW.out.2⟩
 case round =>
  obtain ⟨k, rfl, hk, hU, hb⟩ := hrel
  have HU := Lib.hid hU
  have HBB := Lib.hid hb
  clear hU hb
  by_cases hlt : k < n
  ·obtain ⟨q, rfl, _, hql, hqc⟩ := row_block (ownsRow_out HO.out (Out.of (HUB.out ▸ HBB.out) (F := fun _ => False)) (fun _ _ hf => hf)) (by omega)
   obtain ⟨y, hy⟩ : ∃ y, l[k]? = some y := ⟨_, List.getElem?_eq_getElem (by rw [HLN.out]; exact hlt)⟩
   have y0 := hqc k (.int .i64 y) (by rw [List.getElem?_map, hy]; rfl)
   obtain ⟨hy1, hy2⟩ := HR.out y (List.mem_of_getElem? hy)
   have HTK := Lib.hid (take_snoc hy)
   obtain ⟨m, rfl⟩ : ∃ m : Nat, y = (m : Int) := ⟨y.toNat, by omega⟩
   have f1 := free_at HU.out m
   have c1 := (cell_at HU.out m).trans (show (bitsL (l.take k)).toArray[m]? = _ by rw [List.getElem?_toArray, bitsL_get _ (by omega)])
   have HBS := Lib.hid (bsetL (y := m) (by omega) HU.out)
   have HB2 : Hid (Below ub w (wr.setCell ⟨ub, m, none⟩ (.bool true))) := Lib.hid (HBB.out.setCell (Nat.le_refl _) _)
   have g0 : (0 : Int) ≤ (k : Int) := by omega
   have g1 : (k : Int) < (n : Int) := by omega
   have g2 : (m : Int) < 32 := by omega
   have g3 : (0 : Int) ≤ (m : Int) := by omega
   clear hqc hy
   go_wp2_with fail
   go_roundw
   case rel => exact ⟨k + 1, by go_num, by omega, by rw [HTK.out]; exact HBS.out, HB2.out⟩
   case measure => simp [intOf]; omega
  ·obtain rfl : k = n := by omega
   have hU := HU.out
   rw [List.take_of_length_le (by rw [HLN.out]; exact Nat.le_refl _)] at hU
   have HUL := Lib.hid hU
   clear hU HU
   go_wp2_with fail
   go_loopw [6, 7] (fun v i w2 => ∃ j : Nat, v = .int .u32 ((hnN (inL l) j : Nat) : Int) ∧ i = .int .i64 (31 - (j : Int)) ∧ j ≤ 32 ∧ w2 = wr) (fun _ i _ => (intOf i + 1).toNat)
   case atStart => exact ⟨0, rfl, rfl, by omega, rfl⟩
   case round =>
    obtain ⟨j, rfl, rfl, hj, rfl⟩ := hrel
    have hb := hnN_lt (inL l) j
    by_cases hj2 : j < 32
    ·have hp : 2 ^ j ≤ 2 ^ 31 := Nat.pow_le_pow_right (by omega) (by omega)
     have hst : hnN (inL l) (j + 1) = 2 * hnN (inL l) j + (if inL l (31 - j) = true then 1 else 0) := rfl
     obtain ⟨H, hH⟩ : ∃ H, hnN (inL l) j = H := ⟨_, rfl⟩
     rw [hH] at hb hst ⊢
     obtain ⟨q, hq⟩ : ∃ q : Nat, 31 - j = q := ⟨_, rfl⟩
     rw [hq] at hst
     have hq2 : (31 : Int) - (j : Int) = (q : Int) := by omega
     have c1 := (cell_at HUL.out q).trans (show (bitsL l).toArray[q]? = _ by rw [List.getElem?_toArray, bitsL_get _ (by omega)])
     obtain ⟨r, hr⟩ : ∃ r, inL l q = r := ⟨_, rfl⟩
     rw [hr] at c1 hst
     have HST := Lib.hid hst
     have g0 : (0 : Int) ≤ (q : Int) := by omega
     have g1 : (q : Int) < 32 := by omega
     have g2 : (H : Int) ≤ 2147483647 := by omega
     have g3 : (0 : Int) ≤ (H : Int) := by omega
     have HJQ := Lib.hid hq
     clear hst hr hq hH hb hp
     cases r
     ·go_wp2_with fail
      go_roundw
      case rel => exact ⟨j + 1, by rw [HST.out]; simp; omega, by have := HJQ.out; simp; omega, by omega, by trivial⟩
      case measure => simp [intOf]; omega
     ·go_wp2_with fail
      go_roundw
      case rel => exact ⟨j + 1, by rw [HST.out]; simp; omega, by have := HJQ.out; simp; omega, by omega, by trivial⟩
      case measure => simp [intOf]; omega
    ·obtain rfl : j = 32 := by omega
     clear hb
     go_wp2_with fail
     go_returns
     exact ⟨rfl, HUB.out ▸ HBB.out⟩
end Go.Proofs.YtgebbmfoamkfnaaGreatDoor
namespace Go.Proofs.YtgebbmfoamkfnaaGreatDoor
open Go.RowKit
set_option linter.unusedVariables false
def myA : List Bool := [false, false, false, false, false, false, false, false, false, false, false, false, false, false, false, false, true, true, true, true, true, true, true, true, true, true, false, false, false, false, false, false, false, false, false, false, false, false, false, false, false, false, false, false, false, false, false, false, false, false, false, false, false, false, false, false, false, false, false, false, false, false, false, false, false, false, false, false, false, false, false, false, false, false, false, false, false, false, false, false, false, false, false, false, false, false, false, false, false, false, false, false, false]
def myB : List Bool := [false, false, false, false, false, false, false, false, false, false, false, false, false, false, false, false, false, false, false, false, false, false, false, false, false, false, true, true, true, true, true, true, true, true, true, true, true, true, true, true, true, true, true, true, true, true, true, false, false, false, false, false, false, false, false, false, false, false, false, false, false, false, false, false, false, false, false, false, false, false, false, false, false, false, false, false, false, false, false, false, false, false, false, false, false, false, false, false, false, false, false, false, false]
def myC : List Bool := [false, false, false, false, false, false, false, false, false, false, false, false, false, false, false, false, false, false, false, false, false, false, false, false, false, false, false, false, false, false, false, false, false, false, false, false, false, false, false, false, false, false, false, false, false, false, false, false, false, false, false, true, true, true, true, true, true, true, true, true, true, true, true, true, true, true, true, true, true, true, true, true, true, true, true, true, true, true, true, false, false, false, false, false, false, false, false, false, false, false, false, false, false]
def myD : List Bool := [false, false, false, false, false, true, false, false, false, false, false, false, false, false, false, false, false, false, false, false, false, false, false, false, false, false, false, false, false, false, false, false, false, false, false, false, false, false, false, false, false, false, false, false, false, false, false, false, false, false, false, false, false, false, false, false, false, false, false, false, false, false, false, false, false, false, false, false, false, false, false, false, false, false, false, false, false, false, false, true, true, false, false, false, false, false, false, false, false, false, false, false, false]
def PrS (l : List UInt8) (R : Option (List Int)) (i : Nat) (ids : List Int) (n : Int) : Prop := Ris ids ∧ ids.length ≤ i ∧ ((i ≤ l.length ∧ p10 (l.drop i) ids n = R ∧ (n = -1 ∨ 1 ≤ n) ∧ n ≤ 1009) ∨ (i = l.length + 1 ∧ R = some ids))
theorem drop_end (l : List UInt8) : l.drop l.length = [] := List.drop_length
theorem drop_at {l : List UInt8} {i : Nat} {c : UInt8} (h : l[i]? = some c) : l.drop i = c :: l.drop (i + 1) := drop_get h
theorem back_none {l : List UInt8} (h : l ≠ [45]) (hp : p10 l [] (-1) = none) : back10 l = none := by unfold back10; rw [if_neg h, hp]; rfl
theorem back_some {l : List UInt8} {L : List Int} (h : l ≠ [45]) (hp : p10 l [] (-1) = some L) : back10 l = some (numB L) := by unfold back10; rw [if_neg h, hp]; rfl
set_option maxRecDepth 100000 in
set_option maxHeartbeats 8000000 in
theorem parse10_any (s : ByteArray) (hs : s.size ≤ 1000) (w : World) : Calls Tryz.prog 29 #[.string s] w fun e w' => e = .returned (.tuple #[.int .u32 ((back10 s.data.toList).getD 0), .bool (back10 s.data.toList).isSome]) ∧ Below w.heap.size w w' := by
 obtain ⟨i0, hi, hz0, hz1, hz2⟩ := info_parts Tryz.info3
 have hll : s.data.toList.length = s.size := by simp
 have hsl : s.toList = s.data.toList := by rw [ByteArray.toList_eq]
 by_cases h45 : s.data.toList = [45]
 ·have e0 : (s.toList == [45]) = true := by rw [hsl, h45]; rfl
  have HE : Hid (back10 s.data.toList = some 0) := Lib.hid (by unfold back10; rw [if_pos h45])
  clear h45 hsl hll
  go_enter Tryz.func29, Tryz.ntmps29
  go_wp2_with fail
  go_returns
  exact ⟨by rw [HE.out]; rfl, Below.refl _ _⟩
 have e0 : (s.toList == [45]) = false := by rw [hsl]; simpa using h45
 have HX : Hid (∀ k, k < s.size → ∃ c : UInt8, s.data.toList[k]? = some c) := Lib.hid (fun k hk => ⟨_, data_get? hk⟩)
 obtain ⟨R, hR⟩ : ∃ R, p10 s.data.toList [] (-1) = R := ⟨_, rfl⟩
 have HRR := Lib.hid hR
 have H45 := Lib.hid h45
 have HLL := Lib.hid hll
 clear hR h45 hll hsl
 go_enter Tryz.func29, Tryz.ntmps29
 go_wp2_with fail
 go_loopw [4, 5, 6] (fun v n i wr => ∃ (j : Nat) (ids : List Int) (z : Int) (va : Option Addr) (m vc : Nat), v = .slice va m vc ∧ n = .int .i64 z ∧ i = .int .i64 (j : Int) ∧ PrS s.data.toList R j ids z ∧ j ≤ s.size + 1 ∧ wr.ownsRow w.heap.size 3 1 (.slice va m vc) m (ids.map (.int .i64)) ∧ Below w.heap.size w wr) (fun _ _ i _ => s.size + 1 - (intOf i).toNat)
 case atStart => exact ⟨0, [], -1, some ⟨w.heap.size, 0, none⟩, 0, 0, rfl, rfl, rfl, ⟨⟨List.Pairwise.nil, by simp⟩, Nat.zero_le _, .inl ⟨Nat.zero_le _, HRR.out, .inl rfl, by omega⟩⟩, by omega, World.ownsRow_made w #[] 0 (Nat.le_refl _) (by simp) (by simp), (Below.refl _ w).alloc (Nat.le_refl _) _⟩
 case round =>
  obtain ⟨j, ids, z, va, m, vc, rfl, rfl, rfl, hps, hj, hown, hb⟩ := hrel
  have hml : ids.length = m := by have := hown.1; rw [List.length_map] at this; omega
  have HML := Lib.hid hml
  have HPS := Lib.hid hps
  have HO := Lib.hid hown
  have HB := Lib.hid hb
  clear hml hps hown hb
  by_cases hjl : j ≤ s.size
  ·have hp := HPS.out
   rcases hp with ⟨hris, hidl, ⟨hjl', hp, hz, hzb⟩ | ⟨hjj, _⟩⟩
   ·have HRIS := Lib.hid hris
    have HP := Lib.hid hp
    have HZ := Lib.hid hz
    have hm1000 : m ≤ 1001 := by have := HML.out; omega
    have hidm : m ≤ j := by have := HML.out; omega
    clear hris hp hz hidl hjl' HPS
    have hjI : (j : Int) ≤ (s.size : Int) := by omega
    obtain ⟨sep, hsep⟩ : ∃ sep : Bool, (decide (j = s.size) || decide ((s.data.toList.getD j 0).toNat = 43)) = sep := ⟨_, rfl⟩
    go_upto_region 8 with (fail)
    refine wp_cut_f myA (fun f wx => f 25 = .bool sep ∧ wx = wr) ?_ ?_
    ·intro f wc hcut
     dsimp only [mixF, myA]
     generalize f 25 = f25 at hcut ⊢
     obtain ⟨rfl, rfl⟩ := hcut
     have HYES : Hid (sep = true → (bad10 z ids = true → R = none) ∧ (bad10 z ids = false → (j = s.size → R = some (ids ++ [z])) ∧ (j < s.size → p10 (s.data.toList.drop (j + 1)) (ids ++ [z]) (-1) = R))) := Lib.hid (fun hs => by
      rw [← HP.out]
      by_cases hje : j = s.size
      ·rw [hje, ← HLL.out, drop_end]
       conv => enter [1, 2]; unfold p10
       conv => enter [2, 2, 1, 2]; unfold p10
       refine ⟨fun hb => by rw [hb]; rfl, fun hb => ⟨fun _ => by rw [hb]; rfl, fun h => absurd h (Nat.lt_irrefl _)⟩⟩
      ·have hjlt : j < s.size := by omega
       rw [← hsep, decide_eq_false hje, data_getD hjlt] at hs
       have hc : s[j].toNat = 43 := by simpa using hs
       have hd := drop_at (data_get? hjlt)
       have e : p10 (s.data.toList.drop j) ids z = if bad10 z ids = true then none else p10 (s.data.toList.drop (j + 1)) (ids ++ [z]) (-1) := by
        rw [hd]
        conv => lhs; unfold p10
        rw [if_pos hc]
       rw [e]
       refine ⟨fun hb => by rw [hb]; rfl, fun hb => ⟨fun h => absurd h hje, fun _ => by rw [hb]; rfl⟩⟩)
     have HNO : Hid (sep = false → ∃ c : UInt8, ∃ h : j < s.size, s[j] = c ∧ c.toNat ≠ 43 ∧ (bad10d z c.toNat = true → R = none) ∧ (bad10d z c.toNat = false → p10 (s.data.toList.drop (j + 1)) ids ((if z < 0 then 0 else z) * 10 + ((c.toNat : Int) - 48)) = R)) := Lib.hid (fun hs => by
      have hje : j ≠ s.size := fun h => by rw [← hsep, decide_eq_true h] at hs; simp at hs
      have hjlt : j < s.size := by omega
      rw [← hsep, decide_eq_false hje, data_getD hjlt] at hs
      have hc : s[j].toNat ≠ 43 := by simpa using hs
      have hd := drop_at (data_get? hjlt)
      have e : p10 (s.data.toList.drop j) ids z = if bad10d z s[j].toNat = true then none else p10 (s.data.toList.drop (j + 1)) ids ((if z < 0 then 0 else z) * 10 + ((s[j].toNat : Int) - 48)) := by
       rw [hd]
       conv => lhs; unfold p10
       rw [if_neg hc]
      rw [← HP.out, e]
      exact ⟨s[j], hjlt, rfl, hc, fun hb => by rw [hb]; rfl, fun hb => by rw [hb]; rfl⟩)
     clear hsep
     cases sep
     ·obtain ⟨c, hjlt, hcj, hc43, hn1, hn2⟩ := HNO.out rfl
      have HN1 := Lib.hid hn1
      have HN2 := Lib.hid hn2
      clear hn1 hn2 HYES HNO hc43
      have hcb := c.toNat_lt
      have hjI2 : (j : Int) < (s.size : Int) := by omega
      go_upto_region 13 with (fail)
      refine wp_cut_f myC (fun f wx => f 78 = .bool (bad10d z c.toNat) ∧ wx = wc) ?_ ?_
      ·intro f wc2 hcut
       dsimp only [mixF, myC]
       generalize f 78 = f78 at hcut ⊢
       obtain ⟨rfl, rfl⟩ := hcut
       obtain ⟨bb, hbb⟩ : ∃ bb, bad10d z c.toNat = bb := ⟨_, rfl⟩
       rw [hbb] at HN1 HN2 ⊢
       have HBBX := Lib.hid hbb
       clear hbb
       cases bb
       ·have hbx := HBBX.out
        unfold bad10d at hbx
        simp only [Bool.or_eq_false_iff, decide_eq_false_iff_not, Bool.and_eq_false_iff] at hbx
        obtain ⟨⟨⟨⟨b1, b2⟩, b3⟩, b4⟩, b5⟩ := hbx
        have hzz := HZ.out
        obtain ⟨z2, hz2⟩ : ∃ z2, (if z < 0 then 0 else z) = z2 := ⟨_, rfl⟩
        have hz2b : 0 ≤ z2 ∧ z2 ≤ 99 := by rw [← hz2]; split <;> omega
        have hpos : 1 ≤ z2 * 10 + ((c.toNat : Int) - 48) := by
         rw [← hz2]
         rcases hzz with rfl | h
         ·rw [if_pos (by decide)]
          rcases b5 with b5 | b5
          ·exact absurd (by decide) b5
          ·omega
         ·rw [if_neg (by omega)]; omega
        have hp2 := HN2.out (by first | rfl | trivial)
        rw [hz2] at hp2
        have HPN : Hid (PrS s.data.toList R (j + 1) ids (z2 * 10 + ((c.toNat : Int) - 48))) := Lib.hid ⟨HRIS.out, by rw [HML.out]; omega, .inl ⟨by rw [HLL.out]; omega, hp2, .inr hpos, by omega⟩⟩
        have HZ2 := Lib.hid hz2
        obtain ⟨k, hk⟩ : ∃ k : Nat, c.toNat = k := ⟨_, rfl⟩
        rw [← hcj] at hk
        have HK := Lib.hid hk
        have hk0 : 48 ≤ k ∧ k ≤ 57 := by rw [← hk, hcj]; omega
        obtain ⟨hk1, hk2⟩ := hk0
        obtain ⟨hz0', hz1'⟩ := hz2b
        clear b1 b2 b3 b4 b5 hzz hp2 hpos hz2
        go_upto_if 80 with (fail)
        refine wp_cut_f myD (fun f wx => f 5 = .int .i64 z2 ∧ wx = wc2) ?_ ?_
        ·intro f wc3 hcut
         dsimp only [mixF, myD]
         generalize f 5 = f5 at hcut ⊢
         obtain ⟨rfl, rfl⟩ := hcut
         go_wp2_with fail
         go_roundw
         case rel =>
          refine ⟨j + 1, ids, z2 * 10 + ((c.toNat : Int) - 48), va, m, vc, rfl, ?_, by go_num, HPN.out, by omega, HO.out, HB.out⟩
          have h8 := HK.out
          rw [hcj] at h8
          congr 1
          omega
         case measure => simp [intOf]; omega
        ·intro J4 K4 hJ4 hK4
         by_cases hz0 : z < 0
         ·have HE : Hid (z2 = 0) := Lib.hid (by rw [← HZ2.out, if_pos hz0])
          go_wp2_with fail
          refine Met.intro (hJ4 _ _ ?_ (by kernel_rfl))
          exact ⟨by rw [HE.out]; rfl, rfl⟩
         ·have HE : Hid (z2 = z) := Lib.hid (by rw [← HZ2.out, if_neg hz0])
          go_wp2_with fail
          refine Met.intro (hJ4 _ _ ?_ (by kernel_rfl))
          exact ⟨by rw [HE.out]; rfl, rfl⟩
       ·have HRN := Lib.hid (back_none H45.out (HRR.out.trans (HN1.out (by first | rfl | trivial))))
        go_wp2_with fail
        go_returns
        exact ⟨by rw [HRN.out]; rfl, HB.out⟩
      ·intro J4 K4 hJ4 hK4
       obtain ⟨k, hk⟩ : ∃ k : Nat, c.toNat = k := ⟨_, rfl⟩
       have HKE := Lib.hid hk
       have hcn : c.toNat = k := hk
       have hz00 : z ≠ 0 := by have := HZ.out; omega
       have HZN := Lib.hid hz00
       have hz01 : (z == 0) = false := by simp [hz00]
       clear hk hz00
       by_cases h1 : k < 48
       ·have HBX : Hid (bad10d z c.toNat = true) := Lib.hid (by rw [HKE.out]; unfold bad10d; rw [decide_eq_true h1]; rfl)
        have g1 : (k : Int) < 48 := by omega
        go_wp2_with fail
        refine Met.intro (hJ4 _ _ ?_ (by kernel_rfl))
        exact ⟨by rw [HBX.out]; rfl, rfl⟩
       have g1 : ¬ (k : Int) < 48 := by omega
       by_cases h2 : 57 < k
       ·have HBX : Hid (bad10d z c.toNat = true) := Lib.hid (by rw [HKE.out]; unfold bad10d; rw [decide_eq_true h2]; simp)
        have g2 : (57 : Int) < (k : Int) := by omega
        go_wp2_with fail
        refine Met.intro (hJ4 _ _ ?_ (by kernel_rfl))
        exact ⟨by rw [HBX.out]; rfl, rfl⟩
       have g2 : ¬ (57 : Int) < (k : Int) := by omega
       by_cases h3 : 99 < z
       ·have HBX : Hid (bad10d z c.toNat = true) := Lib.hid (by unfold bad10d; rw [decide_eq_true h3]; simp)
        go_wp2_with fail
        refine Met.intro (hJ4 _ _ ?_ (by kernel_rfl))
        exact ⟨by rw [HBX.out]; rfl, rfl⟩
       by_cases h4 : z < 0
       ·by_cases h5 : k = 48
        ·have HBX : Hid (bad10d z c.toNat = true) := Lib.hid (by rw [HKE.out]; unfold bad10d; rw [decide_eq_true h4, decide_eq_true h5]; simp)
         subst h5
         go_wp2_with fail
         refine Met.intro (hJ4 _ _ ?_ (by kernel_rfl))
         exact ⟨by rw [HBX.out]; rfl, rfl⟩
        ·have HBX : Hid (bad10d z c.toNat = false) := Lib.hid (by rw [HKE.out]; unfold bad10d; rw [decide_eq_false h1, decide_eq_false h2, decide_eq_false h3, decide_eq_false h5, decide_eq_false HZN.out]; simp)
         have g5 : ((k : Int) == 48) = false := by simp; omega
         clear h5
         go_wp2_with fail
         refine Met.intro (hJ4 _ _ ?_ (by kernel_rfl))
         exact ⟨by rw [HBX.out]; rfl, rfl⟩
       ·have HBX : Hid (bad10d z c.toNat = false) := Lib.hid (by rw [HKE.out]; unfold bad10d; rw [decide_eq_false h1, decide_eq_false h2, decide_eq_false h3, decide_eq_false h4, decide_eq_false HZN.out]; simp)
        go_wp2_with fail
        refine Met.intro (hJ4 _ _ ?_ (by kernel_rfl))
        exact ⟨by rw [HBX.out]; rfl, rfl⟩
     ·obtain ⟨hy1, hy2⟩ := HYES.out rfl
      have HY1 := Lib.hid hy1
      have HY2 := Lib.hid hy2
      clear hy1 hy2 HYES HNO
      go_upto_region 9 with (fail)
      refine wp_cut_f myB (fun f wx => f 46 = .bool (bad10 z ids) ∧ wx = wc) ?_ ?_
      ·intro f wc2 hcut
       dsimp only [mixF, myB]
       generalize f 46 = f46 at hcut ⊢
       obtain ⟨rfl, rfl⟩ := hcut
       obtain ⟨bb, hbb⟩ : ∃ bb, bad10 z ids = bb := ⟨_, rfl⟩
       rw [hbb] at HY1 HY2 ⊢
       have HBBX := Lib.hid hbb
       clear hbb
       cases bb
       ·have HA := Lib.hid (HO.out.alloc (.cells #[.int .i64 z] 3))
        have HBA := Lib.hid (HB.out.alloc HB.out.size (.cells #[.int .i64 z] 3))
        go_wp2_with (at_builtin; refine wpList_append_own _ rfl (.tmp 47) (.tmp 49) 72 rfl w.heap.size 3 i0 (.int .i64 0) 1 8 Tryz.underlying72 hi hz0 hz1 hz2 rfl (by decide) (.slice va m vc) m _ rfl HA.out ⟨wc2.heap.size, 0, none⟩ 1 1 [.int .i64 z] rfl rfl (cell_one_new _ _ _) (ints_oneCell .i64 [z]) (by unfold maxLen; omega) (by omega) HBA.out.size ?_)
        intro v' w6 hown6 hg6 _
        obtain ⟨va6, vc6, hv6⟩ := ownsRow_slice hown6
        rw [hv6] at hown6 ⊢
        clear hv6
        have HO6 : Hid (w6.ownsRow w.heap.size 3 1 (.slice va6 (m + 1) vc6) (m + 1) ((ids ++ [z]).map (.int .i64))) := Lib.hid (by rw [List.map_append]; exact hown6)
        have HB6 := Lib.hid (HBA.out.trans (below_own HA.out hg6 HBA.out.size))
        clear hown6 hg6 HA HBA
        obtain ⟨h1, h2⟩ := HY2.out (by first | rfl | trivial)
        have HPN : Hid (PrS s.data.toList R (j + 1) (ids ++ [z]) (-1)) := Lib.hid (by
         refine ⟨bad10_of HRIS.out HBBX.out, by rw [List.length_append, List.length_singleton, HML.out]; omega, ?_⟩
         by_cases hje : j = s.size
         ·exact .inr ⟨by rw [HLL.out, hje], h1 hje⟩
         ·exact .inl ⟨by rw [HLL.out]; omega, h2 (by omega), .inl rfl, by omega⟩)
        clear h1 h2
        go_wp2_with fail
        go_roundw
        case rel => exact ⟨j + 1, ids ++ [z], -1, va6, m + 1, vc6, rfl, rfl, by go_num, HPN.out, by omega, HO6.out, HB6.out⟩
        case measure => simp [intOf]; omega
       ·have HRN := Lib.hid (back_none H45.out (HRR.out.trans (HY1.out (by first | rfl | trivial))))
        go_wp2_with fail
        go_returns
        exact ⟨by rw [HRN.out]; rfl, HB.out⟩
      ·intro J4 K4 hJ4 hK4
       by_cases h1 : z < 1
       ·have HBB2 : Hid (bad10 z ids = true) := Lib.hid (by unfold bad10; rw [decide_eq_true h1]; rfl)
        go_wp2_with fail
        refine Met.intro (hJ4 _ _ ?_ (by kernel_rfl))
        exact ⟨by rw [HBB2.out]; rfl, rfl⟩
       by_cases h2 : 24 < z
       ·have HBB2 : Hid (bad10 z ids = true) := Lib.hid (by unfold bad10; rw [decide_eq_true h2]; simp)
        go_wp2_with fail
        refine Met.intro (hJ4 _ _ ?_ (by kernel_rfl))
        exact ⟨by rw [HBB2.out]; rfl, rfl⟩
       by_cases hm0 : m = 0
       ·have HBB2 : Hid (bad10 z ids = false) := Lib.hid (by
         have : ids = [] := List.eq_nil_of_length_eq_zero (by rw [HML.out]; exact hm0)
         unfold bad10
         rw [decide_eq_false h1, decide_eq_false h2, this]; rfl)
        subst hm0
        go_wp2_with fail
        refine Met.intro (hJ4 _ _ ?_ (by kernel_rfl))
        exact ⟨by rw [HBB2.out]; rfl, rfl⟩
       ·obtain ⟨m', hm'⟩ : ∃ m', m' + 1 = m := ⟨m - 1, by omega⟩
        obtain ⟨q, rfl, _, hql, hqc⟩ := row_block HO.out (by omega)
        obtain ⟨y, hy⟩ : ∃ y, ids[m']? = some y := ⟨_, List.getElem?_eq_getElem (by have := HML.out; omega)⟩
        have y0 := hqc m' (.int .i64 y) (by rw [List.getElem?_map, hy]; rfl)
        have hlast : ids.getLast? = some y := by
         rw [List.getLast?_eq_getElem?, ← hy]
         congr 1
         have := HML.out
         omega
        have HBB2 : Hid (bad10 z ids = decide (z ≤ y)) := Lib.hid (by
         unfold bad10
         rw [decide_eq_false h1, decide_eq_false h2, hlast]; rfl)
        have hsub : (m : Int) - 1 = (m' : Int) := by omega
        have q2 : (0 : Int) ≤ (m' : Int) := by omega
        have q3 : (m' : Int) < (m : Int) := by omega
        have q4 : 0 < m := by omega
        clear hqc hy hlast hm' hm0
        by_cases hzy : z ≤ y
        ·have HZY := Lib.hid hzy
         go_wp2_with fail
         refine Met.intro (hJ4 _ _ ?_ (by kernel_rfl))
         exact ⟨by rw [HBB2.out, decide_eq_true HZY.out]; rfl, rfl⟩
        ·have HZY := Lib.hid hzy
         go_wp2_with fail
         refine Met.intro (hJ4 _ _ ?_ (by kernel_rfl))
         exact ⟨by rw [HBB2.out, decide_eq_false (by have := HZY.out; omega)]; rfl, rfl⟩
    ·intro J3 K3 hJ3 hK3
     by_cases hje : j = s.size
     ·subst hje
      have HS : Hid (sep = true) := Lib.hid (by rw [← hsep]; simp)
      clear hsep
      go_wp2_with fail
      refine Met.intro (hJ3 _ _ ?_ (by kernel_rfl))
      exact ⟨by rw [HS.out]; rfl, rfl⟩
     ·have hjlt : j < s.size := by omega
      have hjI2 : (j : Int) < (s.size : Int) := by omega
      have hje2 : ((j : Int) == (s.size : Int)) = false := by simp; omega
      have HS : Hid (sep = decide (s[j].toNat = 43)) := Lib.hid (by rw [← hsep, decide_eq_false hje, data_getD hjlt]; rfl)
      clear hsep hje
      by_cases hc : s[j].toNat = 43
      ·have hc2 : ((s[j].toNat : Int) == 43) = true := by simp; omega
       have HC := Lib.hid hc
       clear hc
       go_wp2_with fail
       refine Met.intro (hJ3 _ _ ?_ (by kernel_rfl))
       exact ⟨by rw [HS.out, decide_eq_true HC.out]; rfl, rfl⟩
      ·have hc2 : ((s[j].toNat : Int) == 43) = false := by simp; omega
       have HC := Lib.hid hc
       clear hc
       go_wp2_with fail
       refine Met.intro (hJ3 _ _ ?_ (by kernel_rfl))
       exact ⟨by rw [HS.out, decide_eq_false HC.out]; rfl, rfl⟩
   ·have := HLL.out; omega
  ·have hp := HPS.out
   rcases hp with ⟨hris, hidl, ⟨hjl', hp, hz, hzb⟩ | ⟨hjj, hRs⟩⟩
   ·have := HLL.out; omega
   ·have HOF := Lib.hid (of10_any ids hris.2 m va vc w.heap.size wr HO.out (by have := HML.out; have := HLL.out; omega))
    have HRS := Lib.hid (back_some H45.out (HRR.out.trans hRs))
    have hjI : ¬ (j : Int) ≤ (s.size : Int) := by omega
    clear hris hidl hjj hRs
    go_wp2_with fail
    refine HOF.out.mono ?_
    rintro e w5 ⟨rfl, hb5⟩
    have HB5 := Lib.hid (HB.out.trans (hb5.mono HB.out.size))
    clear hb5
    go_wp2_with fail
    go_returns
    exact ⟨by rw [HRS.out]; rfl, HB5.out⟩
end Go.Proofs.YtgebbmfoamkfnaaGreatDoor
