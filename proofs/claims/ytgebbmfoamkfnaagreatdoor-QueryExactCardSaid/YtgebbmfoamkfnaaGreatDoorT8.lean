/- Contracts of octet.Writer.Num and String, and field.Put. Printed by mkfor.py out of S6.in. -/
import Derived.Test.YtgebbmfoamkfnaaGreatDoorT7
import Derived.Lib.Builder
import Derived.OneCell
import Derived.Laws.BytesString
namespace Go.Proofs.YtgebbmfoamkfnaaGreatDoor
open Go.RowKit
set_option linter.unusedVariables false
theorem iswide_any (k : Int) (w : World) (h : k = 1 ∨ k = 2 ∨ k = 4 ∨ k = 8) : Calls Tryz.prog 189 #[.int .i64 k] w fun e w' => e = .returned (.bool true) ∧ w = w' := by
 rcases h with rfl | rfl | rfl | rfl <;>
 ·go_enter Tryz.func189, Tryz.ntmps189
  go_wp2_with fail
  go_returns
  exact ⟨rfl, rfl⟩
theorem byteCells_app (l r : List UInt8) : Lib.byteCells (l ++ r) = Lib.byteCells l ++ Lib.byteCells r := by simp [Lib.byteCells]
theorem leB_succ (n k : Nat) : Lib.byteCells (leB n (k + 1)) = Lib.byteCells (leB n k) ++ [.int .u8 ((n / 256 ^ k % 256 : Nat) : Int)] := by
 rw [leB, byteCells_app]
 simp [Lib.byteCells]
theorem Tryz.info5 : (Tryz.prog.info? 5).map (fun i => (i.zero, i.size, i.bytes)) = some (some (.int .u8 0), 1, 1) := by kernel_rfl
set_option maxRecDepth 100000 in
set_option maxHeartbeats 1000000 in
theorem num_1 (B b : Nat) (bs : List UInt8) (v : Value) (n : Nat) (w : World) (hB : B ≤ b) (hBw : B ≤ w.heap.size) (hbk : w.heap[b]? = some (.cells #[v] 258 (0, 0))) (hown : w.ownsRow B 5 1 v bs.length (Lib.byteCells bs))
  (hn : n < 256) (hl : bs.length ≤ 100000) :
  Calls Tryz.prog 158 #[.pointer (some ⟨b, 0, none⟩), .int .i64 1, .int .u64 (n : Int)] w fun e w' => e = .returned (.bool true) ∧ ∃ v', w'.heap[b]? = some (.cells #[v'] 258 (0, 0)) ∧ w'.ownsRow B 5 1 v' (bs.length + 1) (Lib.byteCells (bs ++ leB n 1)) ∧ Below B w w' := by
 obtain ⟨i0, hi, hz0, hz1, hz2⟩ := info_parts Tryz.info5
 have hsh : ((n : Int) / 256 != 0) = false := by
  have : (n : Int) / 256 = 0 := by omega
  rw [this]; rfl
 obtain ⟨L, hL⟩ : ∃ L, L = bs.length := ⟨_, rfl⟩
 rw [← hL] at hown hl ⊢
 have HL := Lib.hid hL
 have HN := Lib.hid hn
 have HO := Lib.hid hown
 have HB := Lib.hid hbk
 clear hL hn hown hbk
 go_enter Tryz.func158, Tryz.ntmps158
 go_wp2_with fail
 refine (iswide_any _ _ (by simp)).mono ?_
 rintro e w1 ⟨rfl, rfl⟩
 go_wp2_with fail
 go_loopw [2, 27] (fun nn i wr => ∃ (j : Nat) (v' : Value), j ≤ 1 ∧ i = .int .i64 j ∧ nn = .int .u64 ((n / 256 ^ j : Nat) : Int) ∧ wr.heap[b]? = some (.cells #[v'] 258 (0, 0)) ∧ wr.ownsRow B 5 1 v' (L + j) (Lib.byteCells (bs ++ leB n j)) ∧ Below B w wr) (fun _ i _ => 1 - (intOf i).toNat)
 case atStart => exact ⟨0, v, by omega, rfl, by simp, HB.out, by simpa [leB] using HO.out, Below.refl _ _⟩
 case round =>
  obtain ⟨j, v', hj, rfl, rfl, hbk, hown, hbel⟩ := hrel
  by_cases hlt : j < 1
  ·obtain ⟨va, vc, rfl⟩ := ownsRow_slice hown
   have hBwr : B ≤ wr.heap.size := Nat.le_trans hBw (by have := hbel.size; exact this)
   have c0 := cell_at hbk 0
   have f0 := free_at hbk 0
   simp at c0
   have hne := ownsRow_ne_block3 hown hbk (fun cur he => by cases he)
   generalize hm : n / 256 ^ j = m at *
   have HM := Lib.hid hm
   have hm0 : (0 : Int) ≤ (m : Int) := by omega
   have hmlt : (m : Int) ≤ 18446744073709551615 := by
    have h1 : n / 256 ^ j ≤ n := Nat.div_le_self _ _
    have := HN.out
    omega
   have HOW := Lib.hid hown
   have HBK := Lib.hid hbk
   have HNE := Lib.hid hne
   clear hown hbk hm hne
   go_wp2_with (at_builtin; go_loud (refine wpList_append_own _ rfl (.tmp 33) (.tmp 36) 156 rfl B 5 i0 (.int .u8 0) 1 1 Tryz.underlying156 hi hz0 hz1 hz2 rfl (by decide) (.slice va (L + j) vc) (L + j) _ rfl (HOW.out.alloc _) ⟨wr.heap.size, 0, none⟩ 1 1 [.int .u8 ((m : Int) % 256)] rfl rfl ?c1 ?c2 ?c3 ?c4 ?c5 ?_))
   case c1 =>
    intro i u hu
    match i, hu with
    | 0, hu => simp at hu; subst hu; simp [Addr.add]
   case c2 => intro u hu; simp at hu; subst hu; rfl
   case c3 => unfold maxLen; omega
   case c4 => omega
   case c5 => simp; omega
   intro v2 w2 hown2 hg2 _
   obtain ⟨va2, vc2, rfl⟩ := ownsRow_slice hown2
   have hbk2 := keepG hg2 (keepA _ HBK.out) HNE.out
   have d0 := cell_at hbk2 0
   have d1 := free_at hbk2 0
   simp at d0
   have hbel2 : Below B w w2 := (hbel.alloc hBwr _).grown hg2 (by simp; omega) (fun x hx => (HOW.out.lt x hx).1)
   have hset := hset w2 b 0 (.slice va2 (L + j + 1) vc2) _ _ _ hbk2
   have hown3 := ownsRow_setCell_other hown2 (a := ⟨b, 0, none⟩) (fun e => ownsRow_ne_block3 hown2 hbk2 (fun cur he => by cases he) e.symm) (.slice va2 (L + j + 1) vc2)
   have HS := Lib.hid hset
   have HO2 := Lib.hid hown3
   have HB2 := Lib.hid hbel2
   have HBK2 := Lib.hid hbk2
   clear hset hown2 hown3 hbel2 hbk2
   go_wp2
   go_roundw
   case rel =>
    refine ⟨j + 1, _, by omega, by go_num, ?_, HS.out, ?_, HB2.out.setCell hB _⟩
    ·rw [Nat.pow_succ, ← Nat.div_div_eq_div_mul, HM.out]
     simp
    ·have := HO2.out
     rw [byteCells_app, leB_succ, ← List.append_assoc, ← byteCells_app, HM.out]
     simpa [Nat.add_assoc] using this
   case measure => simp [intOf]; omega
  ·obtain rfl : j = 1 := by omega
   go_wp2
   go_returns
   exact ⟨rfl, _, hbk, hown, hbel⟩
set_option maxRecDepth 100000 in
set_option maxHeartbeats 1000000 in
theorem num_2 (B b : Nat) (bs : List UInt8) (v : Value) (n : Nat) (w : World) (hB : B ≤ b) (hBw : B ≤ w.heap.size) (hbk : w.heap[b]? = some (.cells #[v] 258 (0, 0))) (hown : w.ownsRow B 5 1 v bs.length (Lib.byteCells bs))
  (hn : n < 65536) (hl : bs.length ≤ 100000) :
  Calls Tryz.prog 158 #[.pointer (some ⟨b, 0, none⟩), .int .i64 2, .int .u64 (n : Int)] w fun e w' => e = .returned (.bool true) ∧ ∃ v', w'.heap[b]? = some (.cells #[v'] 258 (0, 0)) ∧ w'.ownsRow B 5 1 v' (bs.length + 2) (Lib.byteCells (bs ++ leB n 2)) ∧ Below B w w' := by
 obtain ⟨i0, hi, hz0, hz1, hz2⟩ := info_parts Tryz.info5
 have hsh : ((n : Int) / 65536 != 0) = false := by
  have : (n : Int) / 65536 = 0 := by omega
  rw [this]; rfl
 obtain ⟨L, hL⟩ : ∃ L, L = bs.length := ⟨_, rfl⟩
 rw [← hL] at hown hl ⊢
 have HL := Lib.hid hL
 have HN := Lib.hid hn
 have HO := Lib.hid hown
 have HB := Lib.hid hbk
 clear hL hn hown hbk
 go_enter Tryz.func158, Tryz.ntmps158
 go_wp2_with fail
 refine (iswide_any _ _ (by simp)).mono ?_
 rintro e w1 ⟨rfl, rfl⟩
 go_wp2_with fail
 go_loopw [2, 27] (fun nn i wr => ∃ (j : Nat) (v' : Value), j ≤ 2 ∧ i = .int .i64 j ∧ nn = .int .u64 ((n / 256 ^ j : Nat) : Int) ∧ wr.heap[b]? = some (.cells #[v'] 258 (0, 0)) ∧ wr.ownsRow B 5 1 v' (L + j) (Lib.byteCells (bs ++ leB n j)) ∧ Below B w wr) (fun _ i _ => 2 - (intOf i).toNat)
 case atStart => exact ⟨0, v, by omega, rfl, by simp, HB.out, by simpa [leB] using HO.out, Below.refl _ _⟩
 case round =>
  obtain ⟨j, v', hj, rfl, rfl, hbk, hown, hbel⟩ := hrel
  by_cases hlt : j < 2
  ·obtain ⟨va, vc, rfl⟩ := ownsRow_slice hown
   have hBwr : B ≤ wr.heap.size := Nat.le_trans hBw (by have := hbel.size; exact this)
   have c0 := cell_at hbk 0
   have f0 := free_at hbk 0
   simp at c0
   have hne := ownsRow_ne_block3 hown hbk (fun cur he => by cases he)
   generalize hm : n / 256 ^ j = m at *
   have HM := Lib.hid hm
   have hm0 : (0 : Int) ≤ (m : Int) := by omega
   have hmlt : (m : Int) ≤ 18446744073709551615 := by
    have h1 : n / 256 ^ j ≤ n := Nat.div_le_self _ _
    have := HN.out
    omega
   have HOW := Lib.hid hown
   have HBK := Lib.hid hbk
   have HNE := Lib.hid hne
   clear hown hbk hm hne
   go_wp2_with (at_builtin; go_loud (refine wpList_append_own _ rfl (.tmp 33) (.tmp 36) 156 rfl B 5 i0 (.int .u8 0) 1 1 Tryz.underlying156 hi hz0 hz1 hz2 rfl (by decide) (.slice va (L + j) vc) (L + j) _ rfl (HOW.out.alloc _) ⟨wr.heap.size, 0, none⟩ 1 1 [.int .u8 ((m : Int) % 256)] rfl rfl ?c1 ?c2 ?c3 ?c4 ?c5 ?_))
   case c1 =>
    intro i u hu
    match i, hu with
    | 0, hu => simp at hu; subst hu; simp [Addr.add]
   case c2 => intro u hu; simp at hu; subst hu; rfl
   case c3 => unfold maxLen; omega
   case c4 => omega
   case c5 => simp; omega
   intro v2 w2 hown2 hg2 _
   obtain ⟨va2, vc2, rfl⟩ := ownsRow_slice hown2
   have hbk2 := keepG hg2 (keepA _ HBK.out) HNE.out
   have d0 := cell_at hbk2 0
   have d1 := free_at hbk2 0
   simp at d0
   have hbel2 : Below B w w2 := (hbel.alloc hBwr _).grown hg2 (by simp; omega) (fun x hx => (HOW.out.lt x hx).1)
   have hset := hset w2 b 0 (.slice va2 (L + j + 1) vc2) _ _ _ hbk2
   have hown3 := ownsRow_setCell_other hown2 (a := ⟨b, 0, none⟩) (fun e => ownsRow_ne_block3 hown2 hbk2 (fun cur he => by cases he) e.symm) (.slice va2 (L + j + 1) vc2)
   have HS := Lib.hid hset
   have HO2 := Lib.hid hown3
   have HB2 := Lib.hid hbel2
   have HBK2 := Lib.hid hbk2
   clear hset hown2 hown3 hbel2 hbk2
   go_wp2
   go_roundw
   case rel =>
    refine ⟨j + 1, _, by omega, by go_num, ?_, HS.out, ?_, HB2.out.setCell hB _⟩
    ·rw [Nat.pow_succ, ← Nat.div_div_eq_div_mul, HM.out]
     simp
    ·have := HO2.out
     rw [byteCells_app, leB_succ, ← List.append_assoc, ← byteCells_app, HM.out]
     simpa [Nat.add_assoc] using this
   case measure => simp [intOf]; omega
  ·obtain rfl : j = 2 := by omega
   go_wp2
   go_returns
   exact ⟨rfl, _, hbk, hown, hbel⟩
set_option maxRecDepth 100000 in
set_option maxHeartbeats 1000000 in
theorem num_4 (B b : Nat) (bs : List UInt8) (v : Value) (n : Nat) (w : World) (hB : B ≤ b) (hBw : B ≤ w.heap.size) (hbk : w.heap[b]? = some (.cells #[v] 258 (0, 0))) (hown : w.ownsRow B 5 1 v bs.length (Lib.byteCells bs))
  (hn : n < 4294967296) (hl : bs.length ≤ 100000) :
  Calls Tryz.prog 158 #[.pointer (some ⟨b, 0, none⟩), .int .i64 4, .int .u64 (n : Int)] w fun e w' => e = .returned (.bool true) ∧ ∃ v', w'.heap[b]? = some (.cells #[v'] 258 (0, 0)) ∧ w'.ownsRow B 5 1 v' (bs.length + 4) (Lib.byteCells (bs ++ leB n 4)) ∧ Below B w w' := by
 obtain ⟨i0, hi, hz0, hz1, hz2⟩ := info_parts Tryz.info5
 have hsh : ((n : Int) / 4294967296 != 0) = false := by
  have : (n : Int) / 4294967296 = 0 := by omega
  rw [this]; rfl
 obtain ⟨L, hL⟩ : ∃ L, L = bs.length := ⟨_, rfl⟩
 rw [← hL] at hown hl ⊢
 have HL := Lib.hid hL
 have HN := Lib.hid hn
 have HO := Lib.hid hown
 have HB := Lib.hid hbk
 clear hL hn hown hbk
 go_enter Tryz.func158, Tryz.ntmps158
 go_wp2_with fail
 refine (iswide_any _ _ (by simp)).mono ?_
 rintro e w1 ⟨rfl, rfl⟩
 go_wp2_with fail
 go_loopw [2, 27] (fun nn i wr => ∃ (j : Nat) (v' : Value), j ≤ 4 ∧ i = .int .i64 j ∧ nn = .int .u64 ((n / 256 ^ j : Nat) : Int) ∧ wr.heap[b]? = some (.cells #[v'] 258 (0, 0)) ∧ wr.ownsRow B 5 1 v' (L + j) (Lib.byteCells (bs ++ leB n j)) ∧ Below B w wr) (fun _ i _ => 4 - (intOf i).toNat)
 case atStart => exact ⟨0, v, by omega, rfl, by simp, HB.out, by simpa [leB] using HO.out, Below.refl _ _⟩
 case round =>
  obtain ⟨j, v', hj, rfl, rfl, hbk, hown, hbel⟩ := hrel
  by_cases hlt : j < 4
  ·obtain ⟨va, vc, rfl⟩ := ownsRow_slice hown
   have hBwr : B ≤ wr.heap.size := Nat.le_trans hBw (by have := hbel.size; exact this)
   have c0 := cell_at hbk 0
   have f0 := free_at hbk 0
   simp at c0
   have hne := ownsRow_ne_block3 hown hbk (fun cur he => by cases he)
   generalize hm : n / 256 ^ j = m at *
   have HM := Lib.hid hm
   have hm0 : (0 : Int) ≤ (m : Int) := by omega
   have hmlt : (m : Int) ≤ 18446744073709551615 := by
    have h1 : n / 256 ^ j ≤ n := Nat.div_le_self _ _
    have := HN.out
    omega
   have HOW := Lib.hid hown
   have HBK := Lib.hid hbk
   have HNE := Lib.hid hne
   clear hown hbk hm hne
   go_wp2_with (at_builtin; go_loud (refine wpList_append_own _ rfl (.tmp 33) (.tmp 36) 156 rfl B 5 i0 (.int .u8 0) 1 1 Tryz.underlying156 hi hz0 hz1 hz2 rfl (by decide) (.slice va (L + j) vc) (L + j) _ rfl (HOW.out.alloc _) ⟨wr.heap.size, 0, none⟩ 1 1 [.int .u8 ((m : Int) % 256)] rfl rfl ?c1 ?c2 ?c3 ?c4 ?c5 ?_))
   case c1 =>
    intro i u hu
    match i, hu with
    | 0, hu => simp at hu; subst hu; simp [Addr.add]
   case c2 => intro u hu; simp at hu; subst hu; rfl
   case c3 => unfold maxLen; omega
   case c4 => omega
   case c5 => simp; omega
   intro v2 w2 hown2 hg2 _
   obtain ⟨va2, vc2, rfl⟩ := ownsRow_slice hown2
   have hbk2 := keepG hg2 (keepA _ HBK.out) HNE.out
   have d0 := cell_at hbk2 0
   have d1 := free_at hbk2 0
   simp at d0
   have hbel2 : Below B w w2 := (hbel.alloc hBwr _).grown hg2 (by simp; omega) (fun x hx => (HOW.out.lt x hx).1)
   have hset := hset w2 b 0 (.slice va2 (L + j + 1) vc2) _ _ _ hbk2
   have hown3 := ownsRow_setCell_other hown2 (a := ⟨b, 0, none⟩) (fun e => ownsRow_ne_block3 hown2 hbk2 (fun cur he => by cases he) e.symm) (.slice va2 (L + j + 1) vc2)
   have HS := Lib.hid hset
   have HO2 := Lib.hid hown3
   have HB2 := Lib.hid hbel2
   have HBK2 := Lib.hid hbk2
   clear hset hown2 hown3 hbel2 hbk2
   go_wp2
   go_roundw
   case rel =>
    refine ⟨j + 1, _, by omega, by go_num, ?_, HS.out, ?_, HB2.out.setCell hB _⟩
    ·rw [Nat.pow_succ, ← Nat.div_div_eq_div_mul, HM.out]
     simp
    ·have := HO2.out
     rw [byteCells_app, leB_succ, ← List.append_assoc, ← byteCells_app, HM.out]
     simpa [Nat.add_assoc] using this
   case measure => simp [intOf]; omega
  ·obtain rfl : j = 4 := by omega
   go_wp2
   go_returns
   exact ⟨rfl, _, hbk, hown, hbel⟩
set_option maxRecDepth 100000 in
set_option maxHeartbeats 1000000 in
theorem num_8 (B b : Nat) (bs : List UInt8) (v : Value) (n : Nat) (w : World) (hB : B ≤ b) (hBw : B ≤ w.heap.size) (hbk : w.heap[b]? = some (.cells #[v] 258 (0, 0))) (hown : w.ownsRow B 5 1 v bs.length (Lib.byteCells bs))
  (hn : n < 18446744073709551616) (hl : bs.length ≤ 100000) :
  Calls Tryz.prog 158 #[.pointer (some ⟨b, 0, none⟩), .int .i64 8, .int .u64 (n : Int)] w fun e w' => e = .returned (.bool true) ∧ ∃ v', w'.heap[b]? = some (.cells #[v'] 258 (0, 0)) ∧ w'.ownsRow B 5 1 v' (bs.length + 8) (Lib.byteCells (bs ++ leB n 8)) ∧ Below B w w' := by
 obtain ⟨i0, hi, hz0, hz1, hz2⟩ := info_parts Tryz.info5
 have hsh : ((n : Int) / 18446744073709551616 != 0) = false := by
  have : (n : Int) / 18446744073709551616 = 0 := by omega
  rw [this]; rfl
 obtain ⟨L, hL⟩ : ∃ L, L = bs.length := ⟨_, rfl⟩
 rw [← hL] at hown hl ⊢
 have HL := Lib.hid hL
 have HN := Lib.hid hn
 have HO := Lib.hid hown
 have HB := Lib.hid hbk
 clear hL hn hown hbk
 go_enter Tryz.func158, Tryz.ntmps158
 go_wp2_with fail
 refine (iswide_any _ _ (by simp)).mono ?_
 rintro e w1 ⟨rfl, rfl⟩
 go_wp2_with fail
 go_loopw [2, 27] (fun nn i wr => ∃ (j : Nat) (v' : Value), j ≤ 8 ∧ i = .int .i64 j ∧ nn = .int .u64 ((n / 256 ^ j : Nat) : Int) ∧ wr.heap[b]? = some (.cells #[v'] 258 (0, 0)) ∧ wr.ownsRow B 5 1 v' (L + j) (Lib.byteCells (bs ++ leB n j)) ∧ Below B w wr) (fun _ i _ => 8 - (intOf i).toNat)
 case atStart => exact ⟨0, v, by omega, rfl, by simp, HB.out, by simpa [leB] using HO.out, Below.refl _ _⟩
 case round =>
  obtain ⟨j, v', hj, rfl, rfl, hbk, hown, hbel⟩ := hrel
  by_cases hlt : j < 8
  ·obtain ⟨va, vc, rfl⟩ := ownsRow_slice hown
   have hBwr : B ≤ wr.heap.size := Nat.le_trans hBw (by have := hbel.size; exact this)
   have c0 := cell_at hbk 0
   have f0 := free_at hbk 0
   simp at c0
   have hne := ownsRow_ne_block3 hown hbk (fun cur he => by cases he)
   generalize hm : n / 256 ^ j = m at *
   have HM := Lib.hid hm
   have hm0 : (0 : Int) ≤ (m : Int) := by omega
   have hmlt : (m : Int) ≤ 18446744073709551615 := by
    have h1 : n / 256 ^ j ≤ n := Nat.div_le_self _ _
    have := HN.out
    omega
   have HOW := Lib.hid hown
   have HBK := Lib.hid hbk
   have HNE := Lib.hid hne
   clear hown hbk hm hne
   go_wp2_with (at_builtin; go_loud (refine wpList_append_own _ rfl (.tmp 33) (.tmp 36) 156 rfl B 5 i0 (.int .u8 0) 1 1 Tryz.underlying156 hi hz0 hz1 hz2 rfl (by decide) (.slice va (L + j) vc) (L + j) _ rfl (HOW.out.alloc _) ⟨wr.heap.size, 0, none⟩ 1 1 [.int .u8 ((m : Int) % 256)] rfl rfl ?c1 ?c2 ?c3 ?c4 ?c5 ?_))
   case c1 =>
    intro i u hu
    match i, hu with
    | 0, hu => simp at hu; subst hu; simp [Addr.add]
   case c2 => intro u hu; simp at hu; subst hu; rfl
   case c3 => unfold maxLen; omega
   case c4 => omega
   case c5 => simp; omega
   intro v2 w2 hown2 hg2 _
   obtain ⟨va2, vc2, rfl⟩ := ownsRow_slice hown2
   have hbk2 := keepG hg2 (keepA _ HBK.out) HNE.out
   have d0 := cell_at hbk2 0
   have d1 := free_at hbk2 0
   simp at d0
   have hbel2 : Below B w w2 := (hbel.alloc hBwr _).grown hg2 (by simp; omega) (fun x hx => (HOW.out.lt x hx).1)
   have hset := hset w2 b 0 (.slice va2 (L + j + 1) vc2) _ _ _ hbk2
   have hown3 := ownsRow_setCell_other hown2 (a := ⟨b, 0, none⟩) (fun e => ownsRow_ne_block3 hown2 hbk2 (fun cur he => by cases he) e.symm) (.slice va2 (L + j + 1) vc2)
   have HS := Lib.hid hset
   have HO2 := Lib.hid hown3
   have HB2 := Lib.hid hbel2
   have HBK2 := Lib.hid hbk2
   clear hset hown2 hown3 hbel2 hbk2
   go_wp2
   go_roundw
   case rel =>
    refine ⟨j + 1, _, by omega, by go_num, ?_, HS.out, ?_, HB2.out.setCell hB _⟩
    ·rw [Nat.pow_succ, ← Nat.div_div_eq_div_mul, HM.out]
     simp
    ·have := HO2.out
     rw [byteCells_app, leB_succ, ← List.append_assoc, ← byteCells_app, HM.out]
     simpa [Nat.add_assoc] using this
   case measure => simp [intOf]; omega
  ·obtain rfl : j = 8 := by omega
   go_wp2
   go_returns
   exact ⟨rfl, _, hbk, hown, hbel⟩
theorem num_any (B b : Nat) (bs : List UInt8) (v : Value) (k n : Nat) (w : World) (hB : B ≤ b) (hBw : B ≤ w.heap.size) (hbk : w.heap[b]? = some (.cells #[v] 258 (0, 0))) (hown : w.ownsRow B 5 1 v bs.length (Lib.byteCells bs))
  (hk : k = 1 ∨ k = 2 ∨ k = 4 ∨ k = 8) (hn : n < 256 ^ k) (hl : bs.length ≤ 100000) :
  Calls Tryz.prog 158 #[.pointer (some ⟨b, 0, none⟩), .int .i64 (k : Int), .int .u64 (n : Int)] w fun e w' => e = .returned (.bool true) ∧ ∃ v', w'.heap[b]? = some (.cells #[v'] 258 (0, 0)) ∧ w'.ownsRow B 5 1 v' (bs.length + k) (Lib.byteCells (bs ++ leB n k)) ∧ Below B w w' := by
 rcases hk with rfl | rfl | rfl | rfl
 ·exact num_1 B b bs v n w hB hBw hbk hown hn hl
 ·exact num_2 B b bs v n w hB hBw hbk hown hn hl
 ·exact num_4 B b bs v n w hB hBw hbk hown hn hl
 ·exact num_8 B b bs v n w hB hBw hbk hown hn hl
set_option maxRecDepth 100000 in
theorem wstring_any (B b : Nat) (bs : List UInt8) (v : Value) (w : World) (hbk : w.heap[b]? = some (.cells #[v] 258 (0, 0))) (hown : w.ownsRow B 5 1 v bs.length (Lib.byteCells bs)) :
  Calls Tryz.prog 160 #[.pointer (some ⟨b, 0, none⟩)] w fun e w' => e = .returned (.string ⟨bs.toArray⟩) ∧ w = w' := by
 obtain ⟨va, vc, rfl⟩ := ownsRow_slice hown
 have c0 := cell_at hbk 0
 simp at c0
 have hcv : (convert 156 9 (.slice va bs.length vc)).run Tryz.prog w = .ok (.string ⟨bs.toArray⟩) w := by
  rcases Nat.eq_zero_or_pos bs.length with h0 | h0
  ·obtain rfl := List.eq_nil_of_length_eq_zero h0
   rw [run_convert_bytes_string w 156 9 5 va _ vc Tryz.underlying156 Tryz.underlying5 Tryz.underlying9]
   cases va with
   | none => rfl
   | some a => exact run_bytesToString w a 0 vc [] (run_loadCells_list (P := Tryz.prog) w a [] (by simp))
  ·obtain ⟨q, rfl, _, _, hq⟩ := row_block hown h0
   refine run_convert_bytes_back w 156 9 5 ⟨q, 0, none⟩ vc bs Tryz.underlying156 Tryz.underlying5 Tryz.underlying9 (fun j hj => ?_)
   rw [show (⟨q, 0, none⟩ : Addr).add j = ⟨q, j, none⟩ from by simp [Addr.add]; omega]
   exact hq j _ (by simp [Lib.byteCells, hj])
 clear hbk hown
 go_enter Tryz.func160, Tryz.ntmps160
 go_wp2_with fail
 go_returns
 exact ⟨rfl, rfl⟩
theorem kSize_set {k : Int} (h1 : 1 ≤ k) (h2 : k ≤ 10) : kSize k = 1 ∨ kSize k = 2 ∨ kSize k = 4 ∨ kSize k = 8 := by
 have h' : k = 1 ∨ k = 2 ∨ k = 3 ∨ k = 4 ∨ k = 5 ∨ k = 6 ∨ k = 7 ∨ k = 8 ∨ k = 9 ∨ k = 10 := by omega
 rcases h' with rfl | rfl | rfl | rfl | rfl | rfl | rfl | rfl | rfl | rfl <;> decide
theorem fits_hi {k : Int} {x : WI} (hx : x.wf) (hf : fitsF k x = true) : x.hi = 0 := by
 unfold fitsF at hf
 simp only [Bool.and_eq_true, decide_eq_true_eq] at hf
 obtain ⟨⟨⟨hk, hfo⟩, h1⟩, h2⟩ := hf
 have hb := kMax_bd k
 have hm : -9223372036854775808 ≤ kMin k := by
  unfold kMin
  split
  ·rename_i h; have := hb.2.2 h; omega
  ·omega
 obtain ⟨⟨a1, a2⟩, b1, b2⟩ := hx
 unfold WI.val at h1 h2
 split at h1 <;> rename_i hn <;> simp only [hn, if_true, if_false, Bool.false_eq_true] at h2 <;> omega
theorem and_mask (a : Int) (m : Nat) (h0 : 0 ≤ a) (h1 : a < 18446744073709551616) (hm : 2 ^ m - 1 < 18446744073709551616) : bits BinOp.and .u64 a ((2 ^ m - 1 : Nat) : Int) = ((a.toNat % 2 ^ m : Nat) : Int) := by
 rw [u64_and a _ h0 h1 (by omega) (by omega), Int.toNat_natCast, Nat.and_two_pow_sub_one_eq_mod]
theorem put_and {k : Int} {x : WI} (hx : x.wf) (hf : fitsF k x = true) (hk : kSize k = 1 ∨ kSize k = 2 ∨ kSize k = 4 ∨ kSize k = 8) :
  bits BinOp.and .u64 (if x.neg then IntKind.u64.wrap (-x.lo) else x.lo) (pMax (kSize k * 8)) = ((putN k x : Nat) : Int) := by
 have h0 := fits_hi hx hf
 obtain ⟨⟨a1, a2⟩, b1, b2⟩ := hx
 have hv : x.val = if x.neg then -x.lo else x.lo := by unfold WI.val; rw [h0]; simp
 have hr : ∃ a : Int, a = (if x.neg then IntKind.u64.wrap (-x.lo) else x.lo) ∧ 0 ≤ a ∧ a < 18446744073709551616 ∧ a = x.val % 18446744073709551616 := by
  rw [hv]
  cases x.neg
  ·exact ⟨_, rfl, by simpa using b1, by simp; omega, by simp; omega⟩
  ·simp only [if_true]
   rw [IntKind.wrap_u64]
   exact ⟨_, rfl, by omega, by omega, rfl⟩
 obtain ⟨a, ha, c1, c2, c3⟩ := hr
 rw [← ha]
 unfold putN
 rcases hk with h | h | h | h
 ·have := and_mask a 8 c1 c2 (by decide)
  rw [h, show pMax (1 * 8) = ((2 ^ 8 - 1 : Nat) : Int) from rfl, this, show (8 * (1 : Int).toNat) = 8 from rfl, c3]
  simp
  omega
 ·have := and_mask a 16 c1 c2 (by decide)
  rw [h, show pMax (2 * 8) = ((2 ^ 16 - 1 : Nat) : Int) from rfl, this, show (8 * (2 : Int).toNat) = 16 from rfl, c3]
  simp
  omega
 ·have := and_mask a 32 c1 c2 (by decide)
  rw [h, show pMax (4 * 8) = ((2 ^ 32 - 1 : Nat) : Int) from rfl, this, show (8 * (4 : Int).toNat) = 32 from rfl, c3]
  simp
  omega
 ·have := and_mask a 64 c1 c2 (by decide)
  rw [h, show pMax (8 * 8) = ((2 ^ 64 - 1 : Nat) : Int) from rfl, this, show (8 * (8 : Int).toNat) = 64 from rfl, c3]
  simp
  omega
theorem putN_lt (k : Int) (x : WI) : putN k x < 256 ^ (kSize k).toNat := by
 unfold putN
 have e : (2 : Int) ^ (8 * (kSize k).toNat) = ((256 ^ (kSize k).toNat : Nat) : Int) := by rw [Int.pow_mul]; simp
 rw [e]
 have hp : 0 < 256 ^ (kSize k).toNat := Nat.pow_pos (by decide)
 have h1 := Int.emod_lt_of_pos x.val (show (0 : Int) < ((256 ^ (kSize k).toNat : Nat) : Int) by omega)
 have h2 := Int.emod_nonneg x.val (show ((256 ^ (kSize k).toNat : Nat) : Int) ≠ 0 by omega)
 omega
set_option maxRecDepth 100000 in
theorem put_any (k : Int) (x : WI) (w : World) (hx : x.wf) (hf : fitsF k x = true) : Calls Tryz.prog 124 #[.int .i64 k, x.v] w fun e w' => e = .returned (.tuple #[.string ⟨(putB k x).toArray⟩, .int .i64 0]) ∧ Below w.heap.size w w' := by
 have hk : kindB k = true := by unfold fitsF at hf; simp only [Bool.and_eq_true] at hf; exact hf.1.1.1
 obtain ⟨k1, k2⟩ := kindB_bd hk
 have HF := Lib.hid hf
 clear hf
 have HX := Lib.hid hx
 obtain ⟨n, hi, lo⟩ := x
 cases n with
 | false =>
  show Calls Tryz.prog 124 #[.int .i64 k, .agg #[.bool false, .int .u64 hi, .int .u64 lo]] w _
  go_enter Tryz.func124, Tryz.ntmps124
  go_wp2_with fail
  refine (isKind_any _ _).mono ?_
  rintro e w1 ⟨rfl, rfl⟩
  rw [hk]
  go_wp2_with fail
  refine (fits_any k ⟨false, hi, lo⟩ _ HX.out).mono ?_
  rintro e w1 ⟨rfl, hb1⟩
  rw [HF.out]
  have hz := hb1.size
  have hblk := keep hb1 (heap_alloc_new w _)
  have c0 := cell_at hblk 0
  have c1 := cell_at hblk 1
  have c2 := cell_at hblk 2
  simp at c0 c1 c2 hz
  go_wp2_with fail
  refine (size_any _ _).mono ?_
  rintro e w2 ⟨rfl, hb2⟩
  go_wp2_with fail
  refine (size_any _ _).mono ?_
  rintro e w3 ⟨rfl, hb3⟩
  have hks := kSize_set k1 k2
  have hkb := kSize_bd k
  go_wp2_with fail
  refine (power_any _ _ (by omega)).mono ?_
  rintro e w4 ⟨rfl, rfl⟩
  have HAND := Lib.hid (put_and HX.out HF.out hks)
  obtain ⟨s, hs⟩ : ∃ s : Nat, kSize k = s := ⟨(kSize k).toNat, by omega⟩
  go_wp2_with fail
  have hw := keep hb3 (keep hb2 (heap_alloc_new w1 (.cells #[.slice none 0 0] 258)))
  have hz2 := hb2.size
  have hz3 := hb3.size
  have hlt := putN_lt k ⟨false, hi, lo⟩
  simp at hz2
  have hand : bits BinOp.and .u64 lo (pMax (kSize k * 8)) = _ := HAND.out
  rw [hs] at hand hlt
  rw [hand]
  refine (num_any w1.heap.size w1.heap.size [] (.slice none 0 0) s _ _ (Nat.le_refl _) (by omega) hw (World.ownsRow_nil _ _ _ _) (by omega) hlt (by simp)).mono ?_
  rintro e w5 ⟨rfl, v5, hw5, ho5, hb5⟩
  have HS := Lib.hid hs
  have HW := Lib.hid hw5
  have HO := Lib.hid ho5
  have HB : Hid (Below w.heap.size w w5) := Lib.hid ((((((Below.refl _ _).alloc (Nat.le_refl _) _).trans (hb1.mono (by simp))).alloc (by omega) _).trans ((hb2.trans (hb3.mono (by have := hb2.size; exact this))).mono (by simp; omega))).trans (hb5.mono (by omega)))
  clear hs hw hw5 ho5 hand hlt hblk hks hkb
  go_wp2_with fail
  have hl : (putB k ⟨false, hi, lo⟩).length = s := by rw [putB_len, HS.out]; rfl
  refine (wstring_any w1.heap.size w1.heap.size (putB k ⟨false, hi, lo⟩) v5 _ HW.out (by
   have := HO.out
   rw [hl]
   unfold putB
   rw [HS.out]
   simpa using this)).mono ?_
  rintro e w6 ⟨rfl, rfl⟩
  clear hl
  go_wp2_with fail
  go_ret2
  exact ⟨rfl, HB.out⟩
 | true =>
  show Calls Tryz.prog 124 #[.int .i64 k, .agg #[.bool true, .int .u64 hi, .int .u64 lo]] w _
  go_enter Tryz.func124, Tryz.ntmps124
  go_wp2_with fail
  refine (isKind_any _ _).mono ?_
  rintro e w1 ⟨rfl, rfl⟩
  rw [hk]
  go_wp2_with fail
  refine (fits_any k ⟨true, hi, lo⟩ _ HX.out).mono ?_
  rintro e w1 ⟨rfl, hb1⟩
  rw [HF.out]
  have hz := hb1.size
  have hblk := keep hb1 (heap_alloc_new w _)
  have c0 := cell_at hblk 0
  have c1 := cell_at hblk 1
  have c2 := cell_at hblk 2
  simp at c0 c1 c2 hz
  go_wp2_with fail
  refine (size_any _ _).mono ?_
  rintro e w2 ⟨rfl, hb2⟩
  go_wp2_with fail
  refine (size_any _ _).mono ?_
  rintro e w3 ⟨rfl, hb3⟩
  have hks := kSize_set k1 k2
  have hkb := kSize_bd k
  go_wp2_with fail
  refine (power_any _ _ (by omega)).mono ?_
  rintro e w4 ⟨rfl, rfl⟩
  have HAND := Lib.hid (put_and HX.out HF.out hks)
  obtain ⟨s, hs⟩ : ∃ s : Nat, kSize k = s := ⟨(kSize k).toNat, by omega⟩
  go_wp2_with fail
  have hw := keep hb3 (keep hb2 (heap_alloc_new w1 (.cells #[.slice none 0 0] 258)))
  have hz2 := hb2.size
  have hz3 := hb3.size
  have hlt := putN_lt k ⟨true, hi, lo⟩
  simp at hz2
  have hand : bits BinOp.and .u64 (IntKind.u64.wrap (-lo)) (pMax (kSize k * 8)) = _ := HAND.out
  rw [hs] at hand hlt
  rw [hand]
  refine (num_any w1.heap.size w1.heap.size [] (.slice none 0 0) s _ _ (Nat.le_refl _) (by omega) hw (World.ownsRow_nil _ _ _ _) (by omega) hlt (by simp)).mono ?_
  rintro e w5 ⟨rfl, v5, hw5, ho5, hb5⟩
  have HS := Lib.hid hs
  have HW := Lib.hid hw5
  have HO := Lib.hid ho5
  have HB : Hid (Below w.heap.size w w5) := Lib.hid ((((((Below.refl _ _).alloc (Nat.le_refl _) _).trans (hb1.mono (by simp))).alloc (by omega) _).trans ((hb2.trans (hb3.mono (by have := hb2.size; exact this))).mono (by simp; omega))).trans (hb5.mono (by omega)))
  clear hs hw hw5 ho5 hand hlt hblk hks hkb
  go_wp2_with fail
  have hl : (putB k ⟨true, hi, lo⟩).length = s := by rw [putB_len, HS.out]; rfl
  refine (wstring_any w1.heap.size w1.heap.size (putB k ⟨true, hi, lo⟩) v5 _ HW.out (by
   have := HO.out
   rw [hl]
   unfold putB
   rw [HS.out]
   simpa using this)).mono ?_
  rintro e w6 ⟨rfl, rfl⟩
  clear hl
  go_wp2_with fail
  go_ret2
  exact ⟨rfl, HB.out⟩
end Go.Proofs.YtgebbmfoamkfnaaGreatDoor
