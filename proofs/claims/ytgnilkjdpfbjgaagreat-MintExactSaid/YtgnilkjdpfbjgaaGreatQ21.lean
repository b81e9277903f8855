/- The references' bytes of numbers: 22 low, 02 Num and Part. Printed by mkfor.py out of P1.in. · The reference's formulas of one instruction: 11 Takes, Check, Encode. -/
import Derived.Test.YtgnilkjdpfbjgaaGreatQ10
import Derived.Test.YtgnilkjdpfbjgaaGreatQ7
namespace Go.Proofs.YtgnilkjdpfbjgaaGreat
open Go.RowKit
set_option linter.unusedVariables false
theorem conv_row {w : World} {B : Nat} {bs : List UInt8} {va : Option Addr} {vc : Nat} (hown : w.ownsRow B 5 1 (.slice va bs.length vc) bs.length (Lib.byteCells bs)) : (convert 131 9 (.slice va bs.length vc)).run Tryz.prog w = .ok (.string ⟨bs.toArray⟩) w := by
  rcases Nat.eq_zero_or_pos bs.length with h0 | h0
  · obtain rfl := List.eq_nil_of_length_eq_zero h0
    rw [run_convert_bytes_string w 131 9 5 va _ vc Tryz.underlying131 Tryz.underlying5 Tryz.underlying9]
    cases va with
    | none => rfl
    | some a => exact run_bytesToString w a 0 vc [] (run_loadCells_list (P := Tryz.prog) w a [] (by simp))
  · obtain ⟨q, rfl, _, _, hq⟩ := row_block hown h0
    refine run_convert_bytes_back w 131 9 5 ⟨q, 0, none⟩ vc bs Tryz.underlying131 Tryz.underlying5 Tryz.underlying9 (fun j hj => ?_)
    rw [show (⟨q, 0, none⟩ : Addr).add j = ⟨q, j, none⟩ from by simp [Addr.add]; omega]
    exact hq j _ (by simp [Lib.byteCells, hj])
set_option maxRecDepth 100000 in
set_option maxHeartbeats 1000000 in
theorem low_1 (n : Nat) (w : World) (hn : n < 256) : Calls Tryz.prog 41 #[.int .u64 (n : Int), .int .i64 1] w fun e w' => e = .returned (.string ⟨(leB n 1).toArray⟩) ∧ Below w.heap.size w w' := by
  obtain ⟨i0, hi, hz0, hz1, hz2⟩ := info_parts Tryz.info5
  have hown0 : (w.alloc (.cells #[] 5)).ownsRow w.heap.size 5 1 (.slice (some ⟨w.heap.size, 0, none⟩) 0 0) 0 [] := World.ownsRow_made w #[] 0 (Nat.le_refl _) (by simp) (by simp)
  have hb0 := (Below.refl _ w).alloc (Nat.le_refl _) (.cells #[] 5)
  have H := Lib.hid (And.intro hown0 hb0)
  clear hown0 hb0
  go_enter Tryz.func41, Tryz.ntmps41
  go_wp2_with fail
  go_loopw [0, 5, 6] (fun nn b i wr => ∃ (j : Nat) (va : Option Addr) (vc : Nat), j ≤ 1 ∧ i = .int .i64 j ∧ nn = .int .u64 ((n / 256 ^ j : Nat) : Int) ∧ b = .slice va j vc ∧ wr.ownsRow w.heap.size 5 1 (.slice va j vc) j (Lib.byteCells (leB n j)) ∧ Below w.heap.size w wr) (fun _ _ i _ => 1 - (intOf i).toNat)
  case atStart => exact ⟨0, _, 0, by omega, rfl, by simp, rfl, H.out.1, H.out.2⟩
  case round =>
    obtain ⟨j, va, vc, hj, rfl, rfl, rfl, hown, hbel⟩ := hrel
    have hBwr := hbel.size
    by_cases hlt : j < 1
    · generalize hm : n / 256 ^ j = m at *
      have HM := Lib.hid hm
      have hm0 : (0 : Int) ≤ (m : Int) := by omega
      have hmlt : (m : Int) ≤ 18446744073709551615 := by
        have h1 : n / 256 ^ j ≤ n := Nat.div_le_self _ _
        omega
      have HOW := Lib.hid (hown.alloc (.cells #[.int .u8 ((m : Int) % 256)] 5))
      have hra : ∀ y, (Value.slice va j vc).ownBlock = some y → w.heap.size ≤ y := fun y hy => (hown.lt y hy).1
      clear hown hm
      go_wp2_with (at_builtin; go_loud (refine wpList_append_own _ rfl (.tmp 13) (.tmp 17) 131 rfl w.heap.size 5 i0 (.int .u8 0) 1 1 Tryz.underlying131 hi hz0 hz1 hz2 rfl (by decide) (.slice va j vc) j _ rfl HOW.out ⟨wr.heap.size, 0, none⟩ 1 1 [.int .u8 ((m : Int) % 256)] rfl rfl ?c1 ?c2 ?c3 ?c4 ?c5 ?_))
      case c1 =>
        intro i u hu
        match i, hu with
        | 0, hu => simp at hu; subst hu; simp [Addr.add]
      case c2 => intro u hu; simp at hu; subst hu; rfl
      case c3 => unfold maxLen; omega
      case c4 => omega
      case c5 => simp; omega
      intro v2 w2 hown2 hg2 _
      obtain ⟨va2, vc2, hv2⟩ := ownsRow_slice hown2
      rw [hv2] at hown2 ⊢
      clear hv2
      have hbel2 : Below w.heap.size w w2 := (hbel.alloc hBwr _).grown hg2 (by simp; omega) hra
      have HO2 := Lib.hid (And.intro hown2 hbel2)
      clear hown2 hbel2 hg2 HOW
      go_wp2
      go_roundw
      case rel =>
        refine ⟨j + 1, va2, vc2, by omega, by go_num, ?_, rfl, ?_, HO2.out.2⟩
        · rw [Nat.pow_succ, ← Nat.div_div_eq_div_mul, HM.out]
          simp
        · have := HO2.out.1
          rw [leB_succ, HM.out]
          simpa using this
      case measure => simp [intOf]; omega
    · obtain rfl : j = 1 := by omega
      have hcv := conv_row (bs := leB n 1) (by rw [leB_len]; exact hown)
      rw [leB_len] at hcv
      clear hown
      go_wp2
      go_ret
      exact ⟨rfl, hbel⟩
set_option maxRecDepth 100000 in
set_option maxHeartbeats 1000000 in
theorem low_4 (n : Nat) (w : World) (hn : n < 4294967296) : Calls Tryz.prog 41 #[.int .u64 (n : Int), .int .i64 4] w fun e w' => e = .returned (.string ⟨(leB n 4).toArray⟩) ∧ Below w.heap.size w w' := by
  obtain ⟨i0, hi, hz0, hz1, hz2⟩ := info_parts Tryz.info5
  have hown0 : (w.alloc (.cells #[] 5)).ownsRow w.heap.size 5 1 (.slice (some ⟨w.heap.size, 0, none⟩) 0 0) 0 [] := World.ownsRow_made w #[] 0 (Nat.le_refl _) (by simp) (by simp)
  have hb0 := (Below.refl _ w).alloc (Nat.le_refl _) (.cells #[] 5)
  have H := Lib.hid (And.intro hown0 hb0)
  clear hown0 hb0
  go_enter Tryz.func41, Tryz.ntmps41
  go_wp2_with fail
  go_loopw [0, 5, 6] (fun nn b i wr => ∃ (j : Nat) (va : Option Addr) (vc : Nat), j ≤ 4 ∧ i = .int .i64 j ∧ nn = .int .u64 ((n / 256 ^ j : Nat) : Int) ∧ b = .slice va j vc ∧ wr.ownsRow w.heap.size 5 1 (.slice va j vc) j (Lib.byteCells (leB n j)) ∧ Below w.heap.size w wr) (fun _ _ i _ => 4 - (intOf i).toNat)
  case atStart => exact ⟨0, _, 0, by omega, rfl, by simp, rfl, H.out.1, H.out.2⟩
  case round =>
    obtain ⟨j, va, vc, hj, rfl, rfl, rfl, hown, hbel⟩ := hrel
    have hBwr := hbel.size
    by_cases hlt : j < 4
    · generalize hm : n / 256 ^ j = m at *
      have HM := Lib.hid hm
      have hm0 : (0 : Int) ≤ (m : Int) := by omega
      have hmlt : (m : Int) ≤ 18446744073709551615 := by
        have h1 : n / 256 ^ j ≤ n := Nat.div_le_self _ _
        omega
      have HOW := Lib.hid (hown.alloc (.cells #[.int .u8 ((m : Int) % 256)] 5))
      have hra : ∀ y, (Value.slice va j vc).ownBlock = some y → w.heap.size ≤ y := fun y hy => (hown.lt y hy).1
      clear hown hm
      go_wp2_with (at_builtin; go_loud (refine wpList_append_own _ rfl (.tmp 13) (.tmp 17) 131 rfl w.heap.size 5 i0 (.int .u8 0) 1 1 Tryz.underlying131 hi hz0 hz1 hz2 rfl (by decide) (.slice va j vc) j _ rfl HOW.out ⟨wr.heap.size, 0, none⟩ 1 1 [.int .u8 ((m : Int) % 256)] rfl rfl ?c1 ?c2 ?c3 ?c4 ?c5 ?_))
      case c1 =>
        intro i u hu
        match i, hu with
        | 0, hu => simp at hu; subst hu; simp [Addr.add]
      case c2 => intro u hu; simp at hu; subst hu; rfl
      case c3 => unfold maxLen; omega
      case c4 => omega
      case c5 => simp; omega
      intro v2 w2 hown2 hg2 _
      obtain ⟨va2, vc2, hv2⟩ := ownsRow_slice hown2
      rw [hv2] at hown2 ⊢
      clear hv2
      have hbel2 : Below w.heap.size w w2 := (hbel.alloc hBwr _).grown hg2 (by simp; omega) hra
      have HO2 := Lib.hid (And.intro hown2 hbel2)
      clear hown2 hbel2 hg2 HOW
      go_wp2
      go_roundw
      case rel =>
        refine ⟨j + 1, va2, vc2, by omega, by go_num, ?_, rfl, ?_, HO2.out.2⟩
        · rw [Nat.pow_succ, ← Nat.div_div_eq_div_mul, HM.out]
          simp
        · have := HO2.out.1
          rw [leB_succ, HM.out]
          simpa using this
      case measure => simp [intOf]; omega
    · obtain rfl : j = 4 := by omega
      have hcv := conv_row (bs := leB n 4) (by rw [leB_len]; exact hown)
      rw [leB_len] at hcv
      clear hown
      go_wp2
      go_ret
      exact ⟨rfl, hbel⟩
set_option maxRecDepth 100000 in
set_option maxHeartbeats 1000000 in
theorem low_8 (n : Nat) (w : World) (hn : n < 18446744073709551616) : Calls Tryz.prog 41 #[.int .u64 (n : Int), .int .i64 8] w fun e w' => e = .returned (.string ⟨(leB n 8).toArray⟩) ∧ Below w.heap.size w w' := by
  obtain ⟨i0, hi, hz0, hz1, hz2⟩ := info_parts Tryz.info5
  have hown0 : (w.alloc (.cells #[] 5)).ownsRow w.heap.size 5 1 (.slice (some ⟨w.heap.size, 0, none⟩) 0 0) 0 [] := World.ownsRow_made w #[] 0 (Nat.le_refl _) (by simp) (by simp)
  have hb0 := (Below.refl _ w).alloc (Nat.le_refl _) (.cells #[] 5)
  have H := Lib.hid (And.intro hown0 hb0)
  clear hown0 hb0
  go_enter Tryz.func41, Tryz.ntmps41
  go_wp2_with fail
  go_loopw [0, 5, 6] (fun nn b i wr => ∃ (j : Nat) (va : Option Addr) (vc : Nat), j ≤ 8 ∧ i = .int .i64 j ∧ nn = .int .u64 ((n / 256 ^ j : Nat) : Int) ∧ b = .slice va j vc ∧ wr.ownsRow w.heap.size 5 1 (.slice va j vc) j (Lib.byteCells (leB n j)) ∧ Below w.heap.size w wr) (fun _ _ i _ => 8 - (intOf i).toNat)
  case atStart => exact ⟨0, _, 0, by omega, rfl, by simp, rfl, H.out.1, H.out.2⟩
  case round =>
    obtain ⟨j, va, vc, hj, rfl, rfl, rfl, hown, hbel⟩ := hrel
    have hBwr := hbel.size
    by_cases hlt : j < 8
    · generalize hm : n / 256 ^ j = m at *
      have HM := Lib.hid hm
      have hm0 : (0 : Int) ≤ (m : Int) := by omega
      have hmlt : (m : Int) ≤ 18446744073709551615 := by
        have h1 : n / 256 ^ j ≤ n := Nat.div_le_self _ _
        omega
      have HOW := Lib.hid (hown.alloc (.cells #[.int .u8 ((m : Int) % 256)] 5))
      have hra : ∀ y, (Value.slice va j vc).ownBlock = some y → w.heap.size ≤ y := fun y hy => (hown.lt y hy).1
      clear hown hm
      go_wp2_with (at_builtin; go_loud (refine wpList_append_own _ rfl (.tmp 13) (.tmp 17) 131 rfl w.heap.size 5 i0 (.int .u8 0) 1 1 Tryz.underlying131 hi hz0 hz1 hz2 rfl (by decide) (.slice va j vc) j _ rfl HOW.out ⟨wr.heap.size, 0, none⟩ 1 1 [.int .u8 ((m : Int) % 256)] rfl rfl ?c1 ?c2 ?c3 ?c4 ?c5 ?_))
      case c1 =>
        intro i u hu
        match i, hu with
        | 0, hu => simp at hu; subst hu; simp [Addr.add]
      case c2 => intro u hu; simp at hu; subst hu; rfl
      case c3 => unfold maxLen; omega
      case c4 => omega
      case c5 => simp; omega
      intro v2 w2 hown2 hg2 _
      obtain ⟨va2, vc2, hv2⟩ := ownsRow_slice hown2
      rw [hv2] at hown2 ⊢
      clear hv2
      have hbel2 : Below w.heap.size w w2 := (hbel.alloc hBwr _).grown hg2 (by simp; omega) hra
      have HO2 := Lib.hid (And.intro hown2 hbel2)
      clear hown2 hbel2 hg2 HOW
      go_wp2
      go_roundw
      case rel =>
        refine ⟨j + 1, va2, vc2, by omega, by go_num, ?_, rfl, ?_, HO2.out.2⟩
        · rw [Nat.pow_succ, ← Nat.div_div_eq_div_mul, HM.out]
          simp
        · have := HO2.out.1
          rw [leB_succ, HM.out]
          simpa using this
      case measure => simp [intOf]; omega
    · obtain rfl : j = 8 := by omega
      have hcv := conv_row (bs := leB n 8) (by rw [leB_len]; exact hown)
      rw [leB_len] at hcv
      clear hown
      go_wp2
      go_ret
      exact ⟨rfl, hbel⟩
set_option maxRecDepth 100000 in
set_option maxHeartbeats 1000000 in
theorem num02_4 (n : Nat) (w : World) (hn : n < 4294967296) : Calls Tryz.prog 91 #[.int .i64 4, .int .u64 (n : Int)] w fun e w' => e = .returned (.tuple #[.string ⟨(leB n 4).toArray⟩, .bool true]) ∧ Below w.heap.size w w' := by
  obtain ⟨i0, hi, hz0, hz1, hz2⟩ := info_parts Tryz.info5
  have hown0 : (w.alloc (.cells #[] 5)).ownsRow w.heap.size 5 1 (.slice (some ⟨w.heap.size, 0, none⟩) 0 0) 0 [] := World.ownsRow_made w #[] 0 (Nat.le_refl _) (by simp) (by simp)
  have hb0 := (Below.refl _ w).alloc (Nat.le_refl _) (.cells #[] 5)
  have H := Lib.hid (And.intro hown0 hb0)
  clear hown0 hb0
  go_enter Tryz.func91, Tryz.ntmps91
  go_wp2_with fail
  go_loopw [1, 6, 7] (fun nn b i wr => ∃ (j : Nat) (va : Option Addr) (vc : Nat), j ≤ 4 ∧ i = .int .i64 j ∧ nn = .int .u64 ((n / 256 ^ j : Nat) : Int) ∧ b = .slice va j vc ∧ wr.ownsRow w.heap.size 5 1 (.slice va j vc) j (Lib.byteCells (leB n j)) ∧ Below w.heap.size w wr) (fun _ _ i _ => 4 - (intOf i).toNat)
  case atStart => exact ⟨0, _, 0, by omega, rfl, by simp, rfl, H.out.1, H.out.2⟩
  case round =>
    obtain ⟨j, va, vc, hj, rfl, rfl, rfl, hown, hbel⟩ := hrel
    have hBwr := hbel.size
    by_cases hlt : j < 4
    · generalize hm : n / 256 ^ j = m at *
      have HM := Lib.hid hm
      have hm0 : (0 : Int) ≤ (m : Int) := by omega
      have hmlt : (m : Int) ≤ 18446744073709551615 := by
        have h1 : n / 256 ^ j ≤ n := Nat.div_le_self _ _
        omega
      have HOW := Lib.hid (hown.alloc (.cells #[.int .u8 ((m : Int) % 256)] 5))
      have hra : ∀ y, (Value.slice va j vc).ownBlock = some y → w.heap.size ≤ y := fun y hy => (hown.lt y hy).1
      clear hown hm
      go_wp2_with (at_builtin; go_loud (refine wpList_append_own _ rfl (.tmp 28) (.tmp 32) 131 rfl w.heap.size 5 i0 (.int .u8 0) 1 1 Tryz.underlying131 hi hz0 hz1 hz2 rfl (by decide) (.slice va j vc) j _ rfl HOW.out ⟨wr.heap.size, 0, none⟩ 1 1 [.int .u8 ((m : Int) % 256)] rfl rfl ?c1 ?c2 ?c3 ?c4 ?c5 ?_))
      case c1 =>
        intro i u hu
        match i, hu with
        | 0, hu => simp at hu; subst hu; simp [Addr.add]
      case c2 => intro u hu; simp at hu; subst hu; rfl
      case c3 => unfold maxLen; omega
      case c4 => omega
      case c5 => simp; omega
      intro v2 w2 hown2 hg2 _
      obtain ⟨va2, vc2, hv2⟩ := ownsRow_slice hown2
      rw [hv2] at hown2 ⊢
      clear hv2
      have hbel2 : Below w.heap.size w w2 := (hbel.alloc hBwr _).grown hg2 (by simp; omega) hra
      have HO2 := Lib.hid (And.intro hown2 hbel2)
      clear hown2 hbel2 hg2 HOW
      go_wp2
      go_roundw
      case rel =>
        refine ⟨j + 1, va2, vc2, by omega, by go_num, ?_, rfl, ?_, HO2.out.2⟩
        · rw [Nat.pow_succ, ← Nat.div_div_eq_div_mul, HM.out]
          simp
        · have := HO2.out.1
          rw [leB_succ, HM.out]
          simpa using this
      case measure => simp [intOf]; omega
    · obtain rfl : j = 4 := by omega
      have hcv := conv_row (bs := leB n 4) (by rw [leB_len]; exact hown)
      rw [leB_len] at hcv
      have hz : n / 256 ^ 4 = 0 := Nat.div_eq_of_lt (by omega)
      rw [hz]
      clear hown
      go_wp2
      go_returns
      exact ⟨rfl, hbel⟩
theorem str_app (l : List UInt8) (s : ByteArray) : (⟨l.toArray⟩ : ByteArray) ++ s = ⟨(l ++ s.data.toList).toArray⟩ := by
  apply ByteArray.ext
  rw [ByteArray.data_append]
  simp
theorem low1 (x : Int) (w : World) (h0 : 0 ≤ x) (h1 : x < 256) : Calls Tryz.prog 41 #[.int .u64 x, .int .i64 1] w fun e w' => e = .returned (.string ⟨(leB x.toNat 1).toArray⟩) ∧ Below w.heap.size w w' := by
  have := low_1 x.toNat w (by omega)
  rw [Int.toNat_of_nonneg h0] at this
  exact this
theorem low4 (x : Int) (w : World) (h0 : 0 ≤ x) (h1 : x < 4294967296) : Calls Tryz.prog 41 #[.int .u64 x, .int .i64 4] w fun e w' => e = .returned (.string ⟨(leB x.toNat 4).toArray⟩) ∧ Below w.heap.size w w' := by
  have := low_4 x.toNat w (by omega)
  rw [Int.toNat_of_nonneg h0] at this
  exact this
theorem low8 (x : Int) (w : World) (h0 : 0 ≤ x) (h1 : x < 18446744073709551616) : Calls Tryz.prog 41 #[.int .u64 x, .int .i64 8] w fun e w' => e = .returned (.string ⟨(leB x.toNat 8).toArray⟩) ∧ Below w.heap.size w w' := by
  have := low_8 x.toNat w (by omega)
  rw [Int.toNat_of_nonneg h0] at this
  exact this
set_option maxRecDepth 100000 in
theorem part02_any (s : ByteArray) (w : World) (hs : s.size ≤ 100000) : Calls Tryz.prog 55 #[.string s] w fun e w' => e = .returned (.string ⟨(partB s.data.toList).toArray⟩) ∧ Below w.heap.size w w' := by
  go_enter Tryz.func55, Tryz.ntmps55
  go_wp2_with fail
  refine (num02_4 s.size _ (by omega)).mono ?_
  rintro e w1 ⟨rfl, hb1⟩
  have hL : (leB s.size 4).length = 4 := leB_len _ _
  go_wp2
  go_ret
  refine ⟨?_, hb1⟩
  unfold partB
  rw [← str_app]
  rfl
/-- A row of bytes that has just been made, as a text. -/
theorem conv_lit (w : World) (bs : List UInt8) (cells : Array Value) (hc : (Lib.byteCells bs).toArray = cells) (n : Nat) (hn : bs.length = n) (hl : n ≤ 1000) (q : Nat) (hq : q = w.heap.size) : (convert 131 9 (.slice (some ⟨q, 0, none⟩) n n)).run Tryz.prog (w.alloc (.cells cells 5)) = .ok (.string ⟨bs.toArray⟩) (w.alloc (.cells cells 5)) := by
  subst hn hc hq
  refine conv_row (B := 0) ⟨by simp [Lib.byteCells], .inr ⟨w.heap.size, bs.length, _, rfl, Nat.zero_le _, heap_alloc_new w _, Nat.le_refl _, by unfold maxLen; omega, by simp [Lib.byteCells], ?_⟩⟩
  rw [List.take_of_length_le (by simp [Lib.byteCells])]
/-- Four bytes of a number, by division. -/
theorem quad_cells (n : Nat) (h : n < 4294967296) : (Lib.byteCells (leB n 4)).toArray = #[.int .u8 ((n : Int) % 256), .int .u8 ((n : Int) / 256 % 256), .int .u8 ((n : Int) / 65536 % 256), .int .u8 ((n : Int) / 16777216)] := by
  rw [leB_succ, leB_succ, leB_succ, leB_succ]
  have e : n / 16777216 % 256 = n / 16777216 := by omega
  simp [leB, Lib.byteCells]
  omega
set_option maxRecDepth 100000 in
theorem quad_any (x : Int) (w : World) (h0 : 0 ≤ x) (h1 : x < 4294967296) : Calls Tryz.prog 92 #[.int .i64 x] w fun e w' => e = .returned (.string ⟨(leB x.toNat 4).toArray⟩) ∧ Below w.heap.size w w' := by
  obtain ⟨n, rfl⟩ := Int.eq_ofNat_of_zero_le h0
  have hcv := conv_lit w (leB n 4) _ (quad_cells n (by omega)) 4 (leB_len _ _) (by decide) _ rfl
  go_enter Tryz.func92, Tryz.ntmps92
  go_wp2_with fail
  go_ret
  exact ⟨rfl, by go_grown⟩
set_option maxRecDepth 100000 in
set_option maxHeartbeats 1000000 in
theorem of03_any (s : ByteArray) (w : World) (hs : s.size ≤ 100000) : Calls Tryz.prog 95 #[.string s] w fun e w' => e = .returned (.int .u32 (sumF s.data.toList)) ∧ w = w' := by
  have hsz : s.data.toList.length = s.size := by rw [Array.length_toList]; rfl
  have hF : sumF s.data.toList = (sumGo (1, 0) s.data.toList).2 * 65536 + (sumGo (1, 0) s.data.toList).1 := rfl
  have HF := Lib.hid hF
  clear hF
  go_enter Tryz.func95, Tryz.ntmps95
  go_wp2_with fail
  go_loop [3, 4, 5] (fun a b i => ∃ k : Nat, k ≤ s.size ∧ i = .int .i64 k ∧ a = .int .i64 (sumGo (1, 0) (s.data.toList.take k)).1 ∧ b = .int .i64 (sumGo (1, 0) (s.data.toList.take k)).2) (fun _ _ i => s.size - (intOf i).toNat)
  case atStart => exact ⟨0, Nat.zero_le _, rfl, rfl, rfl⟩
  case round =>
    obtain ⟨k, hk, rfl, rfl, rfl⟩ := hrel
    obtain ⟨a0, a1, b0, b1⟩ := sumGo_bd (s.data.toList.take k) (1, 0) (by decide)
    by_cases hlt : k < s.size
    · have hx : s.data.toList[k]? = some s[k] := by
        rw [List.getElem?_eq_getElem (by omega)]
        rfl
      have hsn := Lib.hid (sumGo_snoc hx (1, 0))
      generalize sumGo (1, 0) (s.data.toList.take k) = p at *
      obtain ⟨a, b⟩ := p
      dsimp only at a0 a1 b0 b1 ⊢
      have hb := s[k].toNat_lt
      go_wp2_with fail
      go_round
      case rel =>
        refine ⟨k + 1, by omega, by go_num, ?_, ?_⟩
        · rw [hsn.out]
        · rw [hsn.out]
      case measure => simp [intOf]; omega
    · obtain rfl : k = s.size := by omega
      have HT : Hid (s.data.toList.take s.size = s.data.toList) := Lib.hid (by rw [← hsz, List.take_length])
      rw [HT.out] at a0 a1 b0 b1 ⊢
      generalize sumGo (1, 0) s.data.toList = p at *
      obtain ⟨a, b⟩ := p
      dsimp only at a0 a1 b0 b1 HF ⊢
      go_wp2_with fail
      go_ret
      exact ⟨congrArg (fun x => Ending.returned (.int .u32 x)) HF.out.symm, rfl⟩
set_option maxRecDepth 100000 in
theorem stamp03_any (s : ByteArray) (w : World) (hs : s.size ≤ 90000) : Calls Tryz.prog 59 #[.string s] w fun e w' => e = .returned (.string ⟨(stampB s.data.toList).toArray⟩) ∧ Below w.heap.size w w' := by
  obtain ⟨s0, s1⟩ := sumF_bd s.data.toList
  obtain ⟨n, hn⟩ := Int.eq_ofNat_of_zero_le s0
  have hcv := conv_lit w (leB n 4) _ (quad_cells n (by omega)) 4 (leB_len _ _) (by decide) _ rfl
  have hL : (leB n 4).length = 4 := leB_len _ _
  have hof := of03_any s w (by omega)
  rw [hn] at hof
  have HN := Lib.hid hn
  rw [hn] at s1
  clear hn s0
  go_enter Tryz.func59, Tryz.ntmps59
  go_wp2_with fail
  refine hof.mono ?_
  rintro e w1 ⟨rfl, rfl⟩
  go_wp2_with fail
  go_ret
  refine ⟨?_, by go_grown⟩
  unfold stampB
  rw [HN.out]
  show Ending.returned (.string (s ++ ⟨(leB n 4).toArray⟩)) = _
  exact congrArg (fun x => Ending.returned (.string x)) (by apply ByteArray.ext; rw [ByteArray.data_append]; simp)
end Go.Proofs.YtgnilkjdpfbjgaaGreat
namespace Go.Proofs.YtgnilkjdpfbjgaaGreat
open Go.RowKit
set_option linter.unusedVariables false
set_option maxRecDepth 100000 in
theorem good_zero (w : World) : Calls Tryz.prog 98 #[.agg #[.bool false, .int .u64 0, .int .u64 0]] w fun e w' => e = .returned (.bool true) ∧ Below w.heap.size w w' := by
  go_enter Tryz.func98, Tryz.ntmps98
  go_wp2_with fail
  go_returns
  exact ⟨rfl, by go_grown⟩
set_option maxRecDepth 100000 in
theorem takes_3 (w : World) : Calls Tryz.prog 138 #[.int .i64 3] w fun e w' => e = .returned (.int .i64 0) ∧ w = w' := by
  go_enter Tryz.func138, Tryz.ntmps138
  go_wp2_with fail
  go_returns
  exact ⟨rfl, rfl⟩
set_option maxRecDepth 100000 in
set_option maxHeartbeats 1000000 in
theorem check11_any (x : InsT) (w : World) (T : Nat → TypeId → Prop) (u : Value) (hu : At w T (codeD x) u) (h : insOk x = true) : Calls Tryz.prog 114 #[u] w fun e w' => e = .returned (.int .i64 0) ∧ Below w.heap.size w w' := by
  obtain ⟨q, off, c, rfl, _, _, hq, c0, c1, c2, c3, c4, c5⟩ := code_at hu
  obtain ⟨op, a⟩ := x
  obtain ⟨rfl, a0, a1⟩ := insOk_bd h
  dsimp only at a0 a1 c0 c1
  have d1 : decide (a < 0) = false := by simp; omega
  have d2 : decide (7 < a) = false := by simp; omega
  clear hu h
  go_enter Tryz.func114, Tryz.ntmps114
  go_wp2_with fail
  go_loopw [3, 4] (fun n i wr => ∃ (k : Nat), k ≤ 1 ∧ i = .int .i64 k ∧ n = .int .i64 k ∧ Below w.heap.size w wr) (fun _ i _ => 1 - (intOf i).toNat)
  case atStart => exact ⟨0, Nat.zero_le _, rfl, rfl, Below.refl _ _⟩
  case round =>
    obtain ⟨k, hk, rfl, rfl, hbw⟩ := hrel
    rcases (by omega : k = 0 ∨ k = 1) with rfl | rfl
    · have d := fun o => hbw.cell (p := ⟨q, o, none⟩) hq
      have z0 := (d _).trans c0
      have z1 := (d _).trans c1
      have z2 := (d _).trans c2
      have z3 := (d _).trans c3
      have z4 := (d _).trans c4
      have z5 := (d _).trans c5
      clear d
      go_wp2_with fail
      refine (good_zero _).mono ?_
      rintro e w1 ⟨rfl, hb1⟩
      have hq1 := keep hb1 (heap_alloc_new wr _)
      have hbel1 := (hbw.alloc hbw.size (.cells #[.int .i64 3, .int .i64 a, .int .i64 0, .bool false, .int .u64 0, .int .u64 0] 150)).trans (hb1.mono (by have := hbw.size; simp; omega))
      generalize hqr : wr.heap.size = qr at *
      have e0 := cell_at hq1 0
      have e1 := cell_at hq1 1
      have e2 := cell_at hq1 2
      simp at e0 e1 e2
      clear z0 z1 z2 z3 z4 z5 c0 c1 c2 c3 c4 c5 hb1
      go_wp2_with fail
      refine (takes_3 _).mono ?_
      rintro e w2 ⟨rfl, rfl⟩
      go_wp2_with fail
      refine (takes_3 _).mono ?_
      rintro e w2 ⟨rfl, rfl⟩
      go_wp2
      go_roundw
      case rel => exact ⟨1, by omega, by go_num, by go_num, hbel1⟩
      case measure => simp [intOf]
    · go_wp2
      go_ret
      exact ⟨rfl, hbw⟩
theorem ba_cat (a b : List UInt8) : ((⟨a.toArray⟩ : ByteArray) ++ (⟨b.toArray⟩ : ByteArray)) = ⟨(a ++ b).toArray⟩ := by
  apply ByteArray.ext
  rw [ByteArray.data_append]
  simp
theorem conv_one (x : Int) (h0 : 0 ≤ x) (h1 : x < 256) (W : World) (q : Nat) (hq : q = W.heap.size) : (convert 131 9 (.slice (some ⟨q, 0, none⟩) 1 1)).run Tryz.prog (W.alloc (.cells #[.int .u8 x] 5)) = .ok (.string ⟨(leB x.toNat 1).toArray⟩) (W.alloc (.cells #[.int .u8 x] 5)) := by
  refine conv_lit W (leB x.toNat 1) #[.int .u8 x] ?_ 1 (leB_len _ _) (by decide) q hq
  rw [leB_succ]
  simp [leB, Lib.byteCells]
  omega
set_option maxRecDepth 100000 in
set_option maxHeartbeats 1000000 in
theorem enc11_any (x : InsT) (w : World) (T : Nat → TypeId → Prop) (u : Value) (hu : At w T (codeD x) u) (h : insOk x = true) : Calls Tryz.prog 90 #[u] w fun e w' => e = .returned (.tuple #[.string ⟨(codeBytes x).toArray⟩, .int .i64 0]) ∧ Below w.heap.size w w' := by
  have hck := check11_any x w T u hu h
  obtain ⟨q, off, c, rfl, _, _, hq, c0, c1, c2, c3, c4, c5⟩ := code_at hu
  obtain ⟨op, a⟩ := x
  obtain ⟨rfl, a0, a1⟩ := insOk_bd h
  dsimp only at a0 a1 c0 c1
  have a2 : a < 256 := by omega
  have k1 := conv_one 1 (by decide) (by decide)
  have k3 := conv_one 3 (by decide) (by decide)
  have ka := conv_one a a0 a2
  have hL : ∀ n k, (leB n k).length = k := leB_len
  clear hu h
  go_enter Tryz.func90, Tryz.ntmps90
  go_wp2_with fail
  refine hck.mono ?_
  rintro e w1 ⟨rfl, hb1⟩
  have HB1 := Lib.hid (hb1.alloc hb1.size (.cells #[.int .u8 1] 5))
  go_wp2_with fail
  go_loopw [5, 6] (fun s i wr => ∃ (k : Nat), k ≤ 1 ∧ i = .int .i64 k ∧ s = .string ⟨(if k = 0 then leB 1 1 else codeBytes ⟨3, a⟩).toArray⟩ ∧ Below w.heap.size w wr) (fun _ i _ => 1 - (intOf i).toNat)
  case atStart => exact ⟨0, Nat.zero_le _, rfl, rfl, HB1.out⟩
  case round =>
    obtain ⟨k, hk, rfl, rfl, hbw⟩ := hrel
    rcases (by omega : k = 0 ∨ k = 1) with rfl | rfl
    · rw [if_pos rfl]
      have d := fun o => hbw.cell (p := ⟨q, o, none⟩) hq
      have z0 := (d _).trans c0
      have z1 := (d _).trans c1
      have z2 := (d _).trans c2
      have z3 := (d _).trans c3
      have z4 := (d _).trans c4
      have z5 := (d _).trans c5
      have hzr := hbw.size
      clear d c0 c1 c2 c3 c4 c5 hb1 hck
      have hb3 : ∀ o1 o2 o3, Below w.heap.size w (((wr.alloc o1).alloc o2).alloc o3) := fun o1 o2 o3 => ((hbw.alloc hzr o1).alloc (by simp; omega) o2).alloc (by simp; omega) o3
      go_wp2_with fail
      go_roundw
      case rel => exact ⟨1, by omega, by go_num, by rw [if_neg (by decide), ba_cat, ba_cat]; rfl, hb3 _ _ _⟩
      case measure => simp [intOf]
    · rw [if_neg (by decide)]
      go_wp2
      go_returns
      exact ⟨rfl, hbw⟩
end Go.Proofs.YtgnilkjdpfbjgaaGreat
