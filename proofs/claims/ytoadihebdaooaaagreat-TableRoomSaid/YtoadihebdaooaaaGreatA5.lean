/- Contracts of column.New, schema.IsName. -/
import Derived.Test.YtoadihebdaooaaaGreatA4
namespace Go.Proofs.YtoadihebdaooaaaGreat
open Go.RowKit
set_option linter.unusedVariables false

def colOk (size limit : Int) : Bool := decide (0 ≤ size) && decide (size ≤ 256) && decide (1 ≤ limit) && decide (limit ≤ 65536)
/-- A new column: nil, or a new block. -/
def IsCol (size limit : Int) (w : World) (e : Ending) (w' : World) : Prop :=
  if colOk size limit then e = .returned (.pointer (some ⟨w.heap.size, 0, none⟩)) ∧ w' = w.alloc (.cells #[.int .i64 size, .int .i64 limit, .int .i64 0, .slice none 0 0] 207)
  else e = .returned (.pointer none) ∧ w' = w
theorem colNew_any (size limit : Int) (w : World) : Calls Tryz.prog 78 #[.int .i64 size, .int .i64 limit] w (IsCol size limit w) := by
  rcases (by omega : size < 0 ∨ (0 ≤ size ∧ 256 < size) ∨ (0 ≤ size ∧ size ≤ 256 ∧ limit < 1) ∨ (0 ≤ size ∧ size ≤ 256 ∧ 1 ≤ limit ∧ 65536 < limit) ∨ (0 ≤ size ∧ size ≤ 256 ∧ 1 ≤ limit ∧ limit ≤ 65536)) with h | ⟨h, h'⟩ | ⟨h, h', h''⟩ | ⟨h, h', h'', h3⟩ | ⟨h, h', h'', h3⟩
  · have H : Hid (colOk size limit = false) := Lib.hid (by simp [colOk]; omega)
    go_enter Tryz.func78, Tryz.ntmps78
    go_wp2
    go_returns
    unfold IsCol; rw [H.out]; exact ⟨rfl, rfl⟩
  · have H : Hid (colOk size limit = false) := Lib.hid (by simp [colOk]; omega)
    go_enter Tryz.func78, Tryz.ntmps78
    go_wp2
    go_returns
    unfold IsCol; rw [H.out]; exact ⟨rfl, rfl⟩
  · have H : Hid (colOk size limit = false) := Lib.hid (by simp [colOk]; omega)
    go_enter Tryz.func78, Tryz.ntmps78
    go_wp2
    go_returns
    unfold IsCol; rw [H.out]; exact ⟨rfl, rfl⟩
  · have H : Hid (colOk size limit = false) := Lib.hid (by simp [colOk]; omega)
    go_enter Tryz.func78, Tryz.ntmps78
    go_wp2
    go_returns
    unfold IsCol; rw [H.out]; exact ⟨rfl, rfl⟩
  · have H : Hid (colOk size limit = true) := Lib.hid (by simp [colOk]; omega)
    go_enter Tryz.func78, Tryz.ntmps78
    go_wp2
    go_returns
    unfold IsCol; rw [H.out]; exact ⟨rfl, rfl⟩

def chB (c : UInt8) : Bool := letB c.toNat || (decide (48 ≤ c.toNat) && decide (c.toNat ≤ 57))
def isNameB (s : ByteArray) : Bool := decide (1 ≤ s.size) && decide (s.size ≤ 12) && letB ((s.data.toList.getD 0 0).toNat) && s.data.toList.all chB

theorem isName_long {s : ByteArray} (h : s.size = 0 ∨ 12 < s.size) : isNameB s = false := by unfold isNameB; rcases h with h | h <;> simp [h] <;> omega
theorem data_getD {s : ByteArray} {k : Nat} (h : k < s.size) : s.data.toList.getD k 0 = s[k] := by
  have h' : k < s.data.toList.length := by simpa using h
  rw [List.getD_eq_getElem?_getD, List.getElem?_eq_getElem h']
  simp; rfl
theorem data_get? {s : ByteArray} {k : Nat} (h : k < s.size) : s.data.toList[k]? = some s[k] := by
  have h' : k < s.data.toList.length := by simpa using h
  rw [List.getElem?_eq_getElem h']
  simp; rfl
theorem isName_head {s : ByteArray} (h0 : 0 < s.size) (h : letB (s[0].toNat) = false) : isNameB s = false := by
  unfold isNameB; rw [data_getD h0, h]; simp
theorem isName_bad {s : ByteArray} {k : Nat} (hk : k < s.size) (h : chB s[k] = false) : isNameB s = false := by
  unfold isNameB
  have : s.data.toList.all chB = false := by
    rw [List.all_eq_false]
    exact ⟨s[k], List.mem_of_getElem? (data_get? hk), by rw [h]; simp⟩
  rw [this]; simp
theorem isName_good {s : ByteArray} (h0 : 0 < s.size) (h1 : s.size ≤ 12) (h : letB (s[0].toNat) = true) (ha : s.data.toList.all chB = true) : isNameB s = true := by
  unfold isNameB; rw [data_getD h0, h, ha]; simp; omega
theorem empty_true {s : ByteArray} (h : s.size = 0) : s.toList = [] := by
  rw [ByteArray.toList_eq]
  have : s.data.size = 0 := h
  rw [← List.length_eq_zero_iff]
  simpa using this
theorem empty_false {s : ByteArray} (h : s.size ≠ 0) : s.toList.isEmpty = false := by
  rw [ByteArray.toList_eq]
  have : s.data.size ≠ 0 := h
  rw [Bool.eq_false_iff]
  intro h'
  rw [List.isEmpty_iff] at h'
  exact this (by rw [← Array.length_toList, h']; rfl)
set_option maxRecDepth 100000 in
theorem isName_any (s : ByteArray) (w : World) (hs : s.size ≤ maxLen) : Calls Tryz.prog 93 #[.string s] w fun e w' => e = .returned (.bool (isNameB s)) ∧ w = w' := by
  unfold maxLen at hs
  by_cases h0 : s.size = 0
  · have H := Lib.hid (isName_long (.inl h0))
    have e0 := empty_true h0
    clear h0
    go_enter Tryz.func93, Tryz.ntmps93
    go_wp2
    go_ret
    exact ⟨ret_bool H.out.symm, rfl⟩
  · have e0 := empty_false h0
    by_cases h1 : 12 < s.size
    · have H := Lib.hid (isName_long (.inr h1))
      go_enter Tryz.func93, Tryz.ntmps93
      go_wp2
      go_ret
      exact ⟨ret_bool H.out.symm, rfl⟩
    · have hp : 0 < s.size := by omega
      have hp' : (0 : Int) < (s.size : Int) := by omega
      have hd : decide (12 < (s.size : Int)) = false := by simp; omega
      go_enter Tryz.func93, Tryz.ntmps93
      go_wp2_with fail
      refine (isLetter_any _ _ (by omega) (by have := s[0].toNat_lt; omega)).mono ?_
      rintro e w' ⟨rfl, rfl⟩
      cases hl : letB (s[0].toNat)
      · have H := Lib.hid (isName_head hp hl)
        clear hl
        go_wp2
        go_ret
        exact ⟨ret_bool H.out.symm, rfl⟩
      · have HL := Lib.hid hl
        clear hl
        go_wp2_with fail
        go_loop [19] (fun i => ∃ k : Nat, k ≤ s.size ∧ i = .int .i64 k ∧ (s.data.toList.take k).all chB = true) (fun i => s.size - (intOf i).toNat)
        case atStart => exact ⟨0, Nat.zero_le _, rfl, rfl⟩
        case round =>
          obtain ⟨k, hk, rfl, hall⟩ := hrel
          have HA := Lib.hid hall
          clear hall
          by_cases hlt : k < s.size
          · have HT := Lib.hid (take_snoc (data_get? hlt))
            have hlt' : (k : Int) < (s.size : Int) := by omega
            go_wp2_with fail
            refine (isLetter_any _ _ (by omega) (by have := s[k].toNat_lt; omega)).mono ?_
            rintro e w' ⟨rfl, rfl⟩
            cases hl : letB (s[k].toNat)
            · rcases (by omega : (s[k].toNat : Int) < 48 ∨ (48 ≤ (s[k].toNat : Int) ∧ 57 < (s[k].toNat : Int)) ∨ (48 ≤ (s[k].toNat : Int) ∧ (s[k].toNat : Int) ≤ 57)) with h | ⟨h, h'⟩ | ⟨h, h'⟩
              · have H := Lib.hid (isName_bad hlt (by unfold chB; rw [hl]; simp; omega))
                have e1 : decide ((s[k].toNat : Int) < 48) = true := by simp; omega
                clear hl
                go_wp2
                go_ret
                exact ⟨ret_bool H.out.symm, rfl⟩
              · have H := Lib.hid (isName_bad hlt (by unfold chB; rw [hl]; simp; omega))
                have e1 : decide ((s[k].toNat : Int) < 48) = false := by simp; omega
                have e2 : decide (57 < (s[k].toNat : Int)) = true := by simp; omega
                clear hl
                go_wp2
                go_ret
                exact ⟨ret_bool H.out.symm, rfl⟩
              · have H := Lib.hid (show chB s[k] = true by unfold chB; rw [hl]; simp; omega)
                have e1 : decide ((s[k].toNat : Int) < 48) = false := by simp; omega
                have e2 : decide (57 < (s[k].toNat : Int)) = false := by simp; omega
                clear hl
                go_wp2
                go_round
                case rel => exact ⟨k + 1, by omega, by go_num, by rw [HT.out, List.all_append, HA.out]; simp [H.out]⟩
                case measure => simp [intOf]; omega
            · have H := Lib.hid (show chB s[k] = true by unfold chB; rw [hl]; simp)
              clear hl
              go_wp2
              go_round
              case rel => exact ⟨k + 1, by omega, by go_num, by rw [HT.out, List.all_append, HA.out]; simp [H.out]⟩
              case measure => simp [intOf]; omega
          · obtain rfl : k = s.size := by omega
            have H := Lib.hid (isName_good hp (by omega) HL.out (by have := HA.out; rwa [List.take_of_length_le (by simp)] at this))
            go_wp2
            go_ret
            exact ⟨ret_bool H.out.symm, rfl⟩
end Go.Proofs.YtoadihebdaooaaaGreat
