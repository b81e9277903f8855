/- Contracts of the small functions that compute with numbers and strings. -/
import Derived.Test.YtoadihebdaooaaaGreatRows
import Derived.WalkKit
import Derived.WalkSpells
import Derived.WalkLawsBesides
import Derived.Outline
import Derived.Handy
import Derived.Lib.Hide
namespace Go.Proofs.YtoadihebdaooaaaGreat
open Go.RowKit
set_option linter.unusedVariables false

def idB (n : Int) : Bool := decide (1 ≤ n ∧ n ≤ 24)
def hasB (s n : Int) : Bool := idB n && (bits BinOp.and IntKind.u32 (s / 2 ^ n.toNat) 1 == 1)
def sWith (s n : Int) : Int := if idB n then bits BinOp.or IntKind.u32 s (2 ^ n.toNat % 4294967296) else s
def sWithout (s n : Int) : Int := if idB n then bits BinOp.andNot IntKind.u32 s (2 ^ n.toNat % 4294967296) else s
def sIs (s : Int) : Bool := bits BinOp.andNot IntKind.u32 s 33554430 == 0

theorem ret_bool {a b : Bool} (h : a = b) : Ending.returned (.bool a) = .returned (.bool b) := by rw [h]
theorem ret_intk {k : IntKind} {a b : Int} (h : a = b) : Ending.returned (.int k a) = .returned (.int k b) := by rw [h]

theorem idB_true {n : Int} (h1 : 1 ≤ n) (h2 : n ≤ 24) : idB n = true := by simp [idB, h1, h2]
theorem idB_false {n : Int} (h : ¬ (1 ≤ n ∧ n ≤ 24)) : idB n = false := by simp [idB]; omega

theorem isId_any (n : Int) (w : World) : Calls Tryz.prog 99 #[.int .i64 n] w fun e w' => e = .returned (.bool (idB n)) ∧ w = w' := by
  by_cases h1 : 1 ≤ n
  · by_cases h2 : n ≤ 24
    · go_enter Tryz.func99, Tryz.ntmps99
      go_wp2
      go_ret
      exact ⟨by simp [idB, h1, h2], rfl⟩
    · go_enter Tryz.func99, Tryz.ntmps99
      go_wp2
      go_ret
      exact ⟨by simp [idB, h2], rfl⟩
  · go_enter Tryz.func99, Tryz.ntmps99
    go_wp2
    go_ret
    exact ⟨by simp [idB]; omega, rfl⟩

theorem has_any (s n : Int) (w : World) (h0 : 0 ≤ s) (hs : s ≤ 4294967295) : Calls Tryz.prog 98 #[.int .u32 s, .int .i64 n] w fun e w' => e = .returned (.bool (hasB s n)) ∧ w = w' := by
  by_cases h : 1 ≤ n ∧ n ≤ 24
  · obtain ⟨h1, h2⟩ := h
    go_enter Tryz.func98, Tryz.ntmps98
    go_wp2
    go_ret
    exact ⟨by simp [hasB, idB_true h1 h2], rfl⟩
  · have hf := Lib.hid (idB_false h)
    by_cases h1 : 1 ≤ n
    all_goals
      go_enter Tryz.func98, Tryz.ntmps98
      go_wp2
      go_ret
      exact ⟨by simp [hasB, hf.out], rfl⟩

theorem without_any (s n : Int) (w : World) (h0 : 0 ≤ s) (hs : s ≤ 4294967295) : Calls Tryz.prog 61 #[.int .u32 s, .int .i64 n] w fun e w' => e = .returned (.int .u32 (sWithout s n)) ∧ w = w' := by
  by_cases h : 1 ≤ n ∧ n ≤ 24
  · obtain ⟨h1, h2⟩ := h
    go_enter Tryz.func61, Tryz.ntmps61
    go_wp2
    go_ret
    exact ⟨by simp [sWithout, idB_true h1 h2], rfl⟩
  · have hf := Lib.hid (idB_false h)
    rcases (by omega : n < 1 ∨ (1 ≤ n ∧ 24 < n)) with h1 | ⟨h1, h2⟩
    · clear h
      go_enter Tryz.func61, Tryz.ntmps61
      go_wp2
      go_ret
      exact ⟨by simp [sWithout, hf.out], rfl⟩
    · clear h
      have hd : decide (n ≤ 24) = false := by simp; omega
      go_enter Tryz.func61, Tryz.ntmps61
      go_wp2
      go_ret
      exact ⟨by simp [sWithout, hf.out], rfl⟩

theorem with_any (s n : Int) (w : World) (h0 : 0 ≤ s) (hs : s ≤ 4294967295) : Calls Tryz.prog 62 #[.int .u32 s, .int .i64 n] w fun e w' => e = .returned (.int .u32 (sWith s n)) ∧ w = w' := by
  by_cases h : 1 ≤ n ∧ n ≤ 24
  · obtain ⟨h1, h2⟩ := h
    go_enter Tryz.func62, Tryz.ntmps62
    go_wp2
    go_ret
    exact ⟨by simp [sWith, idB_true h1 h2], rfl⟩
  · have hf := Lib.hid (idB_false h)
    rcases (by omega : n < 1 ∨ (1 ≤ n ∧ 24 < n)) with h1 | ⟨h1, h2⟩
    · clear h
      go_enter Tryz.func62, Tryz.ntmps62
      go_wp2
      go_ret
      exact ⟨by simp [sWith, hf.out], rfl⟩
    · clear h
      have hd : decide (n ≤ 24) = false := by simp; omega
      go_enter Tryz.func62, Tryz.ntmps62
      go_wp2
      go_ret
      exact ⟨by simp [sWith, hf.out], rfl⟩

theorem sigIs_any (s : Int) (w : World) (h0 : 0 ≤ s) (hs : s ≤ 4294967295) : Calls Tryz.prog 74 #[.int .u32 s] w fun e w' => e = .returned (.bool (sIs s)) ∧ w = w' := by
  go_enter Tryz.func74, Tryz.ntmps74
  go_wp2
  go_ret
  exact ⟨rfl, rfl⟩

def letB (b : Int) : Bool := decide (97 ≤ b ∧ b ≤ 122)
theorem isLetter_any (b : Int) (w : World) (h0 : 0 ≤ b) (hs : b ≤ 255) : Calls Tryz.prog 129 #[.int .u8 b] w fun e w' => e = .returned (.bool (letB b)) ∧ w = w' := by
  by_cases h1 : 97 ≤ b
  · by_cases h2 : b ≤ 122
    all_goals
      go_enter Tryz.func129, Tryz.ntmps129
      go_wp2
      go_ret
      exact ⟨by simp [letB, h1, h2], rfl⟩
  · go_enter Tryz.func129, Tryz.ntmps129
    go_wp2
    go_ret
    exact ⟨by simp [letB]; omega, rfl⟩

def kindB (k : Int) : Bool := decide (1 ≤ k ∧ k ≤ 10)
theorem isKind_any (k : Int) (w : World) : Calls Tryz.prog 142 #[.int .i64 k] w fun e w' => e = .returned (.bool (kindB k)) ∧ w = w' := by
  by_cases h1 : 1 ≤ k
  · by_cases h2 : k ≤ 10
    all_goals
      go_enter Tryz.func142, Tryz.ntmps142
      go_wp2
      go_ret
      exact ⟨by simp [kindB, h1, h2], rfl⟩
  · go_enter Tryz.func142, Tryz.ntmps142
    go_wp2
    go_ret
    exact ⟨by simp [kindB]; omega, rfl⟩

end Go.Proofs.YtoadihebdaooaaaGreat
