/- Contracts of the kinds' sizes. -/
import Derived.Test.YtoadihebdaooaaaGreatA1
namespace Go.Proofs.YtoadihebdaooaaaGreat
open Go.RowKit
set_option linter.unusedVariables false

def shapesObj : Obj := Obj.cells
        #[Value.string { data := #[] }, Value.int IntKind.i64 0, Value.bool false,
          Value.string { data := #[98, 111, 111, 108] }, Value.int IntKind.i64 1, Value.bool false,
          Value.string { data := #[105, 56] }, Value.int IntKind.i64 1, Value.bool true,
          Value.string { data := #[105, 49, 54] }, Value.int IntKind.i64 2, Value.bool true,
          Value.string { data := #[105, 51, 50] }, Value.int IntKind.i64 4, Value.bool true,
          Value.string { data := #[105, 54, 52] }, Value.int IntKind.i64 8, Value.bool true,
          Value.string { data := #[117, 56] }, Value.int IntKind.i64 1, Value.bool false,
          Value.string { data := #[117, 49, 54] }, Value.int IntKind.i64 2, Value.bool false,
          Value.string { data := #[117, 51, 50] }, Value.int IntKind.i64 4, Value.bool false,
          Value.string { data := #[117, 54, 52] }, Value.int IntKind.i64 8, Value.bool false,
          Value.string { data := #[114, 101, 102] }, Value.int IntKind.i64 8, Value.bool false]
        241
set_option maxRecDepth 100000 in
theorem shapes_any (w : World) : Calls Tryz.prog 167 #[] w fun e w' => e = .returned (.slice (some ⟨w.heap.size, 0, none⟩) 11 11) ∧ w.alloc shapesObj = w' := by
  go_enter Tryz.func167, Tryz.ntmps167
  go_wp2
  go_ret
  exact ⟨rfl, rfl⟩

/-- The size of a kind's elements. -/
def kSize (k : Int) : Int := if k = 1 then 1 else if k = 2 then 1 else if k = 3 then 2 else if k = 4 then 4 else if k = 5 then 8 else if k = 6 then 1 else if k = 7 then 2 else if k = 8 then 4 else if k = 9 then 8 else if k = 10 then 8 else 0
theorem kSize_zero {k : Int} (h : ¬ (1 ≤ k ∧ k ≤ 10)) : kSize k = 0 := by unfold kSize; repeat (rw [if_neg (by omega)])
theorem kSize_bd (k : Int) : 0 ≤ kSize k ∧ kSize k ≤ 8 := by unfold kSize; repeat' split <;> omega
theorem kindB_true {k : Int} (h1 : 1 ≤ k) (h2 : k ≤ 10) : kindB k = true := by simp [kindB, h1, h2]
theorem kindB_false {k : Int} (h : ¬ (1 ≤ k ∧ k ≤ 10)) : kindB k = false := by simp [kindB]; omega
theorem shapes_cells (W : World) (k : Int) (h1 : 1 ≤ k) (h2 : k ≤ 10) : ∃ s b, (W.alloc shapesObj).cell? ⟨W.heap.size, k.toNat * 3, none⟩ = some (.string s) ∧
    (W.alloc shapesObj).cell? ⟨W.heap.size, k.toNat * 3 + 1, none⟩ = some (.int .i64 (kSize k)) ∧ (W.alloc shapesObj).cell? ⟨W.heap.size, k.toNat * 3 + 2, none⟩ = some (.bool b) := by
  have h' : k = 1 ∨ k = 2 ∨ k = 3 ∨ k = 4 ∨ k = 5 ∨ k = 6 ∨ k = 7 ∨ k = 8 ∨ k = 9 ∨ k = 10 := by omega
  have hh : (W.alloc shapesObj).heap[W.heap.size]? = some shapesObj := heap_alloc_new W _
  rcases h' with rfl | rfl | rfl | rfl | rfl | rfl | rfl | rfl | rfl | rfl
  all_goals
    apply Exists.intro
    apply Exists.intro
    refine ⟨?_, ?_, ?_⟩
    all_goals (unfold World.cell?; rw [hh]; rfl)

/-- The answer of 'of': a shape of this size. -/
def IsShape (k : Int) (w : World) (e : Ending) (w' : World) : Prop := ∃ s b, e = .returned (.agg #[.string s, .int .i64 (kSize k), .bool b]) ∧ Below w.heap.size w w'
theorem of_any (k : Int) (w : World) : Calls Tryz.prog 147 #[.int .i64 k] w (IsShape k w) := by
  by_cases h : 1 ≤ k ∧ k ≤ 10
  · obtain ⟨h1, h2⟩ := h
    obtain ⟨s, b, c0, c1, c2⟩ := shapes_cells (w.alloc (Obj.cells #[Value.string { data := #[] }, Value.int IntKind.i64 0, Value.bool false] 241)) k h1 h2
    rw [World.size_alloc] at c0 c1 c2
    have hk := kindB_true h1 h2
    go_enter Tryz.func147, Tryz.ntmps147
    go_wp2_with (first | (go_at_call 167; refine (shapes_any _).mono ?_; rintro e w' ⟨rfl, rfl⟩) | (go_at_call 142; refine (isKind_any _ _).mono ?_; rintro e w' ⟨rfl, rfl⟩))
    go_returns
    exact ⟨s, b, rfl, by go_grown⟩
  · have hk := kindB_false h
    have hz := Lib.hid (kSize_zero h)
    go_enter Tryz.func147, Tryz.ntmps147
    go_wp2_with (first | (go_at_call 167; refine (shapes_any _).mono ?_; rintro e w' ⟨rfl, rfl⟩) | (go_at_call 142; refine (isKind_any _ _).mono ?_; rintro e w' ⟨rfl, rfl⟩))
    go_returns
    exact ⟨_, _, by rw [hz.out], by go_grown⟩
end Go.Proofs.YtoadihebdaooaaaGreat
