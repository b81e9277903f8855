/- Two tallies compared; the growing rule's guarded steps. -/
import Derived.Test.YtgngpanimeigbabDoorT8
import Derived.Test.YtgngpanimeigbabDoorT10
import Derived.Laws.StructEq
import Derived.DeepKeys
namespace Go.Proofs.YtgngpanimeigbabDoor
open Go.RowKit
set_option linter.unusedVariables false
section
variable {P : Program} {l : List Oper} {Q : Exit → Act → World → Prop}
theorem step_openG {o : Oper} {a : Act} {w : World} {R : Value → World → Prop} (hw : Region.wanted o (yielded l.toArray a.tmps) = true) (h : o.wp P a w (fun a' w' => ∃ v, a' = a.put o.dst v ∧ R v w' ∧ Below w.heap.size w w') Q) : StepGoal P l o a w R Q := by
  unfold StepGoal
  rw [if_pos hw]
  exact h
end
theorem Tryd.co3 : Tryd.prog.cellsOf 3 = 1 := by kernel_rfl
theorem Tryd.co23 : Tryd.prog.cellsOf 23 = 12 := by kernel_rfl
set_option maxRecDepth 100000 in
theorem arr_eql (x : Nat → Int) (hx : ∀ i, I64 (x i)) (w : World) : Sem.run Tryd.prog (Op.equalIn 9999 23 (.agg #[.int .i64 (x 0), .int .i64 (x 1), .int .i64 (x 2), .int .i64 (x 3), .int .i64 (x 4), .int .i64 (x 5), .int .i64 (x 6), .int .i64 (x 7), .int .i64 (x 8), .int .i64 (x 9), .int .i64 (x 10), .int .i64 (x 11)]) (.agg #[.int .i64 (x 0), .int .i64 (x 1), .int .i64 (x 2), .int .i64 (x 3), .int .i64 (x 4), .int .i64 (x 5), .int .i64 (x 6), .int .i64 (x 7), .int .i64 (x 8), .int .i64 (x 9), .int .i64 (x 10), .int .i64 (x 11)])) w = .ok true w := by
  have hk : Tryd.prog.keyTypeAt 2 23 = true := by kernel_rfl
  have e : Tryd.prog.keyLits 2 23 [.int .i64 (x 0), .int .i64 (x 1), .int .i64 (x 2), .int .i64 (x 3), .int .i64 (x 4), .int .i64 (x 5), .int .i64 (x 6), .int .i64 (x 7), .int .i64 (x 8), .int .i64 (x 9), .int .i64 (x 10), .int .i64 (x 11)] = some [.int .i64 (x 0), .int .i64 (x 1), .int .i64 (x 2), .int .i64 (x 3), .int .i64 (x 4), .int .i64 (x 5), .int .i64 (x 6), .int .i64 (x 7), .int .i64 (x 8), .int .i64 (x 9), .int .i64 (x 10), .int .i64 (x 11)] := by
    have hr : List.range 12 = [0, 1, 2, 3, 4, 5, 6, 7, 8, 9, 10, 11] := rfl
    simp [Program.keyLits, Tryd.underlying23, Tryd.underlying3, Tryd.co3, Tryd.co23, hr, wf_i64 (hx 0), wf_i64 (hx 1), wf_i64 (hx 2), wf_i64 (hx 3), wf_i64 (hx 4), wf_i64 (hx 5), wf_i64 (hx 6), wf_i64 (hx 7), wf_i64 (hx 8), wf_i64 (hx 9), wf_i64 (hx 10), wf_i64 (hx 11)]
  have hf : (Value.agg #[.int .i64 (x 0), .int .i64 (x 1), .int .i64 (x 2), .int .i64 (x 3), .int .i64 (x 4), .int .i64 (x 5), .int .i64 (x 6), .int .i64 (x 7), .int .i64 (x 8), .int .i64 (x 9), .int .i64 (x 10), .int .i64 (x 11)]).formed Tryd.prog 23 = true := by simp [Value.formed, Tryd.underlying23, Tryd.co23]
  obtain ⟨r, h1, h2⟩ := run_equalIn_deep 9997 2 23 hk w 2 2 _ _ _ _ hf hf e e
  rw [h1, h2.2 rfl]
set_option maxRecDepth 100000 in
set_option maxHeartbeats 1000000 in
theorem eql_lit (x : Nat → Int) (hx : ∀ i, I64 (x i)) (a : Act) (y z : Operand) (d : Option Tmp) (ty : TypeId) (pos : String) (af : Array Edge) (gd : Option (Nat × Bool)) (w : World) (h1 : a.eval y = .agg #[.int .i64 (x 0), .int .i64 (x 1), .int .i64 (x 2), .int .i64 (x 3), .int .i64 (x 4), .int .i64 (x 5), .int .i64 (x 6), .int .i64 (x 7), .int .i64 (x 8), .int .i64 (x 9), .int .i64 (x 10), .int .i64 (x 11), .int .i64 (x 12), .int .i64 (x 13), .int .i64 (x 14), .int .i64 (x 15), .int .i64 (x 16), .int .i64 (x 17), .int .i64 (x 18), .int .i64 (x 19), .int .i64 (x 20), .int .i64 (x 21)]) (h2 : a.eval z = .agg #[.int .i64 (x 0), .int .i64 (x 1), .int .i64 (x 2), .int .i64 (x 3), .int .i64 (x 4), .int .i64 (x 5), .int .i64 (x 6), .int .i64 (x 7), .int .i64 (x 8), .int .i64 (x 9), .int .i64 (x 10), .int .i64 (x 11), .int .i64 (x 12), .int .i64 (x 13), .int .i64 (x 14), .int .i64 (x 15), .int .i64 (x 16), .int .i64 (x 17), .int .i64 (x 18), .int .i64 (x 19), .int .i64 (x 20), .int .i64 (x 21)]) :
    (execOp a.eval { dst := d, op := .binOp .eql 25 y z 25, type := ty, pos := pos, after := af, guard := gd }).run Tryd.prog w = .ok (.value (.bool true)) w := by
  have hr := arr_eql x hx
  unfold execOp
  simp only [h1, h2]
  go_simp
theorem agg_eql (t : List Int) (h : t.length = 22) (hx : ∀ i, I64 (gt t i)) (a : Act) (y z : Operand) (d : Option Tmp) (ty : TypeId) (pos : String) (af : Array Edge) (gd : Option (Nat × Bool)) (w : World) (h1 : a.eval y = .agg (tv t)) (h2 : a.eval z = .agg (tv t)) :
    (execOp a.eval { dst := d, op := .binOp .eql 25 y z 25, type := ty, pos := pos, after := af, guard := gd }).run Tryd.prog w = .ok (.value (.bool true)) w := by
  rw [tv_lit t h] at h1 h2
  exact eql_lit (gt t) hx a y z d ty pos af gd w h1 h2
theorem mostAt_i64 (l : List Mk) (h : ∀ m ∈ l, I64 m.rows) : I64 (mostAt l) := by
  induction l with
  | nil => exact ⟨by simp [mostAt], by simp [mostAt]⟩
  | cons m r ih =>
    have h1 := h m (by simp)
    have h2 := ih (fun x hx => h x (by simp [hx]))
    unfold I64 at *
    simp only [mostAt]
    omega
theorem ofF_i64 (l : List Mk) (h : ∀ m ∈ l, I64 m.rows ∧ I64 m.ver) (i : Nat) : I64 (gt (ofF l) i) := by
  rw [ofF_at]
  split
  · exact i64_wrap _
  · split
    · exact mostAt_i64 l (fun m hm => (h m hm).1)
    · split
      · cases hg : l.getLast? with
        | none => exact ⟨by simp, by simp⟩
        | some m => exact (h m (List.mem_of_getLast? hg)).2
      · exact ⟨by omega, by omega⟩
end Go.Proofs.YtgngpanimeigbabDoor
