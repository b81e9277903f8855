/- The rule wp_region_grow with the frame as a letter: for regions in great frames. -/
import Derived.Test.YtoadihebdaooaaaGreatH5
namespace Go.Proofs.YtoadihebdaooaaaGreat
open Go.RowKit
set_option linter.unusedVariables false
section
variable {P : Program} {l : List Oper} {Q : Exit → Act → World → Prop} {a0 : Act} {w0 : World}
theorem putAll_size {vs : Nat → Value} : ∀ (l : List Oper) (k : Nat) (a : Act), (putAll vs k l a).tmps.size = a.tmps.size
  | [], _, _ => rfl
  | o :: r, k, a => by
    unfold putAll
    rw [putAll_size r (k + 1) _]
    cases o.dst <;> simp [Act.put]
theorem putAll_miss {vs : Nat → Value} {d : Nat} : ∀ (l : List Oper) (k : Nat) (a : Act), (l.all fun o => o.dst != some d) = true → (putAll vs k l a).tmps[d]? = a.tmps[d]?
  | [], _, _, _ => rfl
  | o :: r, k, a, h => by
    rw [List.all_cons, Bool.and_eq_true] at h
    unfold putAll
    rw [putAll_miss r (k + 1) _ h.2]
    cases hd : o.dst with
    | none => rfl
    | some e =>
      have : e ≠ d := fun he => by subst he; rw [hd] at h; simp at h
      simp [Act.put, this]
theorem putAll_hit {vs : Nat → Value} {j d : Nat} {o : Oper} (hn : noDup l = true) (ho : l[j]? = some o) (hd : o.dst = some d) (hs : d < a0.tmps.size) : (putAll vs 0 l a0).tmps[d]? = some (vs j) := by
  have h := putAll_upd (vs := vs) (v := vs j) l 0 j a0 o hn ho
  have e : putAll (updV vs (0 + j) (vs j)) 0 l a0 = putAll vs 0 l a0 := putAll_congr l 0 a0 (fun i _ => by
    unfold updV
    by_cases hi : i = 0 + j
    · rw [if_pos hi, hi, Nat.zero_add]
    · rw [if_neg hi])
  rw [e] at h
  rw [← h, hd]
  have hs' : d < (putAll vs 0 l a0).tmps.size := by rw [putAll_size]; exact hs
  simp [Act.put, hs']
/-- What a frame is while a region draws. -/
structure FrameIs (l : List Oper) (vs : Nat → Value) (a0 A : Act) : Prop where
  hit : ∀ (j d : Nat), (l[j]?).bind (·.dst) = some d → d < a0.tmps.size → A.tmps[d]? = some (vs j)
  miss : ∀ (d : Nat), (l.all fun o => o.dst != some d) = true → A.tmps[d]? = a0.tmps[d]?
theorem frameIs_put (hn : noDup l = true) (vs : Nat → Value) : FrameIs l vs a0 (putAll vs 0 l a0) := by
  refine ⟨fun j d h hs => ?_, fun d h => putAll_miss l 0 a0 h⟩
  cases ho : l[j]? with
  | none => rw [ho] at h; cases h
  | some o => rw [ho] at h; exact putAll_hit hn ho h hs
/-- The rule. -/
theorem wp_region_frame {id : Nat} (hm : P.follows .mixedOrders = true) (hn : noDup l = true) (he : edgesB 0 l = true) (R : Nat → Value → World → Prop) (stable : ∀ i v w w', R i v w → Below w.heap.size w w' → R i v w')
    (step : ∀ (vs : Nat → Value) (w : World) (i : Nat) (o : Oper) (A : Act), FrameIs l vs a0 A → Below w0.heap.size w0 w → l[i]? = some o → (∀ e ∈ o.after, Region.binds .any e = true → R e.on (vs e.on) w) → StepGoal P l o A w (R i) Q)
    (fin : ∀ (vs : Nat → Value) (w : World), Below w0.heap.size w0 w → (∀ i, i < l.length → R i (vs i) w) → Q .normal (putAll vs 0 l a0) w) :
    (Code.region id l.toArray true).wp P Q a0 w0 :=
  wp_region_grow hm hn he R stable (fun vs w i o hb ho hd => step vs w i o _ (frameIs_put hn vs) hb ho hd) fin
theorem FrameIs.m {vs : Nat → Value} {A : Act} (F : FrameIs l vs a0 A) {d : Nat} {v : Value} (h1 : (l.all fun o => o.dst != some d) = true) (hv : a0.tmps[d]? = some v) : A.tmps[d]?.getD undef = v := by
  rw [F.miss d h1, hv]; rfl
/-- The same without the frame that was. -/
def FrameL (l : List Oper) (vs : Nat → Value) (n : Nat) (A : Act) : Prop := ∀ (j d : Nat), (l[j]?).bind (·.dst) = some d → d < n → A.tmps[d]? = some (vs j)
theorem FrameIs.light {vs : Nat → Value} {A : Act} (F : FrameIs l vs a0 A) {n : Nat} (h : a0.tmps.size = n) : FrameL l vs n A := fun j d h1 h2 => F.hit j d h1 (by rw [h]; exact h2)
theorem FrameL.h {vs : Nat → Value} {A : Act} {n : Nat} (F : FrameL l vs n A) {j d : Nat} {v : Value} (h1 : (l[j]?).bind (·.dst) = some d) (h2 : d < n) (hv : vs j = v) : A.tmps[d]?.getD undef = v := by
  rw [F j d h1 h2, hv]; rfl
theorem frame_wanted {vs : Nat → Value} {A : Act} {n : Nat} (F : FrameL l vs n A) {o : Oper} {g d : Nat} {b c : Bool} (hg : o.guard = some (g, b)) (h1 : (l[g]?).bind (·.dst) = some d) (h2 : d < n) (hv : vs g = .bool c) :
    Region.wanted o (yielded l.toArray A.tmps) = (c == b) := by
  unfold Region.wanted yielded
  rw [hg]
  simp only [List.getElem?_toArray]
  rw [h1]
  simp only [Option.bind_some]
  rw [F g d h1 h2, hv]
  cases c <;> cases b <;> rfl
theorem step_yes {vs : Nat → Value} {A : Act} {n : Nat} {w : World} {R : Value → World → Prop} (F : FrameL l vs n A) {o : Oper} {g d : Nat} {b : Bool} (hg : o.guard = some (g, b)) (h1 : (l[g]?).bind (·.dst) = some d) (h2 : d < n) (hv : vs g = .bool b)
    (h : o.wp P A w (fun a' w' => ∃ v, a' = A.put o.dst v ∧ R v w' ∧ Below w.heap.size w w') Q) : StepGoal P l o A w R Q := by
  unfold StepGoal
  rw [if_pos (by rw [frame_wanted F hg h1 h2 hv]; cases b <;> rfl)]
  exact h
theorem step_not {vs : Nat → Value} {A : Act} {n : Nat} {w : World} {R : Value → World → Prop} (F : FrameL l vs n A) {o : Oper} {g d : Nat} {b : Bool} (hg : o.guard = some (g, b)) (h1 : (l[g]?).bind (·.dst) = some d) (h2 : d < n) (hv : vs g = .bool !b)
    (h : R undef w) : StepGoal P l o A w R Q := by
  unfold StepGoal
  rw [if_neg (by rw [frame_wanted F hg h1 h2 hv]; cases b <;> simp)]
  exact h
/-- The end of a region that a cut is laid around (text H5). -/
theorem cut_done {bs : List Bool} {l0 : List Value} {d : List Deferred} {R : (Nat → Value) → World → Prop} {J : Act → World → Prop} (hJ : ∀ (v : List Value) (w' : World), R (nthV v) w' → mixF bs (nthV v) 0 l0 = v → J ⟨v.toArray, d⟩ w') (A : Act) (w' : World)
    (hd : A.defers = d) (hR : R (nthV A.tmps.toList) w') (hm : mixF bs (nthV A.tmps.toList) 0 l0 = A.tmps.toList) : J A w' := by
  have h := hJ _ _ hR hm
  cases A
  subst hd
  simpa using h
/-- An operation that reads. -/
theorem step_run {A : Act} {w : World} {R : Value → World → Prop} {o : Oper} {v : Value} (hv : (execOp A.eval o).run P w = .ok (.value v) w) (hR : R v w) :
    o.wp P A w (fun a' w' => ∃ v, a' = A.put o.dst v ∧ R v w' ∧ Below w.heap.size w w') Q := by
  unfold Oper.wp
  rw [hv]
  exact ⟨v, rfl, hR, Below.refl _ _⟩
end
end Go.Proofs.YtoadihebdaooaaaGreat
