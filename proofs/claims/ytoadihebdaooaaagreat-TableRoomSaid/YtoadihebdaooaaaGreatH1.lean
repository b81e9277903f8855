/- A region that draws its order, each operation of which leaves what was there as it was (it reads, calls, makes memory): one fact an operation, in whatever order. -/
import Derived.Test.YtoadihebdaooaaaGreatH0
import Derived.Test.YtoadihebdaooaaaGreatA7
import Derived.Orders
import Derived.BigFrame
namespace Go.Proofs.YtoadihebdaooaaaGreat
open Go.RowKit
set_option linter.unusedVariables false

section
variable {P : Program} {l : List Oper} {Q : Exit → Act → World → Prop} {a0 : Act} {w0 : World} {R : Nat → Value → World → Prop}

theorem wpList_load_rowG {ops : Array Oper} {rest : List Oper} {o : Oper} {a : Act} {w : World} {Q : Exit → Act → World → Prop} (hw : Region.wanted o (yielded ops a.tmps) = true) (ty : TypeId) (x : Operand) (ho : o.op = .load ty x)
    (g : Nat) (hx : a.eval x = .pointer (some ⟨g, 0, none⟩)) (t : TypeId) (cs : Array Value) (fr : Nat × Nat) (d : TypeDesc) (hg : w.heap[g]? = some (.cells cs t fr))
    (hu : P.underlying ty = some d) (hd : (match d with | .struct _ | .array _ _ => true | _ => false) = true) (hi : (P.info? ty).map (·.size) = some cs.size)
    (h : wpList P ops Q rest (a.put o.dst (.agg cs)) w) : wpList P ops Q (o :: rest) a w :=
  BigFrame.wpList_want hw fun _ hK => wp_load_row ty x ho g hx t cs fr d hg hu hd hi (hK _ _ h)
/-- A frame in which each operation has laid its value. -/
def putAll (vs : Nat → Value) : Nat → List Oper → Act → Act
  | _, [], a => a
  | k, o :: r, a => putAll vs (k + 1) r (a.put o.dst (vs k))
def noDup : List Oper → Bool
  | [] => true
  | o :: r => (match o.dst with | none => true | some d => r.all fun x => x.dst != some d) && noDup r
def edgesB : Nat → List Oper → Bool
  | _, [] => true
  | k, o :: r => (o.after.all fun e => !(Region.binds .any e) || decide (e.on < k)) && edgesB (k + 1) r
def updV (vs : Nat → Value) (i : Nat) (v : Value) : Nat → Value := fun j => if j = i then v else vs j

theorem put_put_same (a : Act) (d : Option Tmp) (v u : Value) : (a.put d v).put d u = a.put d u := by
  cases d with
  | none => rfl
  | some d => simp [Act.put, Array.setIfInBounds_setIfInBounds]
theorem putAll_congr {vs vs' : Nat → Value} : ∀ (l : List Oper) (k : Nat) (a : Act), (∀ j, k ≤ j → vs j = vs' j) → putAll vs k l a = putAll vs' k l a
  | [], _, _, _ => rfl
  | o :: r, k, a, h => by
    unfold putAll
    rw [h k (Nat.le_refl k)]
    exact putAll_congr r (k + 1) _ (fun j hj => h j (by omega))
theorem putAll_put {vs : Nat → Value} {d : Tmp} {v : Value} : ∀ (l : List Oper) (k : Nat) (a : Act), (l.all fun x => x.dst != some d) = true → (putAll vs k l a).put (some d) v = putAll vs k l (a.put (some d) v)
  | [], _, _, _ => rfl
  | o :: r, k, a, h => by
    rw [List.all_cons, Bool.and_eq_true] at h
    unfold putAll
    rw [putAll_put r (k + 1) _ h.2]
    congr 1
    refine Act.put_comm a _ _ (fun d' hd hd' => ?_)
    have := h.1
    rw [hd] at this
    cases hd'
    simp at this
theorem putAll_upd {vs : Nat → Value} {v : Value} : ∀ (l : List Oper) (k i : Nat) (a : Act) (o : Oper), noDup l = true → l[i]? = some o → (putAll vs k l a).put o.dst v = putAll (updV vs (k + i) v) k l a
  | [], _, _, _, _, _, h => by simp at h
  | x :: r, k, 0, a, o, hn, h => by
    simp at h
    subst h
    unfold noDup at hn
    rw [Bool.and_eq_true] at hn
    unfold putAll
    have e : updV vs (k + 0) v k = v := by simp [updV]
    rw [e]
    have e2 : ∀ a', putAll vs (k + 1) r a' = putAll (updV vs (k + 0) v) (k + 1) r a' := fun a' => putAll_congr r (k + 1) a' (fun j hj => by unfold updV; rw [if_neg (by omega)])
    cases hd : x.dst with
    | none => rw [show a.put none (vs k) = a from rfl, show a.put none v = a from rfl, ← e2]; rfl
    | some d =>
      have hr := hn.1
      rw [hd] at hr
      rw [putAll_put r (k + 1) _ hr, put_put_same, e2]
  | x :: r, k, i + 1, a, o, hn, h => by
    unfold noDup at hn
    rw [Bool.and_eq_true] at hn
    unfold putAll
    have e : updV vs (k + (i + 1)) v k = vs k := by unfold updV; rw [if_neg (by omega)]
    rw [e, putAll_upd r (k + 1) i _ o hn.2 (by simpa using h), show k + 1 + i = k + (i + 1) by omega]
theorem edges_at : ∀ (l : List Oper) (k i : Nat) (o : Oper), edgesB k l = true → l[i]? = some o → ∀ e ∈ o.after, Region.binds .any e = true → e.on < k + i
  | [], _, _, _, _, h => by simp at h
  | x :: r, k, 0, o, hb, h => by
    simp at h
    subst h
    unfold edgesB at hb
    rw [Bool.and_eq_true, Array.all_eq_true_iff_forall_mem] at hb
    intro e he hbd
    have := hb.1 e he
    rw [hbd] at this
    simp at this
    omega
  | x :: r, k, i + 1, o, hb, h => by
    unfold edgesB at hb
    rw [Bool.and_eq_true] at hb
    intro e he hbd
    have := edges_at r (k + 1) i o hb.2 (by simpa using h) e he hbd
    omega

theorem all_listed {listed : Array Bool} (he : edgesB 0 l = true) (hs : listed.size = l.length) (hr : Region.ready .any l.toArray listed = []) : ∀ i, i < l.length → listed.getD i true = true := by
  intro i
  induction i using Nat.strongRecOn with
  | _ i ih =>
    intro hi
    cases hl : listed.getD i true with
    | true => rfl
    | false =>
      exfalso
      have : i ∈ Region.ready .any l.toArray listed := mem_ready.2 ⟨hl, l[i], by simp [hi], fun e hm hb => by
        have hlt := edges_at l 0 i _ he (List.getElem?_eq_getElem hi) e hm hb
        have := ih e.on (by omega) (by omega)
        have hlt2 : e.on < listed.size := by omega
        simpa [hlt2] using this⟩
      rw [hr] at this
      cases this
def falses (listed : Array Bool) : Nat := listed.toList.countP (fun b => !b)
theorem falses_set {listed : Array Bool} {i : Nat} (h : listed.getD i true = false) : falses listed = falses (listed.setIfInBounds i true) + 1 := by
  unfold falses
  rw [Array.toList_setIfInBounds]
  have hi : i < listed.toList.length := by
    rcases Nat.lt_or_ge i listed.size with h' | h'
    · simpa using h'
    · simp [Array.getElem?_eq_none h'] at h
  have hv : listed.toList[i]? = some false := by
    have : i < listed.size := by simpa using hi
    simp [this] at h
    simp [this, h]
  have e := List.take_append_drop i listed.toList
  have hset : listed.toList.set i true = listed.toList.take i ++ true :: listed.toList.drop (i + 1) := by
    rw [List.set_eq_take_append_cons_drop, if_pos hi]
  have hold : listed.toList = listed.toList.take i ++ false :: listed.toList.drop (i + 1) := by
    conv => lhs; rw [← e]
    rw [drop_get hv]
  rw [hset]
  conv => lhs; rw [hold]
  simp [List.countP_append]
  omega

theorem wpAny_grow (hn : noDup l = true) (he : edgesB 0 l = true) (stable : ∀ i v w w', R i v w → Below w.heap.size w w' → R i v w')
    (step : ∀ (vs : Nat → Value) (w : World) (i : Nat) (o : Oper), Below w0.heap.size w0 w → l[i]? = some o → (∀ e ∈ o.after, Region.binds .any e = true → R e.on (vs e.on) w) →
      if Region.wanted o (yielded l.toArray (putAll vs 0 l a0).tmps) = true then o.wp P (putAll vs 0 l a0) w (fun a' w' => ∃ v, a' = (putAll vs 0 l a0).put o.dst v ∧ R i v w' ∧ Below w.heap.size w w') Q else R i undef w)
    (fin : ∀ (vs : Nat → Value) (w : World), Below w0.heap.size w0 w → (∀ i, i < l.length → R i (vs i) w) → Q .normal (putAll vs 0 l a0) w) :
    ∀ (fuel : Nat) (listed : Array Bool) (vs : Nat → Value) (w : World), listed.size = l.length → falses listed = fuel → (∀ i, listed.getD i false = true → R i (vs i) w) → Below w0.heap.size w0 w →
      wpAny P .any l.toArray Q fuel listed (putAll vs 0 l a0) w := by
  have done : ∀ (listed : Array Bool) (vs : Nat → Value) (w : World), listed.size = l.length → (∀ i, listed.getD i false = true → R i (vs i) w) → Below w0.heap.size w0 w → Region.ready .any l.toArray listed = [] → Q .normal (putAll vs 0 l a0) w := by
    intro listed vs w hs hR hb hr
    refine fin vs w hb (fun i hi => hR i ?_)
    have := all_listed he hs hr i hi
    have hlt : i < listed.size := by omega
    simpa [hlt] using this
  intro fuel
  induction fuel with
  | zero =>
    intro listed vs w hs hf hR hb
    have hr : Region.ready .any l.toArray listed = [] := by
      cases hq : Region.ready .any l.toArray listed with
      | nil => rfl
      | cons x xs =>
        exfalso
        have hx : x ∈ Region.ready .any l.toArray listed := by rw [hq]; simp
        have := falses_set (mem_ready.1 hx).1
        omega
    exact ⟨hr, done listed vs w hs hR hb hr⟩
  | succ fuel ih =>
    intro listed vs w hs hf hR hb
    refine ⟨done listed vs w hs hR hb, fun i hi => ?_⟩
    obtain ⟨h0, o, ho, hall⟩ := mem_ready.1 hi
    have ho' : l[i]? = some o := by simpa using ho
    have hst := step vs w i o hb ho' (fun e hm hbd => hR e.on (hall e hm hbd))
    have next : ∀ (v : Value) (w' : World), R i v w' → Below w.heap.size w w' → wpAny P .any l.toArray Q fuel (listed.setIfInBounds i true) ((putAll vs 0 l a0).put o.dst v) w' := by
      intro v w' hv hbw
      rw [putAll_upd l 0 i a0 o hn ho', Nat.zero_add]
      refine ih _ _ _ (by simpa using hs) (by have := falses_set h0; omega) (fun j hj => ?_) (hb.trans (hbw.mono hb.size))
      by_cases hji : j = i
      · subst hji; simpa [updV] using hv
      · rw [getD_set_ne false (Ne.symm hji)] at hj
        unfold updV
        rw [if_neg hji]
        exact stable j _ w w' (hR j hj) hbw
    unfold wpOp
    simp only [ho]
    split
    · rename_i hw
      rw [if_pos hw] at hst
      exact .inl (Oper.wp_mono (fun a' w' ⟨v, ha, hv, hbw⟩ => by rw [ha]; exact next v w' hv hbw) hst)
    · rename_i hw
      rw [if_neg hw] at hst
      exact next undef w hst (Below.refl _ _)
theorem putAll_self : ∀ (l : List Oper) (k : Nat), ∃ vs : Nat → Value, putAll vs k l a0 = a0
  | [], k => ⟨fun _ => undef, rfl⟩
  | o :: r, k => by
    obtain ⟨vs, h⟩ := putAll_self r (k + 1)
    refine ⟨updV vs k (match o.dst with | some d => a0.tmps.getD d undef | none => undef), ?_⟩
    unfold putAll
    have e : a0.put o.dst (updV vs k (match o.dst with | some d => a0.tmps.getD d undef | none => undef) k) = a0 := by
      cases hd : o.dst with
      | none => rfl
      | some d =>
        unfold Act.put updV
        simp only [if_true]
        have : a0.tmps.setIfInBounds d (a0.tmps.getD d undef) = a0.tmps := by
          apply Array.ext_getElem?
          intro j
          by_cases hj : d = j
          · subst hj
            rw [Array.getElem?_setIfInBounds]
            rcases Nat.lt_or_ge d a0.tmps.size with h' | h'
            · simp [h']
            · simp [Array.getElem?_eq_none h']; omega
          · rw [Array.getElem?_setIfInBounds_ne hj]
        rw [this]
    rw [e]
    rw [putAll_congr (vs' := vs) r (k + 1) a0 (fun j hj => by unfold updV; rw [if_neg (by omega)])]
    exact h
/-! ### The rule's steps -/
/-- What a step owes. -/
def StepGoal (P : Program) (l : List Oper) (o : Oper) (a : Act) (w : World) (R : Value → World → Prop) (Q : Exit → Act → World → Prop) : Prop :=
  if Region.wanted o (yielded l.toArray a.tmps) = true then o.wp P a w (fun a' w' => ∃ v, a' = a.put o.dst v ∧ R v w' ∧ Below w.heap.size w w') Q else R undef w
theorem step_open {o : Oper} {a : Act} {w : World} {R : Value → World → Prop} (hg : o.guard = none) (h : o.wp P a w (fun a' w' => ∃ v, a' = a.put o.dst v ∧ R v w' ∧ Below w.heap.size w w') Q) : StepGoal P l o a w R Q := by
  unfold StepGoal
  rw [if_pos (by simp [Region.wanted, hg])]
  exact h
theorem step_value {o : Oper} {a : Act} {w : World} {R : Value → World → Prop} {v : Value} (hg : o.guard = none) (hv : (execOp a.eval o).run P w = .ok (.value v) w) (hR : R v w) : StepGoal P l o a w R Q := by
  refine step_open hg ?_
  unfold Oper.wp
  rw [hv]
  exact ⟨v, rfl, hR, Below.refl _ _⟩
/-- The rule. -/
theorem wp_region_grow {id : Nat} (hm : P.follows .mixedOrders = true) (hn : noDup l = true) (he : edgesB 0 l = true) (R : Nat → Value → World → Prop) (stable : ∀ i v w w', R i v w → Below w.heap.size w w' → R i v w')
    (step : ∀ (vs : Nat → Value) (w : World) (i : Nat) (o : Oper), Below w0.heap.size w0 w → l[i]? = some o → (∀ e ∈ o.after, Region.binds .any e = true → R e.on (vs e.on) w) →
      StepGoal P l o (putAll vs 0 l a0) w (R i) Q)
    (fin : ∀ (vs : Nat → Value) (w : World), Below w0.heap.size w0 w → (∀ i, i < l.length → R i (vs i) w) → Q .normal (putAll vs 0 l a0) w) :
    (Code.region id l.toArray true).wp P Q a0 w0 := by
  refine wp_region_any hm ?_
  obtain ⟨vs, h⟩ := putAll_self (a0 := a0) l 0
  have hfl : falses (Array.replicate l.toArray.size false) = l.toArray.size := by simp [falses, List.countP_replicate]
  have := wpAny_grow (w0 := w0) (a0 := a0) hn he stable step fin l.toArray.size (Array.replicate l.toArray.size false) vs { w0 with drawn := w0.drawn + 1 } (by simp) hfl (fun i hi => by
    exfalso
    by_cases h' : i < l.length
    · simp [h'] at hi
    · simp [h'] at hi) ⟨rfl, rfl, rfl, Nat.le_refl _, fun _ _ => rfl⟩
  rw [h] at this
  exact this

/-- Facts that last while memory only grows. -/
def Lasts (p : Value → World → Prop) : Prop := ∀ v w w', p v w → Below w.heap.size w w' → p v w'
def IsV (x : Value) : Value → World → Prop := fun v _ => v = x
theorem lasts_v (x : Value) : Lasts (IsV x) := fun _ _ _ h _ => h
/-- A new slice, known whole. -/
def IsRow (cs : Array Value) (n : Nat) (e : TypeId) : Value → World → Prop := fun v w => ∃ q, v = .slice (some ⟨q, 0, none⟩) n n ∧ w.heap[q]? = some (.cells cs e (0, 0))
theorem lasts_row (cs : Array Value) (n : Nat) (e : TypeId) : Lasts (IsRow cs n e) := fun _ _ _ ⟨q, hv, hq⟩ hb => ⟨q, hv, keep hb hq⟩
def byList (ps : List (Value → World → Prop)) (i : Nat) : Value → World → Prop := (ps[i]?).getD fun _ _ => True
theorem lasts_list {ps : List (Value → World → Prop)} (h : ∀ p ∈ ps, Lasts p) : ∀ i v w w', byList ps i v w → Below w.heap.size w w' → byList ps i v w' := by
  intro i v w w' hv hb
  unfold byList at *
  cases hp : ps[i]? with
  | none => simp
  | some p =>
    rw [hp] at hv
    exact h p (List.mem_of_getElem? hp) v w w' hv hb
end
section
variable {P : Program} {l : List Oper} {Q : Exit → Act → World → Prop}
theorem step_openG {o : Oper} {a : Act} {w : World} {R : Value → World → Prop} (hw : Region.wanted o (yielded l.toArray a.tmps) = true) (h : o.wp P a w (fun a' w' => ∃ v, a' = a.put o.dst v ∧ R v w' ∧ Below w.heap.size w w') Q) : StepGoal P l o a w R Q := by
  unfold StepGoal
  rw [if_pos hw]
  exact h
end
end Go.Proofs.YtoadihebdaooaaaGreat
