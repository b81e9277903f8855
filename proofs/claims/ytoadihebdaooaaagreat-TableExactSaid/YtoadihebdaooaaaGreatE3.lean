/- A region that draws its order, each operation of which leaves what was there as it was (it reads, calls, makes memory): one fact an operation, in whatever order. · The rule for growing regions with one operation that comes last in every order: the others are all behind it. · The rule for a region that draws its order, with an invariant of what has been done: most general. · A rule for regions that draw their order, without guards: operations that are known values, and a few that change memory, with an invariant of those. · Rules for loops and cuts in great frames: what is unknown is one function. -/
import Derived.Test.YtoadihebdaooaaaGreatE1
import Derived.Test.YtoadihebdaooaaaGreatE2
import Derived.Orders
import Derived.BigFrame
import Derived.Deep.LoopGhost
import Derived.Deep.Cut
import Derived.Deep.CutBlock
namespace Go.Proofs.YtoadihebdaooaaaGreat
open Go.RowKit
set_option linter.unusedVariables false
section
variable {P : Program} {l : List Oper} {Q : Exit → Act → World → Prop} {a0 : Act} {w0 : World} {R : Nat → Value → World → Prop}
/-- A frame in which each operation has laid its value. -/
def putAll (vs : Nat → Value) : Nat → List Oper → Act → Act
  | _, [], a => a
  | k, o :: r, a => putAll vs (k + 1) r (a.put o.dst (vs k))
def noDup : List Oper → Bool
  | [] => true
  | o :: r => (match o.dst with | none => true | some d => r.all fun x => x.dst != some d) && noDup r
def edgesB : Nat → List Oper → Bool
  | _, [] => true
  | k, o :: r => (o.after.all fun e => !(Region.binds .any e) || decide (e.on < k)) && edgesB (k + 1) r
def updV (vs : Nat → Value) (i : Nat) (v : Value) : Nat → Value := fun j => if j = i then v else vs j
theorem put_put_same (a : Act) (d : Option Tmp) (v u : Value) : (a.put d v).put d u = a.put d u := by
  cases d with
  | none => rfl
  | some d => simp [Act.put, Array.setIfInBounds_setIfInBounds]
theorem putAll_congr {vs vs' : Nat → Value} : ∀ (l : List Oper) (k : Nat) (a : Act), (∀ j, k ≤ j → vs j = vs' j) → putAll vs k l a = putAll vs' k l a
  | [], _, _, _ => rfl
  | o :: r, k, a, h => by
    unfold putAll
    rw [h k (Nat.le_refl k)]
    exact putAll_congr r (k + 1) _ (fun j hj => h j (by omega))
theorem putAll_put {vs : Nat → Value} {d : Tmp} {v : Value} : ∀ (l : List Oper) (k : Nat) (a : Act), (l.all fun x => x.dst != some d) = true → (putAll vs k l a).put (some d) v = putAll vs k l (a.put (some d) v)
  | [], _, _, _ => rfl
  | o :: r, k, a, h => by
    rw [List.all_cons, Bool.and_eq_true] at h
    unfold putAll
    rw [putAll_put r (k + 1) _ h.2]
    congr 1
    refine Act.put_comm a _ _ (fun d' hd hd' => ?_)
    have := h.1
    rw [hd] at this
    cases hd'
    simp at this
theorem putAll_upd {vs : Nat → Value} {v : Value} : ∀ (l : List Oper) (k i : Nat) (a : Act) (o : Oper), noDup l = true → l[i]? = some o → (putAll vs k l a).put o.dst v = putAll (updV vs (k + i) v) k l a
  | [], _, _, _, _, _, h => by simp at h
  | x :: r, k, 0, a, o, hn, h => by
    simp at h
    subst h
    unfold noDup at hn
    rw [Bool.and_eq_true] at hn
    unfold putAll
    have e : updV vs (k + 0) v k = v := by simp [updV]
    rw [e]
    have e2 : ∀ a', putAll vs (k + 1) r a' = putAll (updV vs (k + 0) v) (k + 1) r a' := fun a' => putAll_congr r (k + 1) a' (fun j hj => by unfold updV; rw [if_neg (by omega)])
    cases hd : x.dst with
    | none => rw [show a.put none (vs k) = a from rfl, show a.put none v = a from rfl, ← e2]; rfl
    | some d =>
      have hr := hn.1
      rw [hd] at hr
      rw [putAll_put r (k + 1) _ hr, put_put_same, e2]
  | x :: r, k, i + 1, a, o, hn, h => by
    unfold noDup at hn
    rw [Bool.and_eq_true] at hn
    unfold putAll
    have e : updV vs (k + (i + 1)) v k = vs k := by unfold updV; rw [if_neg (by omega)]
    rw [e, putAll_upd r (k + 1) i _ o hn.2 (by simpa using h), show k + 1 + i = k + (i + 1) by omega]
theorem edges_at : ∀ (l : List Oper) (k i : Nat) (o : Oper), edgesB k l = true → l[i]? = some o → ∀ e ∈ o.after, Region.binds .any e = true → e.on < k + i
  | [], _, _, _, _, h => by simp at h
  | x :: r, k, 0, o, hb, h => by
    simp at h
    subst h
    unfold edgesB at hb
    rw [Bool.and_eq_true, Array.all_eq_true_iff_forall_mem] at hb
    intro e he hbd
    have := hb.1 e he
    rw [hbd] at this
    simp at this
    omega
  | x :: r, k, i + 1, o, hb, h => by
    unfold edgesB at hb
    rw [Bool.and_eq_true] at hb
    intro e he hbd
    have := edges_at r (k + 1) i o hb.2 (by simpa using h) e he hbd
    omega
theorem all_listed {listed : Array Bool} (he : edgesB 0 l = true) (hs : listed.size = l.length) (hr : Region.ready .any l.toArray listed = []) : ∀ i, i < l.length → listed.getD i true = true := by
  intro i
  induction i using Nat.strongRecOn with
  | _ i ih =>
    intro hi
    cases hl : listed.getD i true with
    | true => rfl
    | false =>
      exfalso
      have : i ∈ Region.ready .any l.toArray listed := mem_ready.2 ⟨hl, l[i], by simp [hi], fun e hm hb => by
        have hlt := edges_at l 0 i _ he (List.getElem?_eq_getElem hi) e hm hb
        have := ih e.on (by omega) (by omega)
        have hlt2 : e.on < listed.size := by omega
        simpa [hlt2] using this⟩
      rw [hr] at this
      cases this
def falses (listed : Array Bool) : Nat := listed.toList.countP (fun b => !b)
theorem falses_set {listed : Array Bool} {i : Nat} (h : listed.getD i true = false) : falses listed = falses (listed.setIfInBounds i true) + 1 := by
  unfold falses
  rw [Array.toList_setIfInBounds]
  have hi : i < listed.toList.length := by
    rcases Nat.lt_or_ge i listed.size with h' | h'
    · simpa using h'
    · simp [Array.getElem?_eq_none h'] at h
  have hv : listed.toList[i]? = some false := by
    have : i < listed.size := by simpa using hi
    simp [this] at h
    simp [this, h]
  have e := List.take_append_drop i listed.toList
  have hset : listed.toList.set i true = listed.toList.take i ++ true :: listed.toList.drop (i + 1) := by
    rw [List.set_eq_take_append_cons_drop, if_pos hi]
  have hold : listed.toList = listed.toList.take i ++ false :: listed.toList.drop (i + 1) := by
    conv => lhs; rw [← e]
    rw [drop_get hv]
  rw [hset]
  conv => lhs; rw [hold]
  simp [List.countP_append]
  omega
theorem wpAny_grow (hn : noDup l = true) (he : edgesB 0 l = true) (stable : ∀ i v w w', R i v w → Below w.heap.size w w' → R i v w')
    (step : ∀ (vs : Nat → Value) (w : World) (i : Nat) (o : Oper), Below w0.heap.size w0 w → l[i]? = some o → (∀ e ∈ o.after, Region.binds .any e = true → R e.on (vs e.on) w) →
      if Region.wanted o (yielded l.toArray (putAll vs 0 l a0).tmps) = true then o.wp P (putAll vs 0 l a0) w (fun a' w' => ∃ v, a' = (putAll vs 0 l a0).put o.dst v ∧ R i v w' ∧ Below w.heap.size w w') Q else R i undef w)
    (fin : ∀ (vs : Nat → Value) (w : World), Below w0.heap.size w0 w → (∀ i, i < l.length → R i (vs i) w) → Q .normal (putAll vs 0 l a0) w) :
    ∀ (fuel : Nat) (listed : Array Bool) (vs : Nat → Value) (w : World), listed.size = l.length → falses listed = fuel → (∀ i, listed.getD i false = true → R i (vs i) w) → Below w0.heap.size w0 w →
      wpAny P .any l.toArray Q fuel listed (putAll vs 0 l a0) w := by
  have done : ∀ (listed : Array Bool) (vs : Nat → Value) (w : World), listed.size = l.length → (∀ i, listed.getD i false = true → R i (vs i) w) → Below w0.heap.size w0 w → Region.ready .any l.toArray listed = [] → Q .normal (putAll vs 0 l a0) w := by
    intro listed vs w hs hR hb hr
    refine fin vs w hb (fun i hi => hR i ?_)
    have := all_listed he hs hr i hi
    have hlt : i < listed.size := by omega
    simpa [hlt] using this
  intro fuel
  induction fuel with
  | zero =>
    intro listed vs w hs hf hR hb
    have hr : Region.ready .any l.toArray listed = [] := by
      cases hq : Region.ready .any l.toArray listed with
      | nil => rfl
      | cons x xs =>
        exfalso
        have hx : x ∈ Region.ready .any l.toArray listed := by rw [hq]; simp
        have := falses_set (mem_ready.1 hx).1
        omega
    exact ⟨hr, done listed vs w hs hR hb hr⟩
  | succ fuel ih =>
    intro listed vs w hs hf hR hb
    refine ⟨done listed vs w hs hR hb, fun i hi => ?_⟩
    obtain ⟨h0, o, ho, hall⟩ := mem_ready.1 hi
    have ho' : l[i]? = some o := by simpa using ho
    have hst := step vs w i o hb ho' (fun e hm hbd => hR e.on (hall e hm hbd))
    have next : ∀ (v : Value) (w' : World), R i v w' → Below w.heap.size w w' → wpAny P .any l.toArray Q fuel (listed.setIfInBounds i true) ((putAll vs 0 l a0).put o.dst v) w' := by
      intro v w' hv hbw
      rw [putAll_upd l 0 i a0 o hn ho', Nat.zero_add]
      refine ih _ _ _ (by simpa using hs) (by have := falses_set h0; omega) (fun j hj => ?_) (hb.trans (hbw.mono hb.size))
      by_cases hji : j = i
      · subst hji; simpa [updV] using hv
      · rw [getD_set_ne false (Ne.symm hji)] at hj
        unfold updV
        rw [if_neg hji]
        exact stable j _ w w' (hR j hj) hbw
    unfold wpOp
    simp only [ho]
    split
    · rename_i hw
      rw [if_pos hw] at hst
      exact .inl (Oper.wp_mono (fun a' w' ⟨v, ha, hv, hbw⟩ => by rw [ha]; exact next v w' hv hbw) hst)
    · rename_i hw
      rw [if_neg hw] at hst
      exact next undef w hst (Below.refl _ _)
theorem putAll_self : ∀ (l : List Oper) (k : Nat), ∃ vs : Nat → Value, putAll vs k l a0 = a0
  | [], k => ⟨fun _ => undef, rfl⟩
  | o :: r, k => by
    obtain ⟨vs, h⟩ := putAll_self r (k + 1)
    refine ⟨updV vs k (match o.dst with | some d => a0.tmps.getD d undef | none => undef), ?_⟩
    unfold putAll
    have e : a0.put o.dst (updV vs k (match o.dst with | some d => a0.tmps.getD d undef | none => undef) k) = a0 := by
      cases hd : o.dst with
      | none => rfl
      | some d =>
        unfold Act.put updV
        simp only [if_true]
        have : a0.tmps.setIfInBounds d (a0.tmps.getD d undef) = a0.tmps := by
          apply Array.ext_getElem?
          intro j
          by_cases hj : d = j
          · subst hj
            rw [Array.getElem?_setIfInBounds]
            rcases Nat.lt_or_ge d a0.tmps.size with h' | h'
            · simp [h']
            · simp [Array.getElem?_eq_none h']; omega
          · rw [Array.getElem?_setIfInBounds_ne hj]
        rw [this]
    rw [e]
    rw [putAll_congr (vs' := vs) r (k + 1) a0 (fun j hj => by unfold updV; rw [if_neg (by omega)])]
    exact h
/-! ### The rule's steps -/
/-- What a step owes. -/
def StepGoal (P : Program) (l : List Oper) (o : Oper) (a : Act) (w : World) (R : Value → World → Prop) (Q : Exit → Act → World → Prop) : Prop :=
  if Region.wanted o (yielded l.toArray a.tmps) = true then o.wp P a w (fun a' w' => ∃ v, a' = a.put o.dst v ∧ R v w' ∧ Below w.heap.size w w') Q else R undef w
theorem step_open {o : Oper} {a : Act} {w : World} {R : Value → World → Prop} (hg : o.guard = none) (h : o.wp P a w (fun a' w' => ∃ v, a' = a.put o.dst v ∧ R v w' ∧ Below w.heap.size w w') Q) : StepGoal P l o a w R Q := by
  unfold StepGoal
  rw [if_pos (by simp [Region.wanted, hg])]
  exact h
/-- The rule. -/
theorem wp_region_grow {id : Nat} (hm : P.follows .mixedOrders = true) (hn : noDup l = true) (he : edgesB 0 l = true) (R : Nat → Value → World → Prop) (stable : ∀ i v w w', R i v w → Below w.heap.size w w' → R i v w')
    (step : ∀ (vs : Nat → Value) (w : World) (i : Nat) (o : Oper), Below w0.heap.size w0 w → l[i]? = some o → (∀ e ∈ o.after, Region.binds .any e = true → R e.on (vs e.on) w) →
      StepGoal P l o (putAll vs 0 l a0) w (R i) Q)
    (fin : ∀ (vs : Nat → Value) (w : World), Below w0.heap.size w0 w → (∀ i, i < l.length → R i (vs i) w) → Q .normal (putAll vs 0 l a0) w) :
    (Code.region id l.toArray true).wp P Q a0 w0 := by
  refine wp_region_any hm ?_
  obtain ⟨vs, h⟩ := putAll_self (a0 := a0) l 0
  have hfl : falses (Array.replicate l.toArray.size false) = l.toArray.size := by simp [falses, List.countP_replicate]
  have := wpAny_grow (w0 := w0) (a0 := a0) hn he stable step fin l.toArray.size (Array.replicate l.toArray.size false) vs { w0 with drawn := w0.drawn + 1 } (by simp) hfl (fun i hi => by
    exfalso
    by_cases h' : i < l.length
    · simp [h'] at hi
    · simp [h'] at hi) ⟨rfl, rfl, rfl, Nat.le_refl _, fun _ _ => rfl⟩
  rw [h] at this
  exact this
/-- Facts that last while memory only grows. -/
def Lasts (p : Value → World → Prop) : Prop := ∀ v w w', p v w → Below w.heap.size w w' → p v w'
def IsV (x : Value) : Value → World → Prop := fun v _ => v = x
theorem lasts_v (x : Value) : Lasts (IsV x) := fun _ _ _ h _ => h
def byList (ps : List (Value → World → Prop)) (i : Nat) : Value → World → Prop := (ps[i]?).getD fun _ _ => True
theorem lasts_list {ps : List (Value → World → Prop)} (h : ∀ p ∈ ps, Lasts p) : ∀ i v w w', byList ps i v w → Below w.heap.size w w' → byList ps i v w' := by
  intro i v w w' hv hb
  unfold byList at *
  cases hp : ps[i]? with
  | none => simp
  | some p =>
    rw [hp] at hv
    exact h p (List.mem_of_getElem? hp) v w w' hv hb
end
end Go.Proofs.YtoadihebdaooaaaGreat
namespace Go.Proofs.YtoadihebdaooaaaGreat
open Go.RowKit
set_option linter.unusedVariables false
/-- What an operation waits for. -/
def waitsFor (l : List Oper) (i : Nat) : List Nat := match l[i]? with | some o => (o.after.toList.filter fun e => Region.binds .any e).map (·.on) | none => []
def clos (l : List Oper) : Nat → List Nat → List Nat
  | 0, s => s
  | f + 1, s => clos l f (s ++ s.flatMap (waitsFor l)).eraseDups
theorem clos_ok {l : List Oper} {p : Nat → Prop} (hc : ∀ i, p i → ∀ j ∈ waitsFor l i, p j) : ∀ (f : Nat) (s : List Nat), (∀ x ∈ s, p x) → ∀ x ∈ clos l f s, p x
  | 0, s, h => h
  | f + 1, s, h => by
    unfold clos
    refine clos_ok hc f _ (fun x hx => ?_)
    rw [List.mem_eraseDups] at hx
    rcases List.mem_append.1 hx with hx | hx
    · exact h x hx
    · obtain ⟨y, hy, hxy⟩ := List.mem_flatMap.1 hx
      exact hc y (h y hy) x hxy
section
variable {P : Program} {l : List Oper} {Q : Exit → Act → World → Prop} {a0 : Act} {w0 : World} {R : Nat → Value → World → Prop}
theorem waits_mem {i : Nat} {o : Oper} (ho : l[i]? = some o) {j : Nat} : j ∈ waitsFor l i ↔ ∃ e ∈ o.after, Region.binds .any e = true ∧ e.on = j := by
  unfold waitsFor
  rw [ho]
  simp only [List.mem_map, List.mem_filter, Array.mem_toList_iff]
  constructor
  · rintro ⟨e, ⟨h1, h2⟩, h3⟩; exact ⟨e, h1, h2, h3⟩
  · rintro ⟨e, h1, h2, h3⟩; exact ⟨e, ⟨h1, h2⟩, h3⟩
end
end Go.Proofs.YtoadihebdaooaaaGreat
namespace Go.Proofs.YtoadihebdaooaaaGreat
open Go.RowKit
set_option linter.unusedVariables false
def setB (f : Nat → Bool) (i : Nat) : Nat → Bool := fun j => if j = i then true else f j
section
variable {P : Program} {l : List Oper} {Q : Exit → Act → World → Prop} {a0 : Act} {w0 : World}
theorem wpAny_inv (hn : noDup l = true) (he : edgesB 0 l = true) (I : (Nat → Bool) → (Nat → Value) → World → Prop) (hext : ∀ f g vs w, (∀ i, i < l.length → f i = g i) → I f vs w → I g vs w)
    (step : ∀ (f : Nat → Bool) (vs : Nat → Value) (w : World) (i : Nat) (o : Oper), I f vs w → l[i]? = some o → f i = false → (∀ e ∈ o.after, Region.binds .any e = true → f e.on = true) →
      if Region.wanted o (yielded l.toArray (putAll vs 0 l a0).tmps) = true then o.wp P (putAll vs 0 l a0) w (fun a' w' => ∃ v, a' = (putAll vs 0 l a0).put o.dst v ∧ I (setB f i) (updV vs i v) w') Q else I (setB f i) (updV vs i undef) w)
    (fin : ∀ (vs : Nat → Value) (w : World), I (fun _ => true) vs w → Q .normal (putAll vs 0 l a0) w) :
    ∀ (fuel : Nat) (listed : Array Bool) (vs : Nat → Value) (w : World), listed.size = l.length → falses listed = fuel → I (fun i => listed.getD i false) vs w →
      wpAny P .any l.toArray Q fuel listed (putAll vs 0 l a0) w := by
  have done : ∀ (listed : Array Bool) (vs : Nat → Value) (w : World), listed.size = l.length → I (fun i => listed.getD i false) vs w → Region.ready .any l.toArray listed = [] → Q .normal (putAll vs 0 l a0) w := by
    intro listed vs w hs hI hr
    refine fin vs w (hext _ _ vs w (fun i hi => ?_) hI)
    have := all_listed he hs hr i hi
    have hlt : i < listed.size := by omega
    simpa [hlt] using this
  intro fuel
  induction fuel with
  | zero =>
    intro listed vs w hs hf hI
    have hr : Region.ready .any l.toArray listed = [] := by
      cases hq : Region.ready .any l.toArray listed with
      | nil => rfl
      | cons x xs =>
        exfalso
        have hx : x ∈ Region.ready .any l.toArray listed := by rw [hq]; simp
        have := falses_set (mem_ready.1 hx).1
        omega
    exact ⟨hr, done listed vs w hs hI hr⟩
  | succ fuel ih =>
    intro listed vs w hs hf hI
    refine ⟨done listed vs w hs hI, fun i hi => ?_⟩
    obtain ⟨h0, o, ho, hall⟩ := mem_ready.1 hi
    have ho' : l[i]? = some o := by simpa using ho
    have hil : i < l.length := (List.getElem?_eq_some_iff.1 ho').1
    have hi0 : listed.getD i false = false := by
      have hlt : i < listed.size := by omega
      simp [hlt] at h0 ⊢; exact h0
    have hst := step _ vs w i o hI ho' hi0 (fun e hm hbd => hall e hm hbd)
    have next : ∀ (v : Value) (w' : World), I (setB (fun i => listed.getD i false) i) (updV vs i v) w' → wpAny P .any l.toArray Q fuel (listed.setIfInBounds i true) ((putAll vs 0 l a0).put o.dst v) w' := by
      intro v w' hI'
      rw [putAll_upd l 0 i a0 o hn ho', Nat.zero_add]
      refine ih _ _ _ (by simpa using hs) (by have := falses_set h0; omega) (hext _ _ _ _ (fun j hj => ?_) hI')
      unfold setB
      by_cases hji : j = i
      · subst hji
        have hlt : j < listed.size := by omega
        simp [hlt]
      · rw [if_neg hji, getD_set_ne false (Ne.symm hji)]
    unfold wpOp
    simp only [ho]
    split
    · rename_i hw
      rw [if_pos hw] at hst
      exact .inl (Oper.wp_mono (fun a' w' ⟨v, ha, hv⟩ => by rw [ha]; exact next v w' hv) hst)
    · rename_i hw
      rw [if_neg hw] at hst
      exact next undef w hst
theorem wp_region_inv {id : Nat} (hm : P.follows .mixedOrders = true) (hn : noDup l = true) (he : edgesB 0 l = true) (I : (Nat → Bool) → (Nat → Value) → World → Prop) (hext : ∀ f g vs w, (∀ i, i < l.length → f i = g i) → I f vs w → I g vs w)
    (start : ∀ vs, I (fun _ => false) vs { w0 with drawn := w0.drawn + 1 })
    (step : ∀ (f : Nat → Bool) (vs : Nat → Value) (w : World) (i : Nat) (o : Oper), I f vs w → l[i]? = some o → f i = false → (∀ e ∈ o.after, Region.binds .any e = true → f e.on = true) →
      if Region.wanted o (yielded l.toArray (putAll vs 0 l a0).tmps) = true then o.wp P (putAll vs 0 l a0) w (fun a' w' => ∃ v, a' = (putAll vs 0 l a0).put o.dst v ∧ I (setB f i) (updV vs i v) w') Q else I (setB f i) (updV vs i undef) w)
    (fin : ∀ (vs : Nat → Value) (w : World), I (fun _ => true) vs w → Q .normal (putAll vs 0 l a0) w) :
    (Code.region id l.toArray true).wp P Q a0 w0 := by
  refine wp_region_any hm ?_
  obtain ⟨vs, h⟩ := putAll_self (a0 := a0) l 0
  have hfl : falses (Array.replicate l.toArray.size false) = l.toArray.size := by simp [falses, List.countP_replicate]
  have := wpAny_inv (a0 := a0) hn he I hext step fin l.toArray.size (Array.replicate l.toArray.size false) vs { w0 with drawn := w0.drawn + 1 } (by simp) hfl (hext _ _ _ _ (fun i hi => by simp [hi]) (start vs))
  rw [h] at this
  exact this
end
end Go.Proofs.YtoadihebdaooaaaGreat
namespace Go.Proofs.YtoadihebdaooaaaGreat
open Go.RowKit
set_option linter.unusedVariables false
section
variable {P : Program} {l : List Oper} {Q : Exit → Act → World → Prop} {a0 : Act} {w0 : World}
theorem wp_region_mem {id : Nat} (hm : P.follows .mixedOrders = true) (hn : noDup l = true) (he : edgesB 0 l = true) (hg : (l.all fun o => o.guard.isNone) = true) (c : Nat → Value) (S : Nat → Bool) (M : (Nat → Bool) → (Nat → Value) → World → Prop)
    (hM : ∀ f g vs us w, (∀ i, S i = true → f i = g i ∧ vs i = us i) → M f vs w → M g us w) (hlen : ∀ i, S i = true → i < l.length)
    (start : ∀ vs, M (fun _ => false) vs { w0 with drawn := w0.drawn + 1 })
    (pure : ∀ (f : Nat → Bool) (vs : Nat → Value) (w : World) (i : Nat) (o : Oper), S i = false → M f vs w → l[i]? = some o → (∀ e ∈ o.after, Region.binds .any e = true → f e.on = true ∧ (S e.on = false → vs e.on = c e.on)) →
      o.wp P (putAll vs 0 l a0) w (fun a' w' => a' = (putAll vs 0 l a0).put o.dst (c i) ∧ w' = w) Q)
    (mem : ∀ (f : Nat → Bool) (vs : Nat → Value) (w : World) (i : Nat) (o : Oper), S i = true → M f vs w → f i = false → l[i]? = some o → (∀ e ∈ o.after, Region.binds .any e = true → f e.on = true ∧ (S e.on = false → vs e.on = c e.on)) →
      o.wp P (putAll vs 0 l a0) w (fun a' w' => ∃ v, a' = (putAll vs 0 l a0).put o.dst v ∧ M (setB f i) (updV vs i v) w') Q)
    (fin : ∀ (vs : Nat → Value) (w : World), M (fun _ => true) vs w → (∀ i, i < l.length → S i = false → vs i = c i) → Q .normal (putAll vs 0 l a0) w) :
    (Code.region id l.toArray true).wp P Q a0 w0 := by
  refine wp_region_inv hm hn he (fun f vs w => (∀ i, i < l.length → f i = true → S i = false → vs i = c i) ∧ M f vs w) ?_ (fun vs => ⟨fun i _ h _ => Bool.noConfusion h, start vs⟩) ?_ (fun vs w h => fin vs w h.2 (fun i hi hs => h.1 i hi rfl hs))
  · intro f g vs w hfg h
    exact ⟨fun i hi hgi hs => h.1 i hi (by rw [hfg i hi]; exact hgi) hs, hM f g vs vs w (fun i hs => ⟨hfg i (hlen i hs), rfl⟩) h.2⟩
  · intro f vs w i o hI ho hfi hd
    have hil : i < l.length := (List.getElem?_eq_some_iff.1 ho).1
    have hgo : o.guard = none := by
      rw [List.all_eq_true] at hg
      have := hg o (List.mem_of_getElem? ho)
      cases hgd : o.guard with
      | none => rfl
      | some _ => rw [hgd] at this; cases this
    rw [if_pos (by simp [Region.wanted, hgo])]
    have hdd : ∀ e ∈ o.after, Region.binds .any e = true → f e.on = true ∧ (S e.on = false → vs e.on = c e.on) := fun e hm hb => by
      have h1 := hd e hm hb
      have h2 := edges_at l 0 i o he ho e hm hb
      exact ⟨h1, fun hs => hI.1 e.on (by omega) h1 hs⟩
    cases hs : S i with
    | false =>
      refine Oper.wp_mono (fun a' w' h => ?_) (pure f vs w i o hs hI.2 ho hdd)
      obtain ⟨ha, hw⟩ := h
      subst hw
      refine ⟨c i, ha, fun j hj hfj hsj => ?_, hM f _ vs _ w' (fun j hsj => ?_) hI.2⟩
      · unfold updV
        by_cases hji : j = i
        · rw [if_pos hji, hji]
        · rw [if_neg hji]
          unfold setB at hfj
          rw [if_neg hji] at hfj
          exact hI.1 j hj hfj hsj
      · have hji : j ≠ i := fun e => by subst e; rw [hs] at hsj; cases hsj
        unfold setB updV
        rw [if_neg hji, if_neg hji]
        exact ⟨rfl, rfl⟩
    | true =>
      refine Oper.wp_mono (fun a' w' h => ?_) (mem f vs w i o hs hI.2 hfi ho hdd)
      obtain ⟨v, ha, hM'⟩ := h
      refine ⟨v, ha, fun j hj hfj hsj => ?_, hM'⟩
      have hji : j ≠ i := fun e => by subst e; rw [hs] at hsj; cases hsj
      unfold setB at hfj
      rw [if_neg hji] at hfj
      unfold updV
      rw [if_neg hji]
      exact hI.1 j hj hfj hsj
end
end Go.Proofs.YtoadihebdaooaaaGreat
namespace Go.Proofs.YtoadihebdaooaaaGreat
open Go.RowKit
set_option linter.unusedVariables false
def nthV : List Value → Nat → Value
  | [], _ => undef
  | x :: _, 0 => x
  | _ :: r, n + 1 => nthV r n
/-- A frame, of which some slots are unknown. -/
def mixF : List Bool → (Nat → Value) → Nat → List Value → List Value
  | true :: bs, f, k, _ :: l => f k :: mixF bs f (k + 1) l
  | false :: bs, f, k, x :: l => x :: mixF bs f (k + 1) l
  | [], _, _, l => l
  | _ :: _, _, _, [] => []
section
variable {P : Program} {Q : Exit → Act → World → Prop} {l : List Value} {d : List Deferred} {w : World} {c : Code}
theorem wp_loop_f (bs : List Bool) (I : Nat → (Nat → Value) → World → Prop) (n₀ : Nat) (h₀ : I n₀ (nthV l) w) (hl : mixF bs (nthV l) 0 l = l)
    (round : ∀ (n : Nat) (f : Nat → Value) (wr : World), I n f wr → ∀ (J : Nat → Act → World → Prop) (K : Act → World → Prop), (∀ (k : Nat) (v : List Value) (w' : World), I k (nthV v) w' → mixF bs (nthV v) 0 l = v → J k ⟨v.toArray, d⟩ w') →
      (∀ a' w', Handed J n a' w' → K a' w') → c.wp P (Exit.then K Q) ⟨(mixF bs f 0 l).toArray, d⟩ wr) : (Code.loop c).wp P Q ⟨l.toArray, d⟩ w := by
  refine wp_loop_ghost_k (fun n a' w' => ∃ v : List Value, a' = ⟨v.toArray, d⟩ ∧ I n (nthV v) w' ∧ mixF bs (nthV v) 0 l = v) n₀ ⟨l, rfl, h₀, hl⟩ ?_
  rintro n a' w' ⟨v, rfl, hI, hv⟩ J K hJ hK
  have := round n (nthV v) w' hI J K (fun k v' w'' h1 h2 => hJ k _ w'' ⟨v', rfl, h1, h2⟩) hK
  rw [hv] at this
  exact this
end
end Go.Proofs.YtoadihebdaooaaaGreat
