/- The rule for growing regions with one operation that comes last in every order: the others are all behind it. -/
import Derived.Test.YtoadihebdaooaaaGreatH1
namespace Go.Proofs.YtoadihebdaooaaaGreat
open Go.RowKit
set_option linter.unusedVariables false
/-- What an operation waits for. -/
def waitsFor (l : List Oper) (i : Nat) : List Nat := match l[i]? with | some o => (o.after.toList.filter fun e => Region.binds .any e).map (·.on) | none => []
def clos (l : List Oper) : Nat → List Nat → List Nat
  | 0, s => s
  | f + 1, s => clos l f (s ++ s.flatMap (waitsFor l)).eraseDups
/-- All operations before n are waited for by operation n. -/
def ancOk (l : List Oper) (n : Nat) : Bool := (List.range n).all fun i => (clos l 8 (waitsFor l n)).contains i
theorem clos_ok {l : List Oper} {p : Nat → Prop} (hc : ∀ i, p i → ∀ j ∈ waitsFor l i, p j) : ∀ (f : Nat) (s : List Nat), (∀ x ∈ s, p x) → ∀ x ∈ clos l f s, p x
  | 0, s, h => h
  | f + 1, s, h => by
    unfold clos
    refine clos_ok hc f _ (fun x hx => ?_)
    rw [List.mem_eraseDups] at hx
    rcases List.mem_append.1 hx with hx | hx
    · exact h x hx
    · obtain ⟨y, hy, hxy⟩ := List.mem_flatMap.1 hx
      exact hc y (h y hy) x hxy
section
variable {P : Program} {l : List Oper} {Q : Exit → Act → World → Prop} {a0 : Act} {w0 : World} {R : Nat → Value → World → Prop}
theorem waits_mem {i : Nat} {o : Oper} (ho : l[i]? = some o) {j : Nat} : j ∈ waitsFor l i ↔ ∃ e ∈ o.after, Region.binds .any e = true ∧ e.on = j := by
  unfold waitsFor
  rw [ho]
  simp only [List.mem_map, List.mem_filter, Array.mem_toList_iff]
  constructor
  · rintro ⟨e, ⟨h1, h2⟩, h3⟩; exact ⟨e, h1, h2, h3⟩
  · rintro ⟨e, h1, h2, h3⟩; exact ⟨e, ⟨h1, h2⟩, h3⟩
theorem putAll_app (vs : Nat → Value) : ∀ (l : List Oper) (k : Nat) (a : Act) (o : Oper), o.dst = none → putAll vs k (l ++ [o]) a = putAll vs k l a
  | [], k, a, o, h => by simp [putAll, h, Act.put]
  | x :: r, k, a, o, h => by
    rw [List.cons_append]
    unfold putAll
    exact putAll_app vs r (k + 1) _ o h
theorem wpAny_grow_last {oL : Oper} (hl : l[l.length - 1]? = some oL) (hpos : 0 < l.length) (hg : oL.guard = none) (hn : noDup l = true) (he : edgesB 0 l = true) (hanc : ancOk l (l.length - 1) = true) (stable : ∀ i v w w', R i v w → Below w.heap.size w w' → R i v w')
    (step : ∀ (vs : Nat → Value) (w : World) (i : Nat) (o : Oper), i < l.length - 1 → Below w0.heap.size w0 w → l[i]? = some o → (∀ e ∈ o.after, Region.binds .any e = true → R e.on (vs e.on) w) →
      if Region.wanted o (yielded l.toArray (putAll vs 0 l a0).tmps) = true then o.wp P (putAll vs 0 l a0) w (fun a' w' => ∃ v, a' = (putAll vs 0 l a0).put o.dst v ∧ R i v w' ∧ Below w.heap.size w w') Q else R i undef w)
    (last : ∀ (vs : Nat → Value) (w : World), Below w0.heap.size w0 w → (∀ i, i < l.length - 1 → R i (vs i) w) → oL.wp P (putAll vs 0 l a0) w (fun a' w' => Q .normal a' w') Q) :
    ∀ (fuel : Nat) (listed : Array Bool) (vs : Nat → Value) (w : World), listed.size = l.length → falses listed = fuel → (∀ i, i < l.length - 1 → listed.getD i false = true → R i (vs i) w) →
      listed.getD (l.length - 1) true = false → (∀ i, listed.getD i false = true → ∀ j ∈ waitsFor l i, listed.getD j false = true) → Below w0.heap.size w0 w →
      wpAny P .any l.toArray Q fuel listed (putAll vs 0 l a0) w := by
  have noend : ∀ (listed : Array Bool), listed.size = l.length → listed.getD (l.length - 1) true = false → Region.ready .any l.toArray listed ≠ [] := by
    intro listed hs h0 hr
    have := all_listed he hs hr (l.length - 1) (by omega)
    rw [this] at h0; cases h0
  intro fuel
  induction fuel with
  | zero =>
    intro listed vs w hs hf hR h0 hcl hb
    exfalso
    have := falses_set h0
    omega
  | succ fuel ih =>
    intro listed vs w hs hf hR h0 hcl hb
    refine ⟨fun hr => absurd hr (noend listed hs h0), fun i hi => ?_⟩
    obtain ⟨h1, o, ho, hall⟩ := mem_ready.1 hi
    have ho' : l[i]? = some o := by simpa using ho
    have hil : i < l.length := (List.getElem?_eq_some_iff.1 ho').1
    have hw : ∀ j ∈ waitsFor l i, listed.getD j false = true := by
      intro j hj
      obtain ⟨e, hm, hbd, rfl⟩ := (waits_mem ho').1 hj
      exact hall e hm hbd
    by_cases hlast : i = l.length - 1
    · subst hlast
      obtain rfl : o = oL := by rw [hl] at ho'; exact (Option.some.inj ho').symm
      have hallL : ∀ j, j < l.length - 1 → listed.getD j false = true := by
        intro j hj
        have hm : j ∈ clos l 8 (waitsFor l (l.length - 1)) := by
          unfold ancOk at hanc
          rw [List.all_eq_true] at hanc
          simpa using hanc j (List.mem_range.2 hj)
        exact clos_ok (p := fun j => listed.getD j false = true) hcl 8 _ hw j hm
      have hst := last vs w hb (fun j hj => hR j hj (hallL j hj))
      have hf2 : falses (listed.setIfInBounds (l.length - 1) true) = fuel := by have := falses_set h1; omega
      have hz : falses (listed.setIfInBounds (l.length - 1) true) = 0 := by
        unfold falses
        rw [List.countP_eq_zero]
        intro b hbm
        obtain ⟨j, hj⟩ := List.getElem?_of_mem hbm
        rw [Array.getElem?_toList] at hj
        have hjs : j < listed.size := by
          have := (Array.getElem?_eq_some_iff.1 hj).1
          simpa using this
        rw [Array.getElem?_setIfInBounds] at hj
        split at hj
        · split at hj
          · cases hj; simp
          · cases hj
        · rename_i hne
          have := hallL j (by omega)
          simp [hjs] at this
          have h2 : listed[j]? = some listed[j] := Array.getElem?_eq_getElem hjs
          rw [h2] at hj
          cases hj
          simp [this]
      have h00 : fuel = 0 := by omega
      subst h00
      have hr : Region.ready .any l.toArray (listed.setIfInBounds (l.length - 1) true) = [] := by
        cases hq : Region.ready .any l.toArray (listed.setIfInBounds (l.length - 1) true) with
        | nil => rfl
        | cons x xs =>
          exfalso
          have hx : x ∈ Region.ready .any l.toArray (listed.setIfInBounds (l.length - 1) true) := by rw [hq]; simp
          have := falses_set (mem_ready.1 hx).1
          omega
      unfold wpOp
      simp only [ho]
      have hwt : Region.wanted o (yielded l.toArray (putAll vs 0 l a0).tmps) = true := by simp [Region.wanted, hg]
      rw [if_pos hwt]
      exact .inl (Oper.wp_mono (fun a' w' h => ⟨hr, h⟩) hst)
    · have hi' : i < l.length - 1 := by omega
      have hst := step vs w i o hi' hb ho' (fun e hm hbd => hR e.on (by have := edges_at l 0 i o he ho' e hm hbd; omega) (hall e hm hbd))
      have next : ∀ (v : Value) (w' : World), R i v w' → Below w.heap.size w w' → wpAny P .any l.toArray Q fuel (listed.setIfInBounds i true) ((putAll vs 0 l a0).put o.dst v) w' := by
        intro v w' hv hbw
        rw [putAll_upd l 0 i a0 o hn ho', Nat.zero_add]
        refine ih _ _ _ (by simpa using hs) (by have := falses_set h1; omega) (fun j hjl hj => ?_) ?_ ?_ (hb.trans (hbw.mono hb.size))
        · by_cases hji : j = i
          · subst hji; simpa [updV] using hv
          · rw [getD_set_ne false (Ne.symm hji)] at hj
            unfold updV
            rw [if_neg hji]
            exact stable j _ w w' (hR j hjl hj) hbw
        · rw [getD_set_ne true hlast]; exact h0
        · intro j hj k hk
          have mono : ∀ m, listed.getD m false = true → (listed.setIfInBounds i true).getD m false = true := by
            intro m hm
            by_cases hmi : m = i
            · subst hmi
              have : m < listed.size := by omega
              simp [this]
            · rw [getD_set_ne false (Ne.symm hmi)]; exact hm
          by_cases hji : j = i
          · subst hji; exact mono k (hw k hk)
          · rw [getD_set_ne false (Ne.symm hji)] at hj
            exact mono k (hcl j hj k hk)
      unfold wpOp
      simp only [ho]
      split
      · rename_i hw
        rw [if_pos hw] at hst
        exact .inl (Oper.wp_mono (fun a' w' ⟨v, ha, hv, hbw⟩ => by rw [ha]; exact next v w' hv hbw) hst)
      · rename_i hw
        rw [if_neg hw] at hst
        exact next undef w hst (Below.refl _ _)
/-- The rule. -/
theorem wp_region_grow_last {id : Nat} {oL : Oper} (hm : P.follows .mixedOrders = true) (hl : l[l.length - 1]? = some oL) (hg : oL.guard = none) (hn : noDup l = true) (he : edgesB 0 l = true) (hanc : ancOk l (l.length - 1) = true) (R : Nat → Value → World → Prop) (stable : ∀ i v w w', R i v w → Below w.heap.size w w' → R i v w')
    (step : ∀ (vs : Nat → Value) (w : World) (i : Nat) (o : Oper), i < l.length - 1 → Below w0.heap.size w0 w → l[i]? = some o → (∀ e ∈ o.after, Region.binds .any e = true → R e.on (vs e.on) w) →
      StepGoal P l o (putAll vs 0 l a0) w (R i) Q)
    (last : ∀ (vs : Nat → Value) (w : World), Below w0.heap.size w0 w → (∀ i, i < l.length - 1 → R i (vs i) w) → oL.wp P (putAll vs 0 l a0) w (fun a' w' => Q .normal a' w') Q) :
    (Code.region id l.toArray true).wp P Q a0 w0 := by
  refine wp_region_any hm ?_
  obtain ⟨vs, h⟩ := putAll_self (a0 := a0) l 0
  have hfl : falses (Array.replicate l.toArray.size false) = l.toArray.size := by simp [falses, List.countP_replicate]
  have hpos : 0 < l.length := by
    rcases Nat.eq_zero_or_pos l.length with h0 | h0
    · have := (List.getElem?_eq_some_iff.1 hl).1; omega
    · exact h0
  have hno : ∀ i, (Array.replicate l.toArray.size false).getD i false = true → False := by
    intro i hi
    by_cases h' : i < l.length
    · simp [h'] at hi
    · simp [h'] at hi
  have := wpAny_grow_last (w0 := w0) (a0 := a0) hl hpos hg hn he hanc stable step last l.toArray.size (Array.replicate l.toArray.size false) vs { w0 with drawn := w0.drawn + 1 } (by simp) hfl (fun i _ hi => (hno i hi).elim)
    (by have : l.length - 1 < l.length := by omega
        simp [this]) (fun i hi => (hno i hi).elim) ⟨rfl, rfl, rfl, Nat.le_refl _, fun _ _ => rfl⟩
  rw [h] at this
  exact this
end
end Go.Proofs.YtoadihebdaooaaaGreat
