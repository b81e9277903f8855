/- The rule for growing regions with one operation that comes last in every order: the others are all behind it. · The rule for a region that draws its order, with an invariant of what has been done: most general. · A rule for regions that draw their order, without guards: operations that are known values, and a few that change memory, with an invariant of those. · Rules for loops and cuts in great frames: what is unknown is one function. · Contracts of the great whole numbers that fields need: Form, size, Cmp. · Contracts of the great whole numbers that fields need: made, OfWord, Of, Neg, Sub. · Contracts of a field's bounds: power, Greatest, Least, Fits. · The rule wp_region_grow with the frame as a letter: for regions in great frames. -/
import Derived.Test.YtoadihebdaooaaaGreatQ1
import Derived.Deep.LoopGhost
import Derived.Deep.Cut
import Derived.Deep.CutBlock
import Derived.Laws.BitsAllLaws
import Derived.Laws.Externs
import Derived.Deep.RegionHeld3
namespace Go.Proofs.YtoadihebdaooaaaGreat
open Go.RowKit
set_option linter.unusedVariables false
/-- What an operation waits for. -/
def waitsFor (l : List Oper) (i : Nat) : List Nat := match l[i]? with | some o => (o.after.toList.filter fun e => Region.binds .any e).map (·.on) | none => []
def clos (l : List Oper) : Nat → List Nat → List Nat
  | 0, s => s
  | f + 1, s => clos l f (s ++ s.flatMap (waitsFor l)).eraseDups
/-- All operations before n are waited for by operation n. -/
def ancOk (l : List Oper) (n : Nat) : Bool := (List.range n).all fun i => (clos l 8 (waitsFor l n)).contains i
theorem clos_ok {l : List Oper} {p : Nat → Prop} (hc : ∀ i, p i → ∀ j ∈ waitsFor l i, p j) : ∀ (f : Nat) (s : List Nat), (∀ x ∈ s, p x) → ∀ x ∈ clos l f s, p x
  | 0, s, h => h
  | f + 1, s, h => by
    unfold clos
    refine clos_ok hc f _ (fun x hx => ?_)
    rw [List.mem_eraseDups] at hx
    rcases List.mem_append.1 hx with hx | hx
    · exact h x hx
    · obtain ⟨y, hy, hxy⟩ := List.mem_flatMap.1 hx
      exact hc y (h y hy) x hxy
section
variable {P : Program} {l : List Oper} {Q : Exit → Act → World → Prop} {a0 : Act} {w0 : World} {R : Nat → Value → World → Prop}
theorem waits_mem {i : Nat} {o : Oper} (ho : l[i]? = some o) {j : Nat} : j ∈ waitsFor l i ↔ ∃ e ∈ o.after, Region.binds .any e = true ∧ e.on = j := by
  unfold waitsFor
  rw [ho]
  simp only [List.mem_map, List.mem_filter, Array.mem_toList_iff]
  constructor
  · rintro ⟨e, ⟨h1, h2⟩, h3⟩; exact ⟨e, h1, h2, h3⟩
  · rintro ⟨e, h1, h2, h3⟩; exact ⟨e, ⟨h1, h2⟩, h3⟩
theorem putAll_app (vs : Nat → Value) : ∀ (l : List Oper) (k : Nat) (a : Act) (o : Oper), o.dst = none → putAll vs k (l ++ [o]) a = putAll vs k l a
  | [], k, a, o, h => by simp [putAll, h, Act.put]
  | x :: r, k, a, o, h => by
    rw [List.cons_append]
    unfold putAll
    exact putAll_app vs r (k + 1) _ o h
theorem wpAny_grow_last {oL : Oper} (hl : l[l.length - 1]? = some oL) (hpos : 0 < l.length) (hg : oL.guard = none) (hn : noDup l = true) (he : edgesB 0 l = true) (hanc : ancOk l (l.length - 1) = true) (stable : ∀ i v w w', R i v w → Below w.heap.size w w' → R i v w')
    (step : ∀ (vs : Nat → Value) (w : World) (i : Nat) (o : Oper), i < l.length - 1 → Below w0.heap.size w0 w → l[i]? = some o → (∀ e ∈ o.after, Region.binds .any e = true → R e.on (vs e.on) w) →
      if Region.wanted o (yielded l.toArray (putAll vs 0 l a0).tmps) = true then o.wp P (putAll vs 0 l a0) w (fun a' w' => ∃ v, a' = (putAll vs 0 l a0).put o.dst v ∧ R i v w' ∧ Below w.heap.size w w') Q else R i undef w)
    (last : ∀ (vs : Nat → Value) (w : World), Below w0.heap.size w0 w → (∀ i, i < l.length - 1 → R i (vs i) w) → oL.wp P (putAll vs 0 l a0) w (fun a' w' => Q .normal a' w') Q) :
    ∀ (fuel : Nat) (listed : Array Bool) (vs : Nat → Value) (w : World), listed.size = l.length → falses listed = fuel → (∀ i, i < l.length - 1 → listed.getD i false = true → R i (vs i) w) →
      listed.getD (l.length - 1) true = false → (∀ i, listed.getD i false = true → ∀ j ∈ waitsFor l i, listed.getD j false = true) → Below w0.heap.size w0 w →
      wpAny P .any l.toArray Q fuel listed (putAll vs 0 l a0) w := by
  have noend : ∀ (listed : Array Bool), listed.size = l.length → listed.getD (l.length - 1) true = false → Region.ready .any l.toArray listed ≠ [] := by
    intro listed hs h0 hr
    have := all_listed he hs hr (l.length - 1) (by omega)
    rw [this] at h0; cases h0
  intro fuel
  induction fuel with
  | zero =>
    intro listed vs w hs hf hR h0 hcl hb
    exfalso
    have := falses_set h0
    omega
  | succ fuel ih =>
    intro listed vs w hs hf hR h0 hcl hb
    refine ⟨fun hr => absurd hr (noend listed hs h0), fun i hi => ?_⟩
    obtain ⟨h1, o, ho, hall⟩ := mem_ready.1 hi
    have ho' : l[i]? = some o := by simpa using ho
    have hil : i < l.length := (List.getElem?_eq_some_iff.1 ho').1
    have hw : ∀ j ∈ waitsFor l i, listed.getD j false = true := by
      intro j hj
      obtain ⟨e, hm, hbd, rfl⟩ := (waits_mem ho').1 hj
      exact hall e hm hbd
    by_cases hlast : i = l.length - 1
    · subst hlast
      obtain rfl : o = oL := by rw [hl] at ho'; exact (Option.some.inj ho').symm
      have hallL : ∀ j, j < l.length - 1 → listed.getD j false = true := by
        intro j hj
        have hm : j ∈ clos l 8 (waitsFor l (l.length - 1)) := by
          unfold ancOk at hanc
          rw [List.all_eq_true] at hanc
          simpa using hanc j (List.mem_range.2 hj)
        exact clos_ok (p := fun j => listed.getD j false = true) hcl 8 _ hw j hm
      have hst := last vs w hb (fun j hj => hR j hj (hallL j hj))
      have hf2 : falses (listed.setIfInBounds (l.length - 1) true) = fuel := by have := falses_set h1; omega
      have hz : falses (listed.setIfInBounds (l.length - 1) true) = 0 := by
        unfold falses
        rw [List.countP_eq_zero]
        intro b hbm
        obtain ⟨j, hj⟩ := List.getElem?_of_mem hbm
        rw [Array.getElem?_toList] at hj
        have hjs : j < listed.size := by
          have := (Array.getElem?_eq_some_iff.1 hj).1
          simpa using this
        rw [Array.getElem?_setIfInBounds] at hj
        split at hj
        · split at hj
          · cases hj; simp
          · cases hj
        · rename_i hne
          have := hallL j (by omega)
          simp [hjs] at this
          have h2 : listed[j]? = some listed[j] := Array.getElem?_eq_getElem hjs
          rw [h2] at hj
          cases hj
          simp [this]
      have h00 : fuel = 0 := by omega
      subst h00
      have hr : Region.ready .any l.toArray (listed.setIfInBounds (l.length - 1) true) = [] := by
        cases hq : Region.ready .any l.toArray (listed.setIfInBounds (l.length - 1) true) with
        | nil => rfl
        | cons x xs =>
          exfalso
          have hx : x ∈ Region.ready .any l.toArray (listed.setIfInBounds (l.length - 1) true) := by rw [hq]; simp
          have := falses_set (mem_ready.1 hx).1
          omega
      unfold wpOp
      simp only [ho]
      have hwt : Region.wanted o (yielded l.toArray (putAll vs 0 l a0).tmps) = true := by simp [Region.wanted, hg]
      rw [if_pos hwt]
      exact .inl (Oper.wp_mono (fun a' w' h => ⟨hr, h⟩) hst)
    · have hi' : i < l.length - 1 := by omega
      have hst := step vs w i o hi' hb ho' (fun e hm hbd => hR e.on (by have := edges_at l 0 i o he ho' e hm hbd; omega) (hall e hm hbd))
      have next : ∀ (v : Value) (w' : World), R i v w' → Below w.heap.size w w' → wpAny P .any l.toArray Q fuel (listed.setIfInBounds i true) ((putAll vs 0 l a0).put o.dst v) w' := by
        intro v w' hv hbw
        rw [putAll_upd l 0 i a0 o hn ho', Nat.zero_add]
        refine ih _ _ _ (by simpa using hs) (by have := falses_set h1; omega) (fun j hjl hj => ?_) ?_ ?_ (hb.trans (hbw.mono hb.size))
        · by_cases hji : j = i
          · subst hji; simpa [updV] using hv
          · rw [getD_set_ne false (Ne.symm hji)] at hj
            unfold updV
            rw [if_neg hji]
            exact stable j _ w w' (hR j hjl hj) hbw
        · rw [getD_set_ne true hlast]; exact h0
        · intro j hj k hk
          have mono : ∀ m, listed.getD m false = true → (listed.setIfInBounds i true).getD m false = true := by
            intro m hm
            by_cases hmi : m = i
            · subst hmi
              have : m < listed.size := by omega
              simp [this]
            · rw [getD_set_ne false (Ne.symm hmi)]; exact hm
          by_cases hji : j = i
          · subst hji; exact mono k (hw k hk)
          · rw [getD_set_ne false (Ne.symm hji)] at hj
            exact mono k (hcl j hj k hk)
      unfold wpOp
      simp only [ho]
      split
      · rename_i hw
        rw [if_pos hw] at hst
        exact .inl (Oper.wp_mono (fun a' w' ⟨v, ha, hv, hbw⟩ => by rw [ha]; exact next v w' hv hbw) hst)
      · rename_i hw
        rw [if_neg hw] at hst
        exact next undef w hst (Below.refl _ _)
/-- The rule. -/
theorem wp_region_grow_last {id : Nat} {oL : Oper} (hm : P.follows .mixedOrders = true) (hl : l[l.length - 1]? = some oL) (hg : oL.guard = none) (hn : noDup l = true) (he : edgesB 0 l = true) (hanc : ancOk l (l.length - 1) = true) (R : Nat → Value → World → Prop) (stable : ∀ i v w w', R i v w → Below w.heap.size w w' → R i v w')
    (step : ∀ (vs : Nat → Value) (w : World) (i : Nat) (o : Oper), i < l.length - 1 → Below w0.heap.size w0 w → l[i]? = some o → (∀ e ∈ o.after, Region.binds .any e = true → R e.on (vs e.on) w) →
      StepGoal P l o (putAll vs 0 l a0) w (R i) Q)
    (last : ∀ (vs : Nat → Value) (w : World), Below w0.heap.size w0 w → (∀ i, i < l.length - 1 → R i (vs i) w) → oL.wp P (putAll vs 0 l a0) w (fun a' w' => Q .normal a' w') Q) :
    (Code.region id l.toArray true).wp P Q a0 w0 := by
  refine wp_region_any hm ?_
  obtain ⟨vs, h⟩ := putAll_self (a0 := a0) l 0
  have hfl : falses (Array.replicate l.toArray.size false) = l.toArray.size := by simp [falses, List.countP_replicate]
  have hpos : 0 < l.length := by
    rcases Nat.eq_zero_or_pos l.length with h0 | h0
    · have := (List.getElem?_eq_some_iff.1 hl).1; omega
    · exact h0
  have hno : ∀ i, (Array.replicate l.toArray.size false).getD i false = true → False := by
    intro i hi
    by_cases h' : i < l.length
    · simp [h'] at hi
    · simp [h'] at hi
  have := wpAny_grow_last (w0 := w0) (a0 := a0) hl hpos hg hn he hanc stable step last l.toArray.size (Array.replicate l.toArray.size false) vs { w0 with drawn := w0.drawn + 1 } (by simp) hfl (fun i _ hi => (hno i hi).elim)
    (by have : l.length - 1 < l.length := by omega
        simp [this]) (fun i hi => (hno i hi).elim) ⟨rfl, rfl, rfl, Nat.le_refl _, fun _ _ => rfl⟩
  rw [h] at this
  exact this
end
end Go.Proofs.YtoadihebdaooaaaGreat
namespace Go.Proofs.YtoadihebdaooaaaGreat
open Go.RowKit
set_option linter.unusedVariables false
def setB (f : Nat → Bool) (i : Nat) : Nat → Bool := fun j => if j = i then true else f j
section
variable {P : Program} {l : List Oper} {Q : Exit → Act → World → Prop} {a0 : Act} {w0 : World}
theorem wpAny_inv (hn : noDup l = true) (he : edgesB 0 l = true) (I : (Nat → Bool) → (Nat → Value) → World → Prop) (hext : ∀ f g vs w, (∀ i, i < l.length → f i = g i) → I f vs w → I g vs w)
    (step : ∀ (f : Nat → Bool) (vs : Nat → Value) (w : World) (i : Nat) (o : Oper), I f vs w → l[i]? = some o → f i = false → (∀ e ∈ o.after, Region.binds .any e = true → f e.on = true) →
      if Region.wanted o (yielded l.toArray (putAll vs 0 l a0).tmps) = true then o.wp P (putAll vs 0 l a0) w (fun a' w' => ∃ v, a' = (putAll vs 0 l a0).put o.dst v ∧ I (setB f i) (updV vs i v) w') Q else I (setB f i) (updV vs i undef) w)
    (fin : ∀ (vs : Nat → Value) (w : World), I (fun _ => true) vs w → Q .normal (putAll vs 0 l a0) w) :
    ∀ (fuel : Nat) (listed : Array Bool) (vs : Nat → Value) (w : World), listed.size = l.length → falses listed = fuel → I (fun i => listed.getD i false) vs w →
      wpAny P .any l.toArray Q fuel listed (putAll vs 0 l a0) w := by
  have done : ∀ (listed : Array Bool) (vs : Nat → Value) (w : World), listed.size = l.length → I (fun i => listed.getD i false) vs w → Region.ready .any l.toArray listed = [] → Q .normal (putAll vs 0 l a0) w := by
    intro listed vs w hs hI hr
    refine fin vs w (hext _ _ vs w (fun i hi => ?_) hI)
    have := all_listed he hs hr i hi
    have hlt : i < listed.size := by omega
    simpa [hlt] using this
  intro fuel
  induction fuel with
  | zero =>
    intro listed vs w hs hf hI
    have hr : Region.ready .any l.toArray listed = [] := by
      cases hq : Region.ready .any l.toArray listed with
      | nil => rfl
      | cons x xs =>
        exfalso
        have hx : x ∈ Region.ready .any l.toArray listed := by rw [hq]; simp
        have := falses_set (mem_ready.1 hx).1
        omega
    exact ⟨hr, done listed vs w hs hI hr⟩
  | succ fuel ih =>
    intro listed vs w hs hf hI
    refine ⟨done listed vs w hs hI, fun i hi => ?_⟩
    obtain ⟨h0, o, ho, hall⟩ := mem_ready.1 hi
    have ho' : l[i]? = some o := by simpa using ho
    have hil : i < l.length := (List.getElem?_eq_some_iff.1 ho').1
    have hi0 : listed.getD i false = false := by
      have hlt : i < listed.size := by omega
      simp [hlt] at h0 ⊢; exact h0
    have hst := step _ vs w i o hI ho' hi0 (fun e hm hbd => hall e hm hbd)
    have next : ∀ (v : Value) (w' : World), I (setB (fun i => listed.getD i false) i) (updV vs i v) w' → wpAny P .any l.toArray Q fuel (listed.setIfInBounds i true) ((putAll vs 0 l a0).put o.dst v) w' := by
      intro v w' hI'
      rw [putAll_upd l 0 i a0 o hn ho', Nat.zero_add]
      refine ih _ _ _ (by simpa using hs) (by have := falses_set h0; omega) (hext _ _ _ _ (fun j hj => ?_) hI')
      unfold setB
      by_cases hji : j = i
      · subst hji
        have hlt : j < listed.size := by omega
        simp [hlt]
      · rw [if_neg hji, getD_set_ne false (Ne.symm hji)]
    unfold wpOp
    simp only [ho]
    split
    · rename_i hw
      rw [if_pos hw] at hst
      exact .inl (Oper.wp_mono (fun a' w' ⟨v, ha, hv⟩ => by rw [ha]; exact next v w' hv) hst)
    · rename_i hw
      rw [if_neg hw] at hst
      exact next undef w hst
theorem wp_region_inv {id : Nat} (hm : P.follows .mixedOrders = true) (hn : noDup l = true) (he : edgesB 0 l = true) (I : (Nat → Bool) → (Nat → Value) → World → Prop) (hext : ∀ f g vs w, (∀ i, i < l.length → f i = g i) → I f vs w → I g vs w)
    (start : ∀ vs, I (fun _ => false) vs { w0 with drawn := w0.drawn + 1 })
    (step : ∀ (f : Nat → Bool) (vs : Nat → Value) (w : World) (i : Nat) (o : Oper), I f vs w → l[i]? = some o → f i = false → (∀ e ∈ o.after, Region.binds .any e = true → f e.on = true) →
      if Region.wanted o (yielded l.toArray (putAll vs 0 l a0).tmps) = true then o.wp P (putAll vs 0 l a0) w (fun a' w' => ∃ v, a' = (putAll vs 0 l a0).put o.dst v ∧ I (setB f i) (updV vs i v) w') Q else I (setB f i) (updV vs i undef) w)
    (fin : ∀ (vs : Nat → Value) (w : World), I (fun _ => true) vs w → Q .normal (putAll vs 0 l a0) w) :
    (Code.region id l.toArray true).wp P Q a0 w0 := by
  refine wp_region_any hm ?_
  obtain ⟨vs, h⟩ := putAll_self (a0 := a0) l 0
  have hfl : falses (Array.replicate l.toArray.size false) = l.toArray.size := by simp [falses, List.countP_replicate]
  have := wpAny_inv (a0 := a0) hn he I hext step fin l.toArray.size (Array.replicate l.toArray.size false) vs { w0 with drawn := w0.drawn + 1 } (by simp) hfl (hext _ _ _ _ (fun i hi => by simp [hi]) (start vs))
  rw [h] at this
  exact this
end
end Go.Proofs.YtoadihebdaooaaaGreat
namespace Go.Proofs.YtoadihebdaooaaaGreat
open Go.RowKit
set_option linter.unusedVariables false
section
variable {P : Program} {l : List Oper} {Q : Exit → Act → World → Prop} {a0 : Act} {w0 : World}
theorem wp_region_mem {id : Nat} (hm : P.follows .mixedOrders = true) (hn : noDup l = true) (he : edgesB 0 l = true) (hg : (l.all fun o => o.guard.isNone) = true) (c : Nat → Value) (S : Nat → Bool) (M : (Nat → Bool) → (Nat → Value) → World → Prop)
    (hM : ∀ f g vs us w, (∀ i, S i = true → f i = g i ∧ vs i = us i) → M f vs w → M g us w) (hlen : ∀ i, S i = true → i < l.length)
    (start : ∀ vs, M (fun _ => false) vs { w0 with drawn := w0.drawn + 1 })
    (pure : ∀ (f : Nat → Bool) (vs : Nat → Value) (w : World) (i : Nat) (o : Oper), S i = false → M f vs w → l[i]? = some o → (∀ e ∈ o.after, Region.binds .any e = true → f e.on = true ∧ (S e.on = false → vs e.on = c e.on)) →
      o.wp P (putAll vs 0 l a0) w (fun a' w' => a' = (putAll vs 0 l a0).put o.dst (c i) ∧ w' = w) Q)
    (mem : ∀ (f : Nat → Bool) (vs : Nat → Value) (w : World) (i : Nat) (o : Oper), S i = true → M f vs w → f i = false → l[i]? = some o → (∀ e ∈ o.after, Region.binds .any e = true → f e.on = true ∧ (S e.on = false → vs e.on = c e.on)) →
      o.wp P (putAll vs 0 l a0) w (fun a' w' => ∃ v, a' = (putAll vs 0 l a0).put o.dst v ∧ M (setB f i) (updV vs i v) w') Q)
    (fin : ∀ (vs : Nat → Value) (w : World), M (fun _ => true) vs w → (∀ i, i < l.length → S i = false → vs i = c i) → Q .normal (putAll vs 0 l a0) w) :
    (Code.region id l.toArray true).wp P Q a0 w0 := by
  refine wp_region_inv hm hn he (fun f vs w => (∀ i, i < l.length → f i = true → S i = false → vs i = c i) ∧ M f vs w) ?_ (fun vs => ⟨fun i _ h _ => Bool.noConfusion h, start vs⟩) ?_ (fun vs w h => fin vs w h.2 (fun i hi hs => h.1 i hi rfl hs))
  · intro f g vs w hfg h
    exact ⟨fun i hi hgi hs => h.1 i hi (by rw [hfg i hi]; exact hgi) hs, hM f g vs vs w (fun i hs => ⟨hfg i (hlen i hs), rfl⟩) h.2⟩
  · intro f vs w i o hI ho hfi hd
    have hil : i < l.length := (List.getElem?_eq_some_iff.1 ho).1
    have hgo : o.guard = none := by
      rw [List.all_eq_true] at hg
      have := hg o (List.mem_of_getElem? ho)
      cases hgd : o.guard with
      | none => rfl
      | some _ => rw [hgd] at this; cases this
    rw [if_pos (by simp [Region.wanted, hgo])]
    have hdd : ∀ e ∈ o.after, Region.binds .any e = true → f e.on = true ∧ (S e.on = false → vs e.on = c e.on) := fun e hm hb => by
      have h1 := hd e hm hb
      have h2 := edges_at l 0 i o he ho e hm hb
      exact ⟨h1, fun hs => hI.1 e.on (by omega) h1 hs⟩
    cases hs : S i with
    | false =>
      refine Oper.wp_mono (fun a' w' h => ?_) (pure f vs w i o hs hI.2 ho hdd)
      obtain ⟨ha, hw⟩ := h
      subst hw
      refine ⟨c i, ha, fun j hj hfj hsj => ?_, hM f _ vs _ w' (fun j hsj => ?_) hI.2⟩
      · unfold updV
        by_cases hji : j = i
        · rw [if_pos hji, hji]
        · rw [if_neg hji]
          unfold setB at hfj
          rw [if_neg hji] at hfj
          exact hI.1 j hj hfj hsj
      · have hji : j ≠ i := fun e => by subst e; rw [hs] at hsj; cases hsj
        unfold setB updV
        rw [if_neg hji, if_neg hji]
        exact ⟨rfl, rfl⟩
    | true =>
      refine Oper.wp_mono (fun a' w' h => ?_) (mem f vs w i o hs hI.2 hfi ho hdd)
      obtain ⟨v, ha, hM'⟩ := h
      refine ⟨v, ha, fun j hj hfj hsj => ?_, hM'⟩
      have hji : j ≠ i := fun e => by subst e; rw [hs] at hsj; cases hsj
      unfold setB at hfj
      rw [if_neg hji] at hfj
      unfold updV
      rw [if_neg hji]
      exact hI.1 j hj hfj hsj
end
end Go.Proofs.YtoadihebdaooaaaGreat
namespace Go.Proofs.YtoadihebdaooaaaGreat
open Go.RowKit
set_option linter.unusedVariables false
def nthV : List Value → Nat → Value
  | [], _ => undef
  | x :: _, 0 => x
  | _ :: r, n + 1 => nthV r n
/-- A frame, of which some slots are unknown. -/
def mixF : List Bool → (Nat → Value) → Nat → List Value → List Value
  | true :: bs, f, k, _ :: l => f k :: mixF bs f (k + 1) l
  | false :: bs, f, k, x :: l => x :: mixF bs f (k + 1) l
  | [], _, _, l => l
  | _ :: _, _, _, [] => []
section
variable {P : Program} {Q : Exit → Act → World → Prop} {l : List Value} {d : List Deferred} {w : World} {c : Code}
theorem wp_loop_f (bs : List Bool) (I : Nat → (Nat → Value) → World → Prop) (n₀ : Nat) (h₀ : I n₀ (nthV l) w) (hl : mixF bs (nthV l) 0 l = l)
    (round : ∀ (n : Nat) (f : Nat → Value) (wr : World), I n f wr → ∀ (J : Nat → Act → World → Prop) (K : Act → World → Prop), (∀ (k : Nat) (v : List Value) (w' : World), I k (nthV v) w' → mixF bs (nthV v) 0 l = v → J k ⟨v.toArray, d⟩ w') →
      (∀ a' w', Handed J n a' w' → K a' w') → c.wp P (Exit.then K Q) ⟨(mixF bs f 0 l).toArray, d⟩ wr) : (Code.loop c).wp P Q ⟨l.toArray, d⟩ w := by
  refine wp_loop_ghost_k (fun n a' w' => ∃ v : List Value, a' = ⟨v.toArray, d⟩ ∧ I n (nthV v) w' ∧ mixF bs (nthV v) 0 l = v) n₀ ⟨l, rfl, h₀, hl⟩ ?_
  rintro n a' w' ⟨v, rfl, hI, hv⟩ J K hJ hK
  have := round n (nthV v) w' hI J K (fun k v' w'' h1 h2 => hJ k _ w'' ⟨v', rfl, h1, h2⟩) hK
  rw [hv] at this
  exact this
theorem wp_cut_f {K : Act → World → Prop} (bs : List Bool) (R : (Nat → Value) → World → Prop)
    (rest : ∀ (f : Nat → Value) (wc : World), R f wc → K ⟨(mixF bs f 0 l).toArray, d⟩ wc)
    (first : ∀ (J K' : Act → World → Prop), (∀ (v : List Value) (w' : World), R (nthV v) w' → mixF bs (nthV v) 0 l = v → J ⟨v.toArray, d⟩ w') → (∀ a' w', Met J a' w' → K' a' w') → c.wp P (Exit.then K' Q) ⟨l.toArray, d⟩ w) :
    c.wp P (Exit.then K Q) ⟨l.toArray, d⟩ w := by
  refine wp_cut (fun a' w' => ∃ v : List Value, a' = ⟨v.toArray, d⟩ ∧ R (nthV v) w' ∧ mixF bs (nthV v) 0 l = v) ?_ ?_
  · rintro a' w' ⟨v, rfl, hR, hv⟩
    have := rest (nthV v) w' hR
    rw [hv] at this
    exact this
  · intro J K' hJ hK
    exact first J K' (fun v w' h1 h2 => hJ _ w' ⟨v, rfl, h1, h2⟩) hK
end
end Go.Proofs.YtoadihebdaooaaaGreat
namespace Go.Proofs.YtoadihebdaooaaaGreat
open Go.RowKit
set_option linter.unusedVariables false
/-- A great number. -/
structure WI where
  neg : Bool
  hi : Int
  lo : Int
def WI.v (x : WI) : Value := .agg #[.bool x.neg, .int .u64 x.hi, .int .u64 x.lo]
def WI.cs (x : WI) : Array Value := #[.bool x.neg, .int .u64 x.hi, .int .u64 x.lo]
def WI.wf (x : WI) : Prop := (0 ≤ x.hi ∧ x.hi ≤ 18446744073709551615) ∧ 0 ≤ x.lo ∧ x.lo ≤ 18446744073709551615
def WI.val (x : WI) : Int := if x.neg then -(x.hi * 18446744073709551616 + x.lo) else x.hi * 18446744073709551616 + x.lo
def WI.form (x : WI) : Bool := decide (x.hi < 9223372036854775808) && (!x.neg || !(x.hi == 0 && x.lo == 0))
theorem or64_ne {a b : Int} (h1 : 0 ≤ a) (h2 : a ≤ 18446744073709551615) (h3 : 0 ≤ b) (h4 : b ≤ 18446744073709551615) : (bits BinOp.or .u64 a b != 0) = !(a == 0 && b == 0) := by
  rw [u64_or a b h1 (by omega) h3 (by omega)]
  obtain ⟨a, rfl⟩ := Int.eq_ofNat_of_zero_le h1
  obtain ⟨b, rfl⟩ := Int.eq_ofNat_of_zero_le h3
  simp only [Int.toNat_natCast]
  by_cases e : a = 0 ∧ b = 0
  · obtain ⟨rfl, rfl⟩ := e; rfl
  · have h : a ||| b ≠ 0 := by
      intro h
      apply e
      constructor
      · have := Nat.left_le_or (n := a) (m := b); omega
      · have := Nat.right_le_or (n := a) (m := b); omega
    have e2 : ((a : Int) == 0 && (b : Int) == 0) = false := by
      by_cases ha : a = 0
      · have hb : b ≠ 0 := fun hb => e ⟨ha, hb⟩
        simp [hb]
      · simp [ha]
    rw [e2]
    simp only [Bool.not_false, bne_iff_ne]
    omega
set_option maxRecDepth 100000 in
theorem wform_any (x : WI) (w : World) (h : x.wf) : Calls Tryz.prog 159 #[x.v] w fun e w' => e = .returned (.bool x.form) ∧ Below w.heap.size w w' := by
  obtain ⟨n, hi, lo⟩ := x
  obtain ⟨⟨h1, h2⟩, h3, h4⟩ := h
  dsimp only [WI.v] at *
  have HO := Lib.hid (or64_ne h1 h2 h3 h4)
  by_cases ht : hi < 9223372036854775808
  · have e1 : decide (hi < 9223372036854775808) = true := by simp [ht]
    cases n
    · go_enter Tryz.func159, Tryz.ntmps159
      go_wp2_with fail
      go_returns
      exact ⟨by simp [WI.form, ht], by go_grown⟩
    · go_enter Tryz.func159, Tryz.ntmps159
      go_wp2_with fail
      go_returns
      exact ⟨ret_bool (by rw [HO.out]; simp [WI.form, ht]), by go_grown⟩
  · have e1 : decide (hi < 9223372036854775808) = false := by simp [ht]
    go_enter Tryz.func159, Tryz.ntmps159
    go_wp2_with fail
    go_returns
    exact ⟨ret_bool (by unfold WI.form; rw [show decide (hi < 9223372036854775808) = false from e1]; rfl), by go_grown⟩
def sizeF (x y : WI) : Int := if y.hi < x.hi ∨ (x.hi = y.hi ∧ y.lo < x.lo) then 1 else if x.hi = y.hi ∧ x.lo = y.lo then 0 else -1
set_option maxRecDepth 100000 in
theorem wsize_any (x y : WI) (w : World) : Calls Tryz.prog 170 #[x.v, y.v] w fun e w' => e = .returned (.int .i64 (sizeF x y)) ∧ Below w.heap.size w w' := by
  obtain ⟨n, hi, lo⟩ := x
  obtain ⟨n', hi', lo'⟩ := y
  dsimp only [WI.v] at *
  rcases (by omega : hi' < hi ∨ (hi = hi' ∧ lo' < lo) ∨ (hi = hi' ∧ lo = lo') ∨ (hi = hi' ∧ lo < lo') ∨ hi < hi') with h | ⟨h, j⟩ | ⟨h, j⟩ | ⟨h, j⟩ | h
  · have HS := Lib.hid (show sizeF ⟨n, hi, lo⟩ ⟨n', hi', lo'⟩ = 1 by unfold sizeF; rw [if_pos (.inl h)])
    have e1 : decide (hi' < hi) = true := by simp [h]
    clear h
    go_enter Tryz.func170, Tryz.ntmps170
    go_wp2_with fail
    go_returns
    exact ⟨ret_intk HS.out.symm, by go_grown⟩
  · subst h
    have HS := Lib.hid (show sizeF ⟨n, hi, lo⟩ ⟨n', hi, lo'⟩ = 1 by unfold sizeF; rw [if_pos (.inr ⟨rfl, j⟩)])
    have e1 : decide (hi < hi) = false := by simp
    have e2 : decide (lo' < lo) = true := by simp [j]
    clear j
    go_enter Tryz.func170, Tryz.ntmps170
    go_wp2_with fail
    go_returns
    exact ⟨ret_intk HS.out.symm, by go_grown⟩
  · subst h; subst j
    have HS := Lib.hid (show sizeF ⟨n, hi, lo⟩ ⟨n', hi, lo⟩ = 0 by unfold sizeF; rw [if_neg (by simp), if_pos ⟨rfl, rfl⟩])
    have e1 : decide (hi < hi) = false := by simp
    have e2 : decide (lo < lo) = false := by simp
    go_enter Tryz.func170, Tryz.ntmps170
    go_wp2_with fail
    go_returns
    exact ⟨ret_intk HS.out.symm, by go_grown⟩
  · subst h
    have HS := Lib.hid (show sizeF ⟨n, hi, lo⟩ ⟨n', hi, lo'⟩ = -1 by unfold sizeF; rw [if_neg (by simp; omega), if_neg (by simp; omega)])
    have e1 : decide (hi < hi) = false := by simp
    have e2 : decide (lo' < lo) = false := by simp; omega
    have e3 : (lo == lo') = false := by simp; omega
    clear j
    go_enter Tryz.func170, Tryz.ntmps170
    go_wp2_with fail
    go_returns
    exact ⟨ret_intk HS.out.symm, by go_grown⟩
  · have HS := Lib.hid (show sizeF ⟨n, hi, lo⟩ ⟨n', hi', lo'⟩ = -1 by unfold sizeF; rw [if_neg (by simp; omega), if_neg (by simp; omega)])
    have e1 : decide (hi' < hi) = false := by simp; omega
    have e2 : (hi == hi') = false := by simp; omega
    clear h
    go_enter Tryz.func170, Tryz.ntmps170
    go_wp2_with fail
    go_returns
    exact ⟨ret_intk HS.out.symm, by go_grown⟩
def signF (a b : Int) : Int := if a = b then 0 else if a < b then -1 else 1
def cmpF (x y : WI) : Int := if x.form && y.form then signF x.val y.val else 0
theorem size_sign {x y : WI} (hx : x.wf) (hy : y.wf) : sizeF x y = signF (x.hi * 18446744073709551616 + x.lo) (y.hi * 18446744073709551616 + y.lo) := by
  obtain ⟨⟨a1, a2⟩, a3, a4⟩ := hx
  obtain ⟨⟨b1, b2⟩, b3, b4⟩ := hy
  unfold sizeF signF
  by_cases h : y.hi < x.hi ∨ (x.hi = y.hi ∧ y.lo < x.lo)
  · rw [if_pos h, if_neg (by omega), if_neg (by omega)]
  · rw [if_neg h]
    by_cases h2 : x.hi = y.hi ∧ x.lo = y.lo
    · rw [if_pos h2, if_pos (by omega)]
    · rw [if_neg h2, if_neg (by omega), if_pos (by omega)]
theorem sign_neg (a b : Int) : signF (-a) (-b) = signF b a := by
  unfold signF
  by_cases h : a = b
  · rw [if_pos (by omega), if_pos (by omega)]
  · by_cases h2 : b < a
    · rw [if_neg (by omega), if_pos (by omega), if_neg (by omega), if_pos h2]
    · rw [if_neg (by omega), if_neg (by omega), if_neg (by omega), if_neg h2]
theorem form_pos {x : WI} (hw : x.wf) (h : x.form = true) (hn : x.neg = true) : x.val < 0 := by
  obtain ⟨⟨a1, a2⟩, a3, a4⟩ := hw
  unfold WI.form at h
  rw [hn] at h
  simp at h
  unfold WI.val
  rw [if_pos hn]
  omega
theorem val_nn {x : WI} (hw : x.wf) (hn : x.neg = false) : 0 ≤ x.val := by
  obtain ⟨⟨a1, a2⟩, a3, a4⟩ := hw
  unfold WI.val
  rw [hn, if_neg (by simp)]
  omega
set_option maxRecDepth 100000 in
theorem wcmp_any (x y : WI) (w : World) (hx : x.wf) (hy : y.wf) : Calls Tryz.prog 150 #[x.v, y.v] w fun e w' => e = .returned (.int .i64 (cmpF x y)) ∧ Below w.heap.size w w' := by
  have HX := Lib.hid hx
  have HY := Lib.hid hy
  have HS1 := Lib.hid (size_sign hx hy)
  have HS2 := Lib.hid (size_sign hy hx)
  have HC : Hid (cmpF x y = if x.form && y.form then signF x.val y.val else 0) := Lib.hid rfl
  have HP1 := Lib.hid (fun h => form_pos hx h)
  have HP2 := Lib.hid (fun h => form_pos hy h)
  have HN1 := Lib.hid (fun h => val_nn hx h)
  have HN2 := Lib.hid (fun h => val_nn hy h)
  clear hx hy
  have hbA : Below w.heap.size w (w.alloc (.cells x.cs 148)) := by go_grown
  have hbA2 : Below w.heap.size w ((w.alloc (.cells x.cs 148)).alloc (.cells y.cs 148)) := by go_grown
  have kx := keepA (.cells y.cs 148) (heap_alloc_new w (.cells x.cs 148))
  have ky := heap_alloc_new (w.alloc (.cells x.cs 148)) (.cells y.cs 148)
  obtain ⟨n, hi, lo⟩ := x
  obtain ⟨n', hi', lo'⟩ := y
  dsimp only [WI.v, WI.cs] at *
  have hz : (w.alloc (.cells #[.bool n, .int .u64 hi, .int .u64 lo] 148)).heap.size = w.heap.size + 1 := by simp
  rw [hz] at ky
  have KX := Lib.hid kx
  have KY := Lib.hid ky
  have HB := Lib.hid hbA2
  clear kx ky hbA hbA2 hz
  cases hfx : WI.form ⟨n, hi, lo⟩
  · have HR := Lib.hid (show cmpF ⟨n, hi, lo⟩ ⟨n', hi', lo'⟩ = 0 by rw [HC.out, hfx]; rfl)
    go_enter Tryz.func150, Tryz.ntmps150
    go_wp2_with fail
    refine (wform_any ⟨n, hi, lo⟩ _ HX.out).mono ?_
    rintro e w1 ⟨rfl, hb1⟩
    rw [hfx]
    have HB1 := Lib.hid (HB.out.trans (hb1.mono HB.out.size))
    clear hb1
    go_wp2_with fail
    go_returns
    exact ⟨ret_intk HR.out.symm, HB1.out⟩
  · cases hfy : WI.form ⟨n', hi', lo'⟩
    · have HR := Lib.hid (show cmpF ⟨n, hi, lo⟩ ⟨n', hi', lo'⟩ = 0 by rw [HC.out, hfx, hfy]; rfl)
      go_enter Tryz.func150, Tryz.ntmps150
      go_wp2_with fail
      refine (wform_any ⟨n, hi, lo⟩ _ HX.out).mono ?_
      rintro e w1 ⟨rfl, hb1⟩
      rw [hfx]
      have hy1 := keep hb1 KY.out
      have y0 := cell_at hy1 0
      have y1 := cell_at hy1 1
      have y2 := cell_at hy1 2
      simp at y0 y1 y2
      have HB1 := Lib.hid (HB.out.trans (hb1.mono HB.out.size))
      clear hb1 hy1
      go_wp2_with fail
      refine (wform_any ⟨n', hi', lo'⟩ _ HY.out).mono ?_
      rintro e w2 ⟨rfl, hb2⟩
      rw [hfy]
      have HB2 := Lib.hid (HB1.out.trans (hb2.mono HB1.out.size))
      clear hb2
      go_wp2_with fail
      go_returns
      exact ⟨ret_intk HR.out.symm, HB2.out⟩
    · have HR := Lib.hid (show cmpF ⟨n, hi, lo⟩ ⟨n', hi', lo'⟩ = signF (WI.val ⟨n, hi, lo⟩) (WI.val ⟨n', hi', lo'⟩) by rw [HC.out, hfx, hfy]; rfl)
      go_enter Tryz.func150, Tryz.ntmps150
      go_wp2_with fail
      refine (wform_any ⟨n, hi, lo⟩ _ HX.out).mono ?_
      rintro e w1 ⟨rfl, hb1⟩
      rw [hfx]
      have hx1 := keep hb1 KX.out
      have hy1 := keep hb1 KY.out
      have y0 := cell_at hy1 0
      have y1 := cell_at hy1 1
      have y2 := cell_at hy1 2
      simp at y0 y1 y2
      have HB1 := Lib.hid (HB.out.trans (hb1.mono HB.out.size))
      have HX1 := Lib.hid hx1
      have HY1 := Lib.hid hy1
      clear hb1 hy1 hx1
      go_wp2_with fail
      refine (wform_any ⟨n', hi', lo'⟩ _ HY.out).mono ?_
      rintro e w2 ⟨rfl, hb2⟩
      rw [hfy]
      have hx2 := keep hb2 HX1.out
      have hy2 := keep hb2 HY1.out
      clear y0 y1 y2
      have x0 := cell_at hx2 0
      have x1 := cell_at hx2 1
      have x2 := cell_at hx2 2
      have y0 := cell_at hy2 0
      have y1 := cell_at hy2 1
      have y2 := cell_at hy2 2
      simp at x0 x1 x2 y0 y1 y2
      have HB2 := Lib.hid (HB1.out.trans (hb2.mono HB1.out.size))
      have HF := Lib.hid (And.intro hfx hfy)
      clear hb2 hx2 hy2 hfx hfy
      cases n <;> cases n'
      · have HV := Lib.hid (HS1.out.trans (show signF _ _ = signF (WI.val ⟨false, hi, lo⟩) (WI.val ⟨false, hi', lo'⟩) from rfl))
        go_wp2_with fail
        refine (wsize_any ⟨false, hi, lo⟩ ⟨false, hi', lo'⟩ _).mono ?_
        rintro e w3 ⟨rfl, hb3⟩
        have HB3 := Lib.hid (HB2.out.trans (hb3.mono HB2.out.size))
        clear hb3
        go_wp2_with fail
        go_returns
        exact ⟨ret_intk (HV.out.trans HR.out.symm), HB3.out⟩
      · have HV := Lib.hid (show signF (WI.val ⟨false, hi, lo⟩) (WI.val ⟨true, hi', lo'⟩) = 1 by
          have a := HN1.out rfl
          have b := HP2.out HF.out.2 rfl
          unfold signF; rw [if_neg (by omega), if_neg (by omega)])
        go_wp2_with fail
        go_returns
        exact ⟨ret_intk (HV.out.symm.trans HR.out.symm), HB2.out⟩
      · have HV := Lib.hid (show signF (WI.val ⟨true, hi, lo⟩) (WI.val ⟨false, hi', lo'⟩) = -1 by
          have a := HP1.out HF.out.1 rfl
          have b := HN2.out rfl
          unfold signF; rw [if_neg (by omega), if_pos (by omega)])
        go_wp2_with fail
        go_returns
        exact ⟨ret_intk (HV.out.symm.trans HR.out.symm), HB2.out⟩
      · have HV := Lib.hid (HS2.out.trans ((sign_neg _ _).symm.trans (show signF _ _ = signF (WI.val ⟨true, hi, lo⟩) (WI.val ⟨true, hi', lo'⟩) from rfl)))
        go_wp2_with fail
        refine (wsize_any ⟨true, hi', lo'⟩ ⟨true, hi, lo⟩ _).mono ?_
        rintro e w3 ⟨rfl, hb3⟩
        have HB3 := Lib.hid (HB2.out.trans (hb3.mono HB2.out.size))
        clear hb3
        go_wp2_with fail
        go_returns
        exact ⟨ret_intk (HV.out.trans HR.out.symm), HB3.out⟩
end Go.Proofs.YtoadihebdaooaaaGreat
namespace Go.Proofs.YtoadihebdaooaaaGreat
open Go.RowKit
set_option linter.unusedVariables false
def WI.made (n : Bool) (hi lo : Int) : WI := ⟨n && !(hi == 0 && lo == 0), hi, lo⟩
set_option maxRecDepth 100000 in
theorem wmade_any (n : Bool) (hi lo : Int) (w : World) (h1 : 0 ≤ hi) (h2 : hi ≤ 18446744073709551615) (h3 : 0 ≤ lo) (h4 : lo ≤ 18446744073709551615) :
    Calls Tryz.prog 115 #[.bool n, .int .u64 hi, .int .u64 lo] w fun e w' => e = .returned (WI.v (WI.made n hi lo)) ∧ Below w.heap.size w w' := by
  have HO := Lib.hid (or64_ne h1 h2 h3 h4)
  cases n
  · go_enter Tryz.func115, Tryz.ntmps115
    go_wp2_with fail
    refine bodyPost_ret (v := .agg #[.bool false, .int .u64 hi, .int .u64 lo]) (by simp [results, Tryz.results115, go_sem]) rfl ?_
    exact ⟨rfl, by go_grown⟩
  · go_enter Tryz.func115, Tryz.ntmps115
    go_wp2_with fail
    rw [HO.out]
    refine bodyPost_ret (v := .agg #[.bool (!(hi == 0 && lo == 0)), .int .u64 hi, .int .u64 lo]) (by simp [results, Tryz.results115, go_sem]) rfl ?_
    exact ⟨rfl, by go_grown⟩
set_option maxRecDepth 100000 in
theorem wofword_any (n : Int) (w : World) : Calls Tryz.prog 116 #[.int .u64 n] w fun e w' => e = .returned (WI.v ⟨false, 0, n⟩) ∧ Below w.heap.size w w' := by
  go_enter Tryz.func116, Tryz.ntmps116
  go_wp2_with fail
  refine bodyPost_ret (v := .agg #[.bool false, .int .u64 0, .int .u64 n]) (by simp [results, Tryz.results116, go_sem]) rfl ?_
  exact ⟨rfl, by go_grown⟩
set_option maxRecDepth 100000 in
theorem wneg_any (x : WI) (w : World) (hx : x.wf) (hf : x.form = true) : Calls Tryz.prog 173 #[x.v] w fun e w' => e = .returned (WI.v (WI.made (!x.neg) x.hi x.lo)) ∧ Below w.heap.size w w' := by
  have hb : Below w.heap.size w ((w.alloc (.cells x.cs 148)).alloc (.cells #[.bool false, .int .u64 0, .int .u64 0] 148)) := by go_grown
  have kx := keepA (.cells #[.bool false, .int .u64 0, .int .u64 0] 148) (heap_alloc_new w (.cells x.cs 148))
  have kr := heap_alloc_new (w.alloc (.cells x.cs 148)) (.cells #[.bool false, .int .u64 0, .int .u64 0] 148)
  have hz : (w.alloc (.cells x.cs 148)).heap.size = w.heap.size + 1 := by simp
  rw [hz] at kr
  obtain ⟨n, hi, lo⟩ := x
  dsimp only [WI.v, WI.cs] at *
  have HX := Lib.hid hx
  have KX := Lib.hid kx
  have KR := Lib.hid kr
  have HB := Lib.hid hb
  clear kx kr hb hz hx
  go_enter Tryz.func173, Tryz.ntmps173
  go_wp2_with fail
  refine (wform_any ⟨n, hi, lo⟩ _ HX.out).mono ?_
  rintro e w1 ⟨rfl, hb1⟩
  rw [hf]
  have hx1 := keep hb1 KX.out
  have hr1 := keep hb1 KR.out
  have x0 := cell_at hx1 0
  have x1 := cell_at hx1 1
  have x2 := cell_at hx1 2
  simp at x0 x1 x2
  have HB1 := Lib.hid (HB.out.trans (hb1.mono HB.out.size))
  have HR1 := Lib.hid hr1
  clear hb1 hx1 hr1
  go_wp2_with fail
  refine (wmade_any (!n) hi lo _ HX.out.1.1 HX.out.1.2 HX.out.2.1 HX.out.2.2).mono ?_
  rintro e w2 ⟨rfl, hb2⟩
  have hr2 := keep hb2 HR1.out
  have q0 := cell_at hr2 0
  have q1 := cell_at hr2 1
  have q2 := cell_at hr2 2
  have g0 := free_at hr2 0
  have g1 := free_at hr2 1
  have g2 := free_at hr2 2
  simp at q0 q1 q2
  have HB2 := Lib.hid (HB1.out.trans (hb2.mono HB1.out.size))
  clear hb2 x0 x1 x2
  dsimp only [WI.v, WI.made]
  go_wp2_with fail
  refine bodyPost_ret (v := .agg #[.bool (!n && !(hi == 0 && lo == 0)), .int .u64 hi, .int .u64 lo]) (by simp [results, Tryz.results173, go_sem, q0, q1, q2]) rfl ?_
  exact ⟨rfl, ((HB2.out.setCell (by simp) _).setCell (by simp) _).setCell (by simp) _⟩
set_option maxRecDepth 100000 in
theorem wfit_any (n : Bool) (hi lo : Int) (w : World) (h1 : 0 ≤ hi) (h2 : hi < 9223372036854775808) (h3 : 0 ≤ lo) (h4 : lo ≤ 18446744073709551615) :
    Calls Tryz.prog 180 #[.bool n, .int .u64 hi, .int .u64 lo] w fun e w' => e = .returned (.tuple #[WI.v (WI.made n hi lo), .int .i64 0]) ∧ Below w.heap.size w w' := by
  have hb : Below w.heap.size w (w.alloc (.cells #[.bool false, .int .u64 0, .int .u64 0] 148)) := by go_grown
  have kr := heap_alloc_new w (.cells #[.bool false, .int .u64 0, .int .u64 0] 148)
  have HB := Lib.hid hb
  have KR := Lib.hid kr
  have e1 : decide ((9223372036854775808 : Int) ≤ hi) = false := by simp; omega
  clear hb kr
  go_enter Tryz.func180, Tryz.ntmps180
  go_wp2_with fail
  refine (wmade_any n hi lo _ h1 (by omega) h3 h4).mono ?_
  rintro e w2 ⟨rfl, hb2⟩
  have hr2 := keep hb2 KR.out
  have q0 := cell_at hr2 0
  have q1 := cell_at hr2 1
  have q2 := cell_at hr2 2
  have g0 := free_at hr2 0
  have g1 := free_at hr2 1
  have g2 := free_at hr2 2
  simp at q0 q1 q2
  have HB2 := Lib.hid (HB.out.trans (hb2.mono HB.out.size))
  clear hb2
  dsimp only [WI.v, WI.made]
  go_wp2_with fail
  refine bodyPost_ret (v := .tuple #[.agg #[.bool (n && !(hi == 0 && lo == 0)), .int .u64 hi, .int .u64 lo], .int .i64 0]) (by simp [results, Tryz.results180, go_sem, q0, q1, q2]) rfl ?_
  exact ⟨rfl, ((HB2.out.setCell (by simp) _).setCell (by simp) _).setCell (by simp) _⟩
set_option maxRecDepth 100000 in
theorem wcheck_any (x y : WI) (w : World) (hx : x.wf) (hy : y.wf) (fx : x.form = true) (fy : y.form = true) : Calls Tryz.prog 171 #[x.v, y.v, .bool false] w fun e w' => e = .returned (.int .i64 0) ∧ Below w.heap.size w w' := by
  have hb : Below w.heap.size w ((w.alloc (.cells x.cs 148)).alloc (.cells y.cs 148)) := by go_grown
  have ky := heap_alloc_new (w.alloc (.cells x.cs 148)) (.cells y.cs 148)
  have hz : (w.alloc (.cells x.cs 148)).heap.size = w.heap.size + 1 := by simp
  rw [hz] at ky
  obtain ⟨n, hi, lo⟩ := x
  obtain ⟨n', hi', lo'⟩ := y
  dsimp only [WI.v, WI.cs] at *
  have HX := Lib.hid hx
  have HY := Lib.hid hy
  have KY := Lib.hid ky
  have HB := Lib.hid hb
  clear ky hb hz hx hy
  go_enter Tryz.func171, Tryz.ntmps171
  go_wp2_with fail
  refine (wform_any ⟨n, hi, lo⟩ _ HX.out).mono ?_
  rintro e w1 ⟨rfl, hb1⟩
  rw [fx]
  have hy1 := keep hb1 KY.out
  have x0 := cell_at hy1 0
  have x1 := cell_at hy1 1
  have x2 := cell_at hy1 2
  simp at x0 x1 x2
  have HB1 := Lib.hid (HB.out.trans (hb1.mono HB.out.size))
  clear hb1 hy1
  go_wp2_with fail
  refine (wform_any ⟨n', hi', lo'⟩ _ HY.out).mono ?_
  rintro e w2 ⟨rfl, hb2⟩
  rw [fy]
  have HB2 := Lib.hid (HB1.out.trans (hb2.mono HB1.out.size))
  clear hb2
  go_wp2_with fail
  go_returns
  exact ⟨rfl, HB2.out⟩
theorem one_made {n : Bool} {hi lo : Int} (h : lo ≠ 0) : WI.made n hi lo = ⟨n, hi, lo⟩ := by unfold WI.made; simp [h]
theorem form_lo {n : Bool} {lo : Int} (h : lo ≠ 0) : WI.form ⟨n, 0, lo⟩ = true := by unfold WI.form; simp [h]
theorem wf_lo {n : Bool} {lo : Int} (h0 : 0 ≤ lo) (h1 : lo ≤ 18446744073709551615) : WI.wf ⟨n, 0, lo⟩ := ⟨⟨by simp, by simp⟩, h0, h1⟩
set_option maxRecDepth 100000 in
theorem wadd_neg (p : Int) (w : World) (h1 : 1 ≤ p) (h2 : p ≤ 9223372036854775807) : Calls Tryz.prog 172 #[WI.v ⟨true, 0, p⟩, WI.v ⟨true, 0, 1⟩] w fun e w' => e = .returned (.tuple #[WI.v ⟨true, 0, p + 1⟩, .int .i64 0]) ∧ Below w.heap.size w w' := by
  have hb : Below w.heap.size w (((w.alloc (.cells #[.bool true, .int .u64 0, .int .u64 p] 148)).alloc (.cells #[.bool true, .int .u64 0, .int .u64 1] 148)).alloc (.cells #[.bool false, .int .u64 0, .int .u64 0] 148)) := by go_grown
  have kx := keepA (.cells #[.bool false, .int .u64 0, .int .u64 0] 148) (keepA (.cells #[.bool true, .int .u64 0, .int .u64 1] 148) (heap_alloc_new w (.cells #[.bool true, .int .u64 0, .int .u64 p] 148)))
  have ky := keepA (.cells #[.bool false, .int .u64 0, .int .u64 0] 148) (heap_alloc_new (w.alloc (.cells #[.bool true, .int .u64 0, .int .u64 p] 148)) (.cells #[.bool true, .int .u64 0, .int .u64 1] 148))
  have kr := heap_alloc_new ((w.alloc (.cells #[.bool true, .int .u64 0, .int .u64 p] 148)).alloc (.cells #[.bool true, .int .u64 0, .int .u64 1] 148)) (.cells #[.bool false, .int .u64 0, .int .u64 0] 148)
  rw [World.size_alloc] at ky
  rw [World.size_alloc, World.size_alloc] at kr
  have KX := Lib.hid kx
  have KY := Lib.hid ky
  have KR := Lib.hid kr
  have HB := Lib.hid hb
  clear kx ky kr hb
  dsimp only [WI.v]
  have HP := Lib.hid (And.intro h1 h2)
  have a1 : (p + 1 + 0) % 18446744073709551616 = p + 1 := by omega
  have a2 : (p + 1 + 0) / 18446744073709551616 = 0 := by omega
  go_enter Tryz.func172, Tryz.ntmps172
  go_wp2_with fail
  refine (wcheck_any ⟨true, 0, p⟩ ⟨true, 0, 1⟩ _ (wf_lo (by omega) (by omega)) (wf_lo (by omega) (by omega)) (form_lo (by omega)) (form_lo (by omega))).mono ?_
  rintro e w1 ⟨rfl, hb1⟩
  have hx1 := keep hb1 KX.out
  have hy1 := keep hb1 KY.out
  have hr1 := keep hb1 KR.out
  have x0 := cell_at hx1 0
  have x1 := cell_at hx1 1
  have x2 := cell_at hx1 2
  have y0 := cell_at hy1 0
  have y1 := cell_at hy1 1
  have y2 := cell_at hy1 2
  simp at x0 x1 x2 y0 y1 y2
  have HB1 := Lib.hid (HB.out.trans (hb1.mono HB.out.size))
  have HR1 := Lib.hid hr1
  clear hb1 hx1 hy1 hr1
  go_wp2
  rw [run_callFunc_extern Tryz.func179 (by kernel_rfl) (by kernel_rfl) (by kernel_rfl) (e := add64Entry) (by kernel_rfl), run_add64 p 1 0 (by omega) (by omega) (by omega) (by omega)]
  simp only [Result.andThen]
  rw [Oper.upon_value, a1, a2]
  go_wp2
  rw [run_callFunc_extern Tryz.func179 (by kernel_rfl) (by kernel_rfl) (by kernel_rfl) (e := add64Entry) (by kernel_rfl), run_add64 0 0 0 (by omega) (by omega) (by omega) (by omega)]
  simp only [Result.andThen]
  rw [Oper.upon_value]
  go_wp2_with fail
  refine (wfit_any true 0 (p + 1) _ (by omega) (by omega) (by omega) (by omega)).mono ?_
  rintro e w2 ⟨rfl, hb2⟩
  rw [one_made (by omega)]
  have hr2 := keep hb2 HR1.out
  have q0 := cell_at hr2 0
  have q1 := cell_at hr2 1
  have q2 := cell_at hr2 2
  have g0 := free_at hr2 0
  have g1 := free_at hr2 1
  have g2 := free_at hr2 2
  simp at q0 q1 q2
  have HB2 := Lib.hid (HB1.out.trans (hb2.mono HB1.out.size))
  clear hb2 x0 x1 x2 y0 y1 y2
  dsimp only [WI.v]
  go_wp2_with fail
  refine bodyPost_ret (v := .tuple #[.agg #[.bool true, .int .u64 0, .int .u64 (p + 1)], .int .i64 0]) (by simp [results, Tryz.results172, go_sem, q0, q1, q2]) rfl ?_
  exact ⟨rfl, ((HB2.out.setCell (by show w.heap.size ≤ w.heap.size + 1 + 1; omega) _).setCell (by show w.heap.size ≤ w.heap.size + 1 + 1; omega) _).setCell (by show w.heap.size ≤ w.heap.size + 1 + 1; omega) _⟩
set_option maxRecDepth 100000 in
set_option maxHeartbeats 8000000 in
theorem wsub_one (p : Int) (w : World) (h1 : 1 ≤ p) (h2 : p ≤ 9223372036854775807) : Calls Tryz.prog 152 #[WI.v ⟨true, 0, p⟩, WI.v ⟨false, 0, 1⟩] w fun e w' => e = .returned (.tuple #[WI.v ⟨true, 0, p + 1⟩, .int .i64 0]) ∧ Below w.heap.size w w' := by
  have hb : Below w.heap.size w (((w.alloc (.cells #[.bool true, .int .u64 0, .int .u64 p] 148)).alloc (.cells #[.bool false, .int .u64 0, .int .u64 1] 148)).alloc (.cells #[.bool false, .int .u64 0, .int .u64 0] 148)) := by go_grown
  have kx := keepA (.cells #[.bool false, .int .u64 0, .int .u64 0] 148) (keepA (.cells #[.bool false, .int .u64 0, .int .u64 1] 148) (heap_alloc_new w (.cells #[.bool true, .int .u64 0, .int .u64 p] 148)))
  have ky := keepA (.cells #[.bool false, .int .u64 0, .int .u64 0] 148) (heap_alloc_new (w.alloc (.cells #[.bool true, .int .u64 0, .int .u64 p] 148)) (.cells #[.bool false, .int .u64 0, .int .u64 1] 148))
  have kr := heap_alloc_new ((w.alloc (.cells #[.bool true, .int .u64 0, .int .u64 p] 148)).alloc (.cells #[.bool false, .int .u64 0, .int .u64 1] 148)) (.cells #[.bool false, .int .u64 0, .int .u64 0] 148)
  rw [World.size_alloc] at ky
  rw [World.size_alloc, World.size_alloc] at kr
  have KX := Lib.hid kx
  have KY := Lib.hid ky
  have KR := Lib.hid kr
  have HB := Lib.hid hb
  clear kx ky kr hb
  dsimp only [WI.v]
  have HP := Lib.hid (And.intro h1 h2)
  go_enter Tryz.func152, Tryz.ntmps152
  go_wp2_with fail
  refine (wcheck_any ⟨true, 0, p⟩ ⟨false, 0, 1⟩ _ (wf_lo (by omega) (by omega)) (wf_lo (by omega) (by omega)) (form_lo (by omega)) (form_lo (by omega))).mono ?_
  rintro e w1 ⟨rfl, hb1⟩
  have hx1 := keep hb1 KX.out
  have hy1 := keep hb1 KY.out
  have hr1 := keep hb1 KR.out
  have x0 := cell_at hx1 0
  have x1 := cell_at hx1 1
  have x2 := cell_at hx1 2
  have y0 := cell_at hy1 0
  have y1 := cell_at hy1 1
  have y2 := cell_at hy1 2
  simp at x0 x1 x2 y0 y1 y2
  have HB1 := Lib.hid (HB.out.trans (hb1.mono HB.out.size))
  have HR1 := Lib.hid hr1
  have HX1 := Lib.hid hx1
  clear hb1 hx1 hy1 hr1
  have fin : ∀ w3, Below w1.heap.size w1 w3 → w3.heap[w.heap.size + 1 + 1]? = some (.cells #[.bool false, .int .u64 0, .int .u64 0] 148 (0, 0)) := fun w3 h => keep h HR1.out
  have FIN := Lib.hid fin
  clear fin
  go_upto_region 4 with (fail)
  go_region_with (first
    | (go_at_call 173; refine (wneg_any ⟨false, 0, 1⟩ _ (wf_lo (by omega) (by omega)) (form_lo (by omega))).mono ?_; rintro e w2 ⟨rfl, hb2⟩; rw [one_made (by simp)]; dsimp only [WI.v]; have HB2 := Lib.hid (show Below w1.heap.size w1 w2 from ((Below.refl w1.heap.size w1).drew).trans (hb2.mono (by simp))); clear hb2; have z0 := cell_at (keep HB2.out HX1.out) 0; have z1 := cell_at (keep HB2.out HX1.out) 1; have z2 := cell_at (keep HB2.out HX1.out) 2; simp at z0 z1 z2)
    | (go_at_call 172; refine (wadd_neg p _ HP.out.1 HP.out.2).mono ?_; rintro e w3 ⟨rfl, hb3⟩; dsimp only [WI.v]; have HB3 := Lib.hid (HB2.out.trans (hb3.mono HB2.out.size)); clear hb3; have hr2 := FIN.out _ HB3.out; have q0 := cell_at hr2 0; have q1 := cell_at hr2 1; have q2 := cell_at hr2 2; have g0 := free_at hr2 0; have g1 := free_at hr2 1; have g2 := free_at hr2 2; simp at q0 q1 q2; have HB4 := Lib.hid (HB1.out.trans (HB3.out.mono HB1.out.size)))
    )
  all_goals
    go_wp2_with fail
    refine bodyPost_ret (v := .tuple #[.agg #[.bool true, .int .u64 0, .int .u64 (p + 1)], .int .i64 0]) (by simp [results, Tryz.results152, go_sem, q0, q1, q2]) rfl ?_
    exact ⟨rfl, ((HB4.out.setCell (by show w.heap.size ≤ w.heap.size + 1 + 1; omega) _).setCell (by show w.heap.size ≤ w.heap.size + 1 + 1; omega) _).setCell (by show w.heap.size ≤ w.heap.size + 1 + 1; omega) _⟩
end Go.Proofs.YtoadihebdaooaaaGreat
namespace Go.Proofs.YtoadihebdaooaaaGreat
open Go.RowKit
set_option linter.unusedVariables false
def kSig (k : Int) : Bool := decide (2 ≤ k ∧ k ≤ 5)
/-- The greatest number of a kind. -/
def kMax (k : Int) : Int := if k = 1 then 1 else if k = 2 then 127 else if k = 3 then 32767 else if k = 4 then 2147483647 else if k = 5 then 9223372036854775807 else if k = 6 then 255 else if k = 7 then 65535 else if k = 8 then 4294967295 else 18446744073709551615
def kMin (k : Int) : Int := if kSig k then -(kMax k + 1) else 0
def leastW (k : Int) : WI := if kSig k then ⟨true, 0, kMax k + 1⟩ else ⟨false, 0, 0⟩
def greatW (k : Int) : WI := ⟨false, 0, kMax k⟩
theorem kMax_bd (k : Int) : 1 ≤ kMax k ∧ kMax k ≤ 18446744073709551615 ∧ (kSig k = true → kMax k ≤ 9223372036854775807) := by
  unfold kMax kSig
  refine ⟨?_, ?_, ?_⟩
  · repeat' split <;> omega
  · repeat' split <;> omega
  · intro h
    simp at h
    repeat' split <;> omega
theorem greatW_wf (k : Int) : (greatW k).wf := wf_lo (by have := kMax_bd k; omega) (by have := kMax_bd k; omega)
theorem greatW_form (k : Int) : (greatW k).form = true := form_lo (by have := kMax_bd k; omega)
theorem greatW_val (k : Int) : (greatW k).val = kMax k := by simp [greatW, WI.val]
theorem leastW_wf (k : Int) : (leastW k).wf := by
  unfold leastW
  cases h : kSig k
  · exact wf_lo (by simp) (by simp)
  · have := kMax_bd k
    exact wf_lo (by omega) (by have := this.2.2 h; omega)
theorem leastW_form (k : Int) : (leastW k).form = true := by
  unfold leastW
  cases h : kSig k
  · rfl
  · have := kMax_bd k
    exact form_lo (by omega)
theorem leastW_val (k : Int) : (leastW k).val = kMin k := by
  unfold leastW kMin
  cases h : kSig k
  · rfl
  · simp [WI.val]
theorem shapes_full (W : World) (k : Int) (h1 : 1 ≤ k) (h2 : k ≤ 10) : ∃ s, (W.alloc shapesObj).cell? ⟨W.heap.size, k.toNat * 3, none⟩ = some (.string s) ∧
    (W.alloc shapesObj).cell? ⟨W.heap.size, k.toNat * 3 + 1, none⟩ = some (.int .i64 (kSize k)) ∧ (W.alloc shapesObj).cell? ⟨W.heap.size, k.toNat * 3 + 2, none⟩ = some (.bool (kSig k)) := by
  have h' : k = 1 ∨ k = 2 ∨ k = 3 ∨ k = 4 ∨ k = 5 ∨ k = 6 ∨ k = 7 ∨ k = 8 ∨ k = 9 ∨ k = 10 := by omega
  have hh : (W.alloc shapesObj).heap[W.heap.size]? = some shapesObj := heap_alloc_new W _
  rcases h' with rfl | rfl | rfl | rfl | rfl | rfl | rfl | rfl | rfl | rfl
  all_goals
    apply Exists.intro
    refine ⟨?_, ?_, ?_⟩
    all_goals (unfold World.cell?; rw [hh]; rfl)
theorem of_full (k : Int) (w : World) (h1 : 1 ≤ k) (h2 : k ≤ 10) : Calls Tryz.prog 147 #[.int .i64 k] w fun e w' => ∃ s, e = .returned (.agg #[.string s, .int .i64 (kSize k), .bool (kSig k)]) ∧ Below w.heap.size w w' := by
  obtain ⟨s, c0, c1, c2⟩ := shapes_full (w.alloc (Obj.cells #[Value.string { data := #[] }, Value.int IntKind.i64 0, Value.bool false] 241)) k h1 h2
  rw [World.size_alloc] at c0 c1 c2
  have hk := kindB_true h1 h2
  go_enter Tryz.func147, Tryz.ntmps147
  go_wp2_with (first | (go_at_call 167; refine (shapes_any _).mono ?_; rintro e w' ⟨rfl, rfl⟩) | (go_at_call 142; refine (isKind_any _ _).mono ?_; rintro e w' ⟨rfl, rfl⟩))
  go_returns
  exact ⟨s, rfl, by go_grown⟩
def pMax (n : Int) : Int := if n = 8 then 255 else if n = 16 then 65535 else if n = 32 then 4294967295 else 18446744073709551615
theorem power_any (n : Int) (w : World) (h : n = 8 ∨ n = 16 ∨ n = 32 ∨ n = 64) : Calls Tryz.prog 144 #[.int .i64 n] w fun e w' => e = .returned (.int .u64 (pMax n)) ∧ w = w' := by
  rcases h with rfl | rfl | rfl | rfl
  all_goals
    go_enter Tryz.func144, Tryz.ntmps144
    go_wp2_with fail
    go_returns
    exact ⟨rfl, rfl⟩
set_option maxRecDepth 100000 in
theorem wof_pos (n : Int) (w : World) (h0 : 0 ≤ n) (h1 : n ≤ 9223372036854775807) : Calls Tryz.prog 73 #[.int .i64 n] w fun e w' => e = .returned (WI.v ⟨false, 0, n⟩) ∧ Below w.heap.size w w' := by
  have hb : Below w.heap.size w (w.alloc (.cells #[.bool false, .int .u64 0, .int .u64 0] 148)) := by go_grown
  have kr := heap_alloc_new w (.cells #[.bool false, .int .u64 0, .int .u64 0] 148)
  have HB := Lib.hid hb
  have KR := Lib.hid kr
  have e1 : decide (n < 0) = false := by simp; omega
  clear hb kr
  go_enter Tryz.func73, Tryz.ntmps73
  go_wp2_with fail
  refine (wofword_any n _).mono ?_
  rintro e w2 ⟨rfl, hb2⟩
  have hr2 := keep hb2 KR.out
  have q0 := cell_at hr2 0
  have q1 := cell_at hr2 1
  have q2 := cell_at hr2 2
  have g0 := free_at hr2 0
  have g1 := free_at hr2 1
  have g2 := free_at hr2 2
  simp at q0 q1 q2
  have HB2 := Lib.hid (HB.out.trans (hb2.mono HB.out.size))
  clear hb2
  dsimp only [WI.v]
  go_wp2_with fail
  refine bodyPost_ret (v := .agg #[.bool false, .int .u64 0, .int .u64 n]) (by simp [results, Tryz.results73, go_sem, q0, q1, q2]) rfl ?_
  exact ⟨rfl, ((HB2.out.setCell (by simp) _).setCell (by simp) _).setCell (by simp) _⟩
set_option maxRecDepth 100000 in
set_option maxHeartbeats 4000000 in
theorem greatest_any (k : Int) (w : World) (h1 : 1 ≤ k) (h2 : k ≤ 10) : Calls Tryz.prog 151 #[.int .i64 k] w fun e w' => e = .returned (WI.v (greatW k)) ∧ Below w.heap.size w w' := by
  have hb : Below w.heap.size w (w.alloc (.cells #[.bool false, .int .u64 0, .int .u64 0] 148)) := by go_grown
  have kr := heap_alloc_new w (.cells #[.bool false, .int .u64 0, .int .u64 0] 148)
  have HB := Lib.hid hb
  have KR := Lib.hid kr
  clear hb kr
  have h' : k = 1 ∨ k = 2 ∨ k = 3 ∨ k = 4 ∨ k = 5 ∨ k = 6 ∨ k = 7 ∨ k = 8 ∨ k = 9 ∨ k = 10 := by omega
  clear h1 h2
  obtain ⟨g, hg⟩ : ∃ g, g = greatW k := ⟨_, rfl⟩
  have HG := Lib.hid hg
  clear hg
  rcases h' with rfl | rfl | rfl | rfl | rfl | rfl | rfl | rfl | rfl | rfl
  all_goals
    go_enter Tryz.func151, Tryz.ntmps151
    go_wp2_with fail
    refine (of_full _ _ (by omega) (by omega)).mono ?_
    rintro e w1 ⟨s, rfl, hb1⟩
    simp only [kSize, kSig]
    have hr1 := keep hb1 KR.out
    have HB1 := Lib.hid (HB.out.trans (hb1.mono HB.out.size))
    have HR1 := Lib.hid hr1
    clear hb1 hr1
    go_wp2_with (first | (go_at_call 144; refine (power_any _ _ (by simp)).mono ?_; rintro e w' ⟨rfl, rfl⟩; simp only [pMax]))
    first | (refine (wof_pos _ _ (by omega) (by omega)).mono ?_) | (refine (wofword_any _ _).mono ?_)
    rintro e w2 ⟨rfl, hb2⟩
    dsimp only [WI.v]
    have hr2 := keep hb2 (keepA _ HR1.out)
    have q0 := cell_at hr2 0
    have q1 := cell_at hr2 1
    have q2 := cell_at hr2 2
    have g0 := free_at hr2 0
    have g1 := free_at hr2 1
    have g2 := free_at hr2 2
    simp at q0 q1 q2
    have HB2 := Lib.hid ((HB1.out.alloc HB1.out.size _).trans (hb2.mono (HB1.out.alloc HB1.out.size _).size))
    clear hb2
    go_wp2_with fail
    refine bodyPost_ret (v := WI.v g) (by rw [HG.out]; simp [results, Tryz.results151, go_sem, q0, q1, q2, WI.v, greatW, kMax]) rfl ?_
    exact ⟨by rw [HG.out], ((HB2.out.setCell (by simp) _).setCell (by simp) _).setCell (by simp) _⟩
theorem fldShape (s : ByteArray) (n : Int) (b : Bool) (w : World) : Sem.run Tryz.prog (Instr.field 241 (.agg #[.string s, .int .i64 n, .bool b]) 2) w = .ok (.bool b) w := by kernel_rfl
set_option maxRecDepth 100000 in
set_option maxHeartbeats 4000000 in
theorem least_any (k : Int) (w : World) (h1 : 1 ≤ k) (h2 : k ≤ 10) : Calls Tryz.prog 160 #[.int .i64 k] w fun e w' => e = .returned (WI.v (leastW k)) ∧ Below w.heap.size w w' := by
  have hb : Below w.heap.size w (w.alloc (.cells #[.bool false, .int .u64 0, .int .u64 0] 148)) := by go_grown
  have kr := heap_alloc_new w (.cells #[.bool false, .int .u64 0, .int .u64 0] 148)
  have HB := Lib.hid hb
  have KR := Lib.hid kr
  clear hb kr
  cases hs : kSig k
  · have HL := Lib.hid (show leastW k = ⟨false, 0, 0⟩ by unfold leastW; rw [hs]; rfl)
    go_enter Tryz.func160, Tryz.ntmps160
    go_wp2_with fail
    refine (of_full _ _ h1 h2).mono ?_
    rintro e w1 ⟨s, rfl, hb1⟩
    rw [hs]
    have hr2 := keep hb1 KR.out
    have q0 := cell_at hr2 0
    have q1 := cell_at hr2 1
    have q2 := cell_at hr2 2
    have g0 := free_at hr2 0
    have g1 := free_at hr2 1
    have g2 := free_at hr2 2
    simp at q0 q1 q2
    have HB2 := Lib.hid (HB.out.trans (hb1.mono HB.out.size))
    have hfld := fldShape s (kSize k) false
    clear hb1 hs
    go_wp2_with fail
    refine bodyPost_ret (v := WI.v ⟨false, 0, 0⟩) (by simp [results, Tryz.results160, go_sem, q0, q1, q2, WI.v]) rfl ?_
    exact ⟨by rw [HL.out], ((HB2.out.setCell (by simp) _).setCell (by simp) _).setCell (by simp) _⟩
  · have HL := Lib.hid (show leastW k = ⟨true, 0, kMax k + 1⟩ by unfold leastW; rw [hs]; rfl)
    have hm := kMax_bd k
    have hm1 := hm.1
    have hm2 := hm.2.2 hs
    have HM := Lib.hid (And.intro hm1 hm2)
    clear hm hm1 hm2
    go_enter Tryz.func160, Tryz.ntmps160
    go_wp2_with fail
    refine (of_full _ _ h1 h2).mono ?_
    rintro e w1 ⟨s, rfl, hb1⟩
    rw [hs]
    have HR1 := Lib.hid (keep hb1 KR.out)
    have HB1 := Lib.hid (HB.out.trans (hb1.mono HB.out.size))
    have hfld := fldShape s (kSize k) true
    clear hb1 hs
    go_wp2_with fail
    clear hfld
    refine (greatest_any _ _ h1 h2).mono ?_
    rintro e w2 ⟨rfl, hb2⟩
    have HR2 := Lib.hid (keep hb2 HR1.out)
    have HB2 := Lib.hid (HB1.out.trans (hb2.mono HB1.out.size))
    clear hb2
    go_wp2_with fail
    refine (wneg_any (greatW k) _ (greatW_wf k) (greatW_form k)).mono ?_
    rintro e w3 ⟨rfl, hb3⟩
    have hmd : WI.made (!(greatW k).neg) (greatW k).hi (greatW k).lo = ⟨true, 0, kMax k⟩ := one_made (by have := HM.out.1; show kMax k ≠ 0; omega)
    rw [hmd]
    have HR3 := Lib.hid (keep hb3 HR2.out)
    have HB3 := Lib.hid (HB2.out.trans (hb3.mono HB2.out.size))
    clear hb3 hmd
    go_wp2_with fail
    refine (wof_pos 1 _ (by omega) (by omega)).mono ?_
    rintro e w4 ⟨rfl, hb4⟩
    have HR4 := Lib.hid (keep hb4 HR3.out)
    have HB4 := Lib.hid (HB3.out.trans (hb4.mono HB3.out.size))
    clear hb4
    go_wp2_with fail
    refine (wsub_one (kMax k) _ HM.out.1 HM.out.2).mono ?_
    rintro e w5 ⟨rfl, hb5⟩
    have hr5 := keep hb5 HR4.out
    have HB5 := Lib.hid (HB4.out.trans (hb5.mono HB4.out.size))
    have HR6 := Lib.hid (keepA (.cells #[.bool true, .int .u64 0, .int .u64 (kMax k + 1)] 148) hr5)
    have HN6 := Lib.hid (heap_alloc_new w5 (.cells #[.bool true, .int .u64 0, .int .u64 (kMax k + 1)] 148))
    have HB6 := Lib.hid (HB5.out.alloc HB5.out.size (.cells #[.bool true, .int .u64 0, .int .u64 (kMax k + 1)] 148))
    clear hb5 hr5
    dsimp only [WI.v]
    go_upto_region 4 with (fail)
    generalize w5.alloc (.cells #[.bool true, .int .u64 0, .int .u64 (kMax k + 1)] 148) = w6 at *
    generalize w5.heap.size = nb at *
    have q0 := cell_at HR6.out 0
    have q1 := cell_at HR6.out 1
    have q2 := cell_at HR6.out 2
    have g0 := free_at HR6.out 0
    have g1 := free_at HR6.out 1
    have g2 := free_at HR6.out 2
    have n0 := cell_at HN6.out 0
    have n1 := cell_at HN6.out 1
    have n2 := cell_at HN6.out 2
    simp at q0 q1 q2 n0 n1 n2
    go_wp2_with fail
    refine bodyPost_ret (v := WI.v ⟨true, 0, kMax k + 1⟩) (by simp [results, Tryz.results160, go_sem, q0, q1, q2, WI.v]) rfl ?_
    exact ⟨by rw [HL.out], ((HB6.out.setCell (by simp) _).setCell (by simp) _).setCell (by simp) _⟩
end Go.Proofs.YtoadihebdaooaaaGreat
namespace Go.Proofs.YtoadihebdaooaaaGreat
open Go.RowKit
set_option linter.unusedVariables false
section
variable {P : Program} {l : List Oper} {Q : Exit → Act → World → Prop} {a0 : Act} {w0 : World}
theorem putAll_size {vs : Nat → Value} : ∀ (l : List Oper) (k : Nat) (a : Act), (putAll vs k l a).tmps.size = a.tmps.size
  | [], _, _ => rfl
  | o :: r, k, a => by
    unfold putAll
    rw [putAll_size r (k + 1) _]
    cases o.dst <;> simp [Act.put]
theorem putAll_miss {vs : Nat → Value} {d : Nat} : ∀ (l : List Oper) (k : Nat) (a : Act), (l.all fun o => o.dst != some d) = true → (putAll vs k l a).tmps[d]? = a.tmps[d]?
  | [], _, _, _ => rfl
  | o :: r, k, a, h => by
    rw [List.all_cons, Bool.and_eq_true] at h
    unfold putAll
    rw [putAll_miss r (k + 1) _ h.2]
    cases hd : o.dst with
    | none => rfl
    | some e =>
      have : e ≠ d := fun he => by subst he; rw [hd] at h; simp at h
      simp [Act.put, this]
theorem putAll_hit {vs : Nat → Value} {j d : Nat} {o : Oper} (hn : noDup l = true) (ho : l[j]? = some o) (hd : o.dst = some d) (hs : d < a0.tmps.size) : (putAll vs 0 l a0).tmps[d]? = some (vs j) := by
  have h := putAll_upd (vs := vs) (v := vs j) l 0 j a0 o hn ho
  have e : putAll (updV vs (0 + j) (vs j)) 0 l a0 = putAll vs 0 l a0 := putAll_congr l 0 a0 (fun i _ => by
    unfold updV
    by_cases hi : i = 0 + j
    · rw [if_pos hi, hi, Nat.zero_add]
    · rw [if_neg hi])
  rw [e] at h
  rw [← h, hd]
  have hs' : d < (putAll vs 0 l a0).tmps.size := by rw [putAll_size]; exact hs
  simp [Act.put, hs']
/-- What a frame is while a region draws. -/
structure FrameIs (l : List Oper) (vs : Nat → Value) (a0 A : Act) : Prop where
  hit : ∀ (j d : Nat), (l[j]?).bind (·.dst) = some d → d < a0.tmps.size → A.tmps[d]? = some (vs j)
  miss : ∀ (d : Nat), (l.all fun o => o.dst != some d) = true → A.tmps[d]? = a0.tmps[d]?
theorem frameIs_put (hn : noDup l = true) (vs : Nat → Value) : FrameIs l vs a0 (putAll vs 0 l a0) := by
  refine ⟨fun j d h hs => ?_, fun d h => putAll_miss l 0 a0 h⟩
  cases ho : l[j]? with
  | none => rw [ho] at h; cases h
  | some o => rw [ho] at h; exact putAll_hit hn ho h hs
/-- The rule. -/
theorem wp_region_frame {id : Nat} (hm : P.follows .mixedOrders = true) (hn : noDup l = true) (he : edgesB 0 l = true) (R : Nat → Value → World → Prop) (stable : ∀ i v w w', R i v w → Below w.heap.size w w' → R i v w')
    (step : ∀ (vs : Nat → Value) (w : World) (i : Nat) (o : Oper) (A : Act), FrameIs l vs a0 A → Below w0.heap.size w0 w → l[i]? = some o → (∀ e ∈ o.after, Region.binds .any e = true → R e.on (vs e.on) w) → StepGoal P l o A w (R i) Q)
    (fin : ∀ (vs : Nat → Value) (w : World), Below w0.heap.size w0 w → (∀ i, i < l.length → R i (vs i) w) → Q .normal (putAll vs 0 l a0) w) :
    (Code.region id l.toArray true).wp P Q a0 w0 :=
  wp_region_grow hm hn he R stable (fun vs w i o hb ho hd => step vs w i o _ (frameIs_put hn vs) hb ho hd) fin
theorem FrameIs.m {vs : Nat → Value} {A : Act} (F : FrameIs l vs a0 A) {d : Nat} {v : Value} (h1 : (l.all fun o => o.dst != some d) = true) (hv : a0.tmps[d]? = some v) : A.tmps[d]?.getD undef = v := by
  rw [F.miss d h1, hv]; rfl
/-- The same without the frame that was. -/
def FrameL (l : List Oper) (vs : Nat → Value) (n : Nat) (A : Act) : Prop := ∀ (j d : Nat), (l[j]?).bind (·.dst) = some d → d < n → A.tmps[d]? = some (vs j)
theorem FrameIs.light {vs : Nat → Value} {A : Act} (F : FrameIs l vs a0 A) {n : Nat} (h : a0.tmps.size = n) : FrameL l vs n A := fun j d h1 h2 => F.hit j d h1 (by rw [h]; exact h2)
theorem FrameL.h {vs : Nat → Value} {A : Act} {n : Nat} (F : FrameL l vs n A) {j d : Nat} {v : Value} (h1 : (l[j]?).bind (·.dst) = some d) (h2 : d < n) (hv : vs j = v) : A.tmps[d]?.getD undef = v := by
  rw [F j d h1 h2, hv]; rfl
theorem frame_wanted {vs : Nat → Value} {A : Act} {n : Nat} (F : FrameL l vs n A) {o : Oper} {g d : Nat} {b c : Bool} (hg : o.guard = some (g, b)) (h1 : (l[g]?).bind (·.dst) = some d) (h2 : d < n) (hv : vs g = .bool c) :
    Region.wanted o (yielded l.toArray A.tmps) = (c == b) := by
  unfold Region.wanted yielded
  rw [hg]
  simp only [List.getElem?_toArray]
  rw [h1]
  simp only [Option.bind_some]
  rw [F g d h1 h2, hv]
  cases c <;> cases b <;> rfl
theorem step_yes {vs : Nat → Value} {A : Act} {n : Nat} {w : World} {R : Value → World → Prop} (F : FrameL l vs n A) {o : Oper} {g d : Nat} {b : Bool} (hg : o.guard = some (g, b)) (h1 : (l[g]?).bind (·.dst) = some d) (h2 : d < n) (hv : vs g = .bool b)
    (h : o.wp P A w (fun a' w' => ∃ v, a' = A.put o.dst v ∧ R v w' ∧ Below w.heap.size w w') Q) : StepGoal P l o A w R Q := by
  unfold StepGoal
  rw [if_pos (by rw [frame_wanted F hg h1 h2 hv]; cases b <;> rfl)]
  exact h
theorem step_not {vs : Nat → Value} {A : Act} {n : Nat} {w : World} {R : Value → World → Prop} (F : FrameL l vs n A) {o : Oper} {g d : Nat} {b : Bool} (hg : o.guard = some (g, b)) (h1 : (l[g]?).bind (·.dst) = some d) (h2 : d < n) (hv : vs g = .bool !b)
    (h : R undef w) : StepGoal P l o A w R Q := by
  unfold StepGoal
  rw [if_neg (by rw [frame_wanted F hg h1 h2 hv]; cases b <;> simp)]
  exact h
/-- The end of a region that a cut is laid around (text H5). -/
theorem cut_done {bs : List Bool} {l0 : List Value} {d : List Deferred} {R : (Nat → Value) → World → Prop} {J : Act → World → Prop} (hJ : ∀ (v : List Value) (w' : World), R (nthV v) w' → mixF bs (nthV v) 0 l0 = v → J ⟨v.toArray, d⟩ w') (A : Act) (w' : World)
    (hd : A.defers = d) (hR : R (nthV A.tmps.toList) w') (hm : mixF bs (nthV A.tmps.toList) 0 l0 = A.tmps.toList) : J A w' := by
  have h := hJ _ _ hR hm
  cases A
  subst hd
  simpa using h
/-- An operation that reads. -/
theorem step_run {A : Act} {w : World} {R : Value → World → Prop} {o : Oper} {v : Value} (hv : (execOp A.eval o).run P w = .ok (.value v) w) (hR : R v w) :
    o.wp P A w (fun a' w' => ∃ v, a' = A.put o.dst v ∧ R v w' ∧ Below w.heap.size w w') Q := by
  unfold Oper.wp
  rw [hv]
  exact ⟨v, rfl, hR, Below.refl _ _⟩
end
end Go.Proofs.YtoadihebdaooaaaGreat
