/- The rule for a region that draws its order, with an invariant of what has been done: most general. -/
import Derived.Test.YtoadihebdaooaaaGreatH2
namespace Go.Proofs.YtoadihebdaooaaaGreat
open Go.RowKit
set_option linter.unusedVariables false
def setB (f : Nat → Bool) (i : Nat) : Nat → Bool := fun j => if j = i then true else f j
section
variable {P : Program} {l : List Oper} {Q : Exit → Act → World → Prop} {a0 : Act} {w0 : World}
theorem wpAny_inv (hn : noDup l = true) (he : edgesB 0 l = true) (I : (Nat → Bool) → (Nat → Value) → World → Prop) (hext : ∀ f g vs w, (∀ i, i < l.length → f i = g i) → I f vs w → I g vs w)
    (step : ∀ (f : Nat → Bool) (vs : Nat → Value) (w : World) (i : Nat) (o : Oper), I f vs w → l[i]? = some o → f i = false → (∀ e ∈ o.after, Region.binds .any e = true → f e.on = true) →
      if Region.wanted o (yielded l.toArray (putAll vs 0 l a0).tmps) = true then o.wp P (putAll vs 0 l a0) w (fun a' w' => ∃ v, a' = (putAll vs 0 l a0).put o.dst v ∧ I (setB f i) (updV vs i v) w') Q else I (setB f i) (updV vs i undef) w)
    (fin : ∀ (vs : Nat → Value) (w : World), I (fun _ => true) vs w → Q .normal (putAll vs 0 l a0) w) :
    ∀ (fuel : Nat) (listed : Array Bool) (vs : Nat → Value) (w : World), listed.size = l.length → falses listed = fuel → I (fun i => listed.getD i false) vs w →
      wpAny P .any l.toArray Q fuel listed (putAll vs 0 l a0) w := by
  have done : ∀ (listed : Array Bool) (vs : Nat → Value) (w : World), listed.size = l.length → I (fun i => listed.getD i false) vs w → Region.ready .any l.toArray listed = [] → Q .normal (putAll vs 0 l a0) w := by
    intro listed vs w hs hI hr
    refine fin vs w (hext _ _ vs w (fun i hi => ?_) hI)
    have := all_listed he hs hr i hi
    have hlt : i < listed.size := by omega
    simpa [hlt] using this
  intro fuel
  induction fuel with
  | zero =>
    intro listed vs w hs hf hI
    have hr : Region.ready .any l.toArray listed = [] := by
      cases hq : Region.ready .any l.toArray listed with
      | nil => rfl
      | cons x xs =>
        exfalso
        have hx : x ∈ Region.ready .any l.toArray listed := by rw [hq]; simp
        have := falses_set (mem_ready.1 hx).1
        omega
    exact ⟨hr, done listed vs w hs hI hr⟩
  | succ fuel ih =>
    intro listed vs w hs hf hI
    refine ⟨done listed vs w hs hI, fun i hi => ?_⟩
    obtain ⟨h0, o, ho, hall⟩ := mem_ready.1 hi
    have ho' : l[i]? = some o := by simpa using ho
    have hil : i < l.length := (List.getElem?_eq_some_iff.1 ho').1
    have hi0 : listed.getD i false = false := by
      have hlt : i < listed.size := by omega
      simp [hlt] at h0 ⊢; exact h0
    have hst := step _ vs w i o hI ho' hi0 (fun e hm hbd => hall e hm hbd)
    have next : ∀ (v : Value) (w' : World), I (setB (fun i => listed.getD i false) i) (updV vs i v) w' → wpAny P .any l.toArray Q fuel (listed.setIfInBounds i true) ((putAll vs 0 l a0).put o.dst v) w' := by
      intro v w' hI'
      rw [putAll_upd l 0 i a0 o hn ho', Nat.zero_add]
      refine ih _ _ _ (by simpa using hs) (by have := falses_set h0; omega) (hext _ _ _ _ (fun j hj => ?_) hI')
      unfold setB
      by_cases hji : j = i
      · subst hji
        have hlt : j < listed.size := by omega
        simp [hlt]
      · rw [if_neg hji, getD_set_ne false (Ne.symm hji)]
    unfold wpOp
    simp only [ho]
    split
    · rename_i hw
      rw [if_pos hw] at hst
      exact .inl (Oper.wp_mono (fun a' w' ⟨v, ha, hv⟩ => by rw [ha]; exact next v w' hv) hst)
    · rename_i hw
      rw [if_neg hw] at hst
      exact next undef w hst
theorem wp_region_inv {id : Nat} (hm : P.follows .mixedOrders = true) (hn : noDup l = true) (he : edgesB 0 l = true) (I : (Nat → Bool) → (Nat → Value) → World → Prop) (hext : ∀ f g vs w, (∀ i, i < l.length → f i = g i) → I f vs w → I g vs w)
    (start : ∀ vs, I (fun _ => false) vs { w0 with drawn := w0.drawn + 1 })
    (step : ∀ (f : Nat → Bool) (vs : Nat → Value) (w : World) (i : Nat) (o : Oper), I f vs w → l[i]? = some o → f i = false → (∀ e ∈ o.after, Region.binds .any e = true → f e.on = true) →
      if Region.wanted o (yielded l.toArray (putAll vs 0 l a0).tmps) = true then o.wp P (putAll vs 0 l a0) w (fun a' w' => ∃ v, a' = (putAll vs 0 l a0).put o.dst v ∧ I (setB f i) (updV vs i v) w') Q else I (setB f i) (updV vs i undef) w)
    (fin : ∀ (vs : Nat → Value) (w : World), I (fun _ => true) vs w → Q .normal (putAll vs 0 l a0) w) :
    (Code.region id l.toArray true).wp P Q a0 w0 := by
  refine wp_region_any hm ?_
  obtain ⟨vs, h⟩ := putAll_self (a0 := a0) l 0
  have hfl : falses (Array.replicate l.toArray.size false) = l.toArray.size := by simp [falses, List.countP_replicate]
  have := wpAny_inv (a0 := a0) hn he I hext step fin l.toArray.size (Array.replicate l.toArray.size false) vs { w0 with drawn := w0.drawn + 1 } (by simp) hfl (hext _ _ _ _ (fun i hi => by simp [hi]) (start vs))
  rw [h] at this
  exact this
end
end Go.Proofs.YtoadihebdaooaaaGreat
