/- A rule for regions that draw their order, without guards: operations that are known values, and a few that change memory, with an invariant of those. -/
import Derived.Test.YtoadihebdaooaaaGreatH3
namespace Go.Proofs.YtoadihebdaooaaaGreat
open Go.RowKit
set_option linter.unusedVariables false
section
variable {P : Program} {l : List Oper} {Q : Exit → Act → World → Prop} {a0 : Act} {w0 : World}
theorem wp_region_mem {id : Nat} (hm : P.follows .mixedOrders = true) (hn : noDup l = true) (he : edgesB 0 l = true) (hg : (l.all fun o => o.guard.isNone) = true) (c : Nat → Value) (S : Nat → Bool) (M : (Nat → Bool) → (Nat → Value) → World → Prop)
    (hM : ∀ f g vs us w, (∀ i, S i = true → f i = g i ∧ vs i = us i) → M f vs w → M g us w) (hlen : ∀ i, S i = true → i < l.length)
    (start : ∀ vs, M (fun _ => false) vs { w0 with drawn := w0.drawn + 1 })
    (pure : ∀ (f : Nat → Bool) (vs : Nat → Value) (w : World) (i : Nat) (o : Oper), S i = false → M f vs w → l[i]? = some o → (∀ e ∈ o.after, Region.binds .any e = true → f e.on = true ∧ (S e.on = false → vs e.on = c e.on)) →
      o.wp P (putAll vs 0 l a0) w (fun a' w' => a' = (putAll vs 0 l a0).put o.dst (c i) ∧ w' = w) Q)
    (mem : ∀ (f : Nat → Bool) (vs : Nat → Value) (w : World) (i : Nat) (o : Oper), S i = true → M f vs w → f i = false → l[i]? = some o → (∀ e ∈ o.after, Region.binds .any e = true → f e.on = true ∧ (S e.on = false → vs e.on = c e.on)) →
      o.wp P (putAll vs 0 l a0) w (fun a' w' => ∃ v, a' = (putAll vs 0 l a0).put o.dst v ∧ M (setB f i) (updV vs i v) w') Q)
    (fin : ∀ (vs : Nat → Value) (w : World), M (fun _ => true) vs w → (∀ i, i < l.length → S i = false → vs i = c i) → Q .normal (putAll vs 0 l a0) w) :
    (Code.region id l.toArray true).wp P Q a0 w0 := by
  refine wp_region_inv hm hn he (fun f vs w => (∀ i, i < l.length → f i = true → S i = false → vs i = c i) ∧ M f vs w) ?_ (fun vs => ⟨fun i _ h _ => Bool.noConfusion h, start vs⟩) ?_ (fun vs w h => fin vs w h.2 (fun i hi hs => h.1 i hi rfl hs))
  · intro f g vs w hfg h
    exact ⟨fun i hi hgi hs => h.1 i hi (by rw [hfg i hi]; exact hgi) hs, hM f g vs vs w (fun i hs => ⟨hfg i (hlen i hs), rfl⟩) h.2⟩
  · intro f vs w i o hI ho hfi hd
    have hil : i < l.length := (List.getElem?_eq_some_iff.1 ho).1
    have hgo : o.guard = none := by
      rw [List.all_eq_true] at hg
      have := hg o (List.mem_of_getElem? ho)
      cases hgd : o.guard with
      | none => rfl
      | some _ => rw [hgd] at this; cases this
    rw [if_pos (by simp [Region.wanted, hgo])]
    have hdd : ∀ e ∈ o.after, Region.binds .any e = true → f e.on = true ∧ (S e.on = false → vs e.on = c e.on) := fun e hm hb => by
      have h1 := hd e hm hb
      have h2 := edges_at l 0 i o he ho e hm hb
      exact ⟨h1, fun hs => hI.1 e.on (by omega) h1 hs⟩
    cases hs : S i with
    | false =>
      refine Oper.wp_mono (fun a' w' h => ?_) (pure f vs w i o hs hI.2 ho hdd)
      obtain ⟨ha, hw⟩ := h
      subst hw
      refine ⟨c i, ha, fun j hj hfj hsj => ?_, hM f _ vs _ w' (fun j hsj => ?_) hI.2⟩
      · unfold updV
        by_cases hji : j = i
        · rw [if_pos hji, hji]
        · rw [if_neg hji]
          unfold setB at hfj
          rw [if_neg hji] at hfj
          exact hI.1 j hj hfj hsj
      · have hji : j ≠ i := fun e => by subst e; rw [hs] at hsj; cases hsj
        unfold setB updV
        rw [if_neg hji, if_neg hji]
        exact ⟨rfl, rfl⟩
    | true =>
      refine Oper.wp_mono (fun a' w' h => ?_) (mem f vs w i o hs hI.2 hfi ho hdd)
      obtain ⟨v, ha, hM'⟩ := h
      refine ⟨v, ha, fun j hj hfj hsj => ?_, hM'⟩
      have hji : j ≠ i := fun e => by subst e; rw [hs] at hsj; cases hsj
      unfold setB at hfj
      rw [if_neg hji] at hfj
      unfold updV
      rw [if_neg hji]
      exact hI.1 j hj hfj hsj
end
end Go.Proofs.YtoadihebdaooaaaGreat
