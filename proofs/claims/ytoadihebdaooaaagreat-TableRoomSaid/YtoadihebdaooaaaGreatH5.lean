/- Rules for loops and cuts in great frames: what is unknown is one function. -/
import Derived.Test.YtoadihebdaooaaaGreatH4
import Derived.Deep.LoopGhost
import Derived.Deep.Cut
import Derived.Deep.CutBlock
namespace Go.Proofs.YtoadihebdaooaaaGreat
open Go.RowKit
set_option linter.unusedVariables false
def nthV : List Value → Nat → Value
  | [], _ => undef
  | x :: _, 0 => x
  | _ :: r, n + 1 => nthV r n
/-- A frame, of which some slots are unknown. -/
def mixF : List Bool → (Nat → Value) → Nat → List Value → List Value
  | true :: bs, f, k, _ :: l => f k :: mixF bs f (k + 1) l
  | false :: bs, f, k, x :: l => x :: mixF bs f (k + 1) l
  | [], _, _, l => l
  | _ :: _, _, _, [] => []
section
variable {P : Program} {Q : Exit → Act → World → Prop} {l : List Value} {d : List Deferred} {w : World} {c : Code}
theorem wp_loop_f (bs : List Bool) (I : Nat → (Nat → Value) → World → Prop) (n₀ : Nat) (h₀ : I n₀ (nthV l) w) (hl : mixF bs (nthV l) 0 l = l)
    (round : ∀ (n : Nat) (f : Nat → Value) (wr : World), I n f wr → ∀ (J : Nat → Act → World → Prop) (K : Act → World → Prop), (∀ (k : Nat) (v : List Value) (w' : World), I k (nthV v) w' → mixF bs (nthV v) 0 l = v → J k ⟨v.toArray, d⟩ w') →
      (∀ a' w', Handed J n a' w' → K a' w') → c.wp P (Exit.then K Q) ⟨(mixF bs f 0 l).toArray, d⟩ wr) : (Code.loop c).wp P Q ⟨l.toArray, d⟩ w := by
  refine wp_loop_ghost_k (fun n a' w' => ∃ v : List Value, a' = ⟨v.toArray, d⟩ ∧ I n (nthV v) w' ∧ mixF bs (nthV v) 0 l = v) n₀ ⟨l, rfl, h₀, hl⟩ ?_
  rintro n a' w' ⟨v, rfl, hI, hv⟩ J K hJ hK
  have := round n (nthV v) w' hI J K (fun k v' w'' h1 h2 => hJ k _ w'' ⟨v', rfl, h1, h2⟩) hK
  rw [hv] at this
  exact this
theorem wp_cut_f {K : Act → World → Prop} (bs : List Bool) (R : (Nat → Value) → World → Prop)
    (rest : ∀ (f : Nat → Value) (wc : World), R f wc → K ⟨(mixF bs f 0 l).toArray, d⟩ wc)
    (first : ∀ (J K' : Act → World → Prop), (∀ (v : List Value) (w' : World), R (nthV v) w' → mixF bs (nthV v) 0 l = v → J ⟨v.toArray, d⟩ w') → (∀ a' w', Met J a' w' → K' a' w') → c.wp P (Exit.then K' Q) ⟨l.toArray, d⟩ w) :
    c.wp P (Exit.then K Q) ⟨l.toArray, d⟩ w := by
  refine wp_cut (fun a' w' => ∃ v : List Value, a' = ⟨v.toArray, d⟩ ∧ R (nthV v) w' ∧ mixF bs (nthV v) 0 l = v) ?_ ?_
  · rintro a' w' ⟨v, rfl, hR, hv⟩
    have := rest (nthV v) w' hR
    rw [hv] at this
    exact this
  · intro J K' hJ hK
    exact first J K' (fun v w' h1 h2 => hJ _ w' ⟨v, rfl, h1, h2⟩) hK
end
end Go.Proofs.YtoadihebdaooaaaGreat
