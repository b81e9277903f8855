/- The document's graph: a way more in its row. -/
import Derived.Test.YtoadihebdaooaaaGreatR6
import Derived.Test.YtoadihebdaooaaaGreatH4
namespace Go.Proofs.YtoadihebdaooaaaGreat
open Go.RowKit
set_option linter.unusedVariables false
/-- What the region that lays a way more keeps. -/
structure MW (B0 ub ab : Nat) (A : Array Value) (wa : Option Addr) (m wc : Nat) (xs : List Value) (y : Int × Int × Bool) (w0 : World) (f : Nat → Bool) (vs : Nat → Value) (w : World) : Prop where
  c5 : f 5 = true → vs 5 = .slice wa m wc
  k6 : f 6 = true → f 1 = true ∧ f 5 = true
  k11 : f 11 = true → f 6 = true ∧ f 10 = true
  k14 : f 14 = true → f 11 = true
  arr : w.heap[ab]? = some (.cells A 135 (0, 0))
  bel : f 14 = false → Below B0 w0 w
  r1 : f 1 = true → f 6 = false → ∃ q, vs 1 = .slice (some ⟨q, 0, none⟩) 0 0 ∧ w.ownsRow B0 58 3 (vs 1) 0 [] ∧ (f 10 = true → ∀ p, vs 10 = .slice (some ⟨p, 0, none⟩) 1 1 → p ≠ q)
  r6 : f 6 = true → f 11 = false → ∃ q cap, vs 6 = .slice (some ⟨q, 0, none⟩) m cap ∧ w.ownsRow B0 58 3 (vs 6) m xs ∧ (f 10 = true → ∀ p, vs 10 = .slice (some ⟨p, 0, none⟩) 1 1 → p ≠ q)
  r10 : f 10 = true → f 11 = false → ∃ p, vs 10 = .slice (some ⟨p, 0, none⟩) 1 1 ∧ w.heap[p]? = some (.cells (wayL y).toArray 58 (0, 0))
  r11 : f 11 = true → f 14 = false → ∃ q cap, vs 11 = .slice (some ⟨q, 0, none⟩) (m + 1) cap ∧ w.ownsRow B0 58 3 (vs 11) (m + 1) (xs ++ wayL y)
  r14 : f 14 = true → ∃ w3 va vc, w = w3.setCell ⟨ub, 4, none⟩ (.slice va (m + 1) vc) ∧ Below B0 w0 w3 ∧ w3.ownsRow B0 58 3 (.slice va (m + 1) vc) (m + 1) (xs ++ wayL y)
def memS (i : Nat) : Bool := i == 1 || i == 5 || i == 6 || i == 10 || i == 11 || i == 14
theorem MW.congr {B0 ub ab : Nat} {A : Array Value} {wa : Option Addr} {m wc : Nat} {xs : List Value} {y : Int × Int × Bool} {w0 : World} (f g : Nat → Bool) (vs us : Nat → Value) (w : World) (hs : ∀ i, memS i = true → f i = g i ∧ vs i = us i) (h : MW B0 ub ab A wa m wc xs y w0 f vs w) : MW B0 ub ab A wa m wc xs y w0 g us w := by
  obtain ⟨f1, v1⟩ := hs 1 rfl
  obtain ⟨f5, v5⟩ := hs 5 rfl
  obtain ⟨f6, v6⟩ := hs 6 rfl
  obtain ⟨f10, v10⟩ := hs 10 rfl
  obtain ⟨f11, v11⟩ := hs 11 rfl
  obtain ⟨f14, v14⟩ := hs 14 rfl
  obtain ⟨c5, k6, k11, k14, arr, bel, r1, r6, r10, r11, r14⟩ := h
  rw [f1] at k6 r1; rw [f5] at c5 k6; rw [f6] at k6 k11 r1 r6; rw [f10] at k11 r1 r6 r10; rw [f11] at k11 k14 r6 r10 r11; rw [f14] at k14 bel r11 r14
  rw [v1] at r1; rw [v5] at c5; rw [v6] at r6; rw [v10] at r1 r6 r10; rw [v11] at r11
  exact ⟨c5, k6, k11, k14, arr, bel, r1, r6, r10, r11, r14⟩
theorem bool_no {f : Nat → Bool} {i : Nat} (h : f i = false) (e : f i = true) : False := by rw [h] at e; cases e
section
variable {B0 ub ab : Nat} {A : Array Value} {wa : Option Addr} {m wc : Nat} {xs : List Value} {y : Int × Int × Bool} {w0 : World} {f : Nat → Bool} {vs : Nat → Value} {w : World}
theorem MW.n11 (h : MW B0 ub ab A wa m wc xs y w0 f vs w) (h6 : f 6 = false) : f 11 = false := by
  cases e : f 11 with
  | false => rfl
  | true => exact absurd (h.k11 e).1 (by rw [h6]; decide)
theorem MW.n14 (h : MW B0 ub ab A wa m wc xs y w0 f vs w) (h11 : f 11 = false) : f 14 = false := by
  cases e : f 14 with
  | false => rfl
  | true => exact absurd (h.k14 e) (by rw [h11]; decide)
/-- The empty row is made. -/
theorem MW.do1 (h : MW B0 ub ab A wa m wc xs y w0 f vs w) (hB : B0 = w0.heap.size) (h0 : f 1 = false) : MW B0 ub ab A wa m wc xs y w0 (setB f 1) (updV vs 1 (.slice (some ⟨w.heap.size, 0, none⟩) 0 0)) (w.alloc (.cells #[] 58)) := by
  have h6 : f 6 = false := by
    cases e : f 6 with
    | false => rfl
    | true => exact absurd (h.k6 e).1 (by rw [h0]; decide)
  have h11 := h.n11 h6
  have h14 := h.n14 h11
  have hb := h.bel h14
  have hz := hb.size
  refine ⟨h.c5, fun e => ⟨rfl, (h.k6 e).2⟩, h.k11, h.k14, keepA _ h.arr, fun _ => hb.alloc (by omega) _, fun _ _ => ⟨w.heap.size, rfl, World.ownsRow_lit (base := B0) (e := 58) (size := 3) w #[] 0 (by omega) (by unfold maxLen; omega) rfl, fun e p hp => ?_⟩,
    fun e => (bool_no (f := f) h6 e).elim, fun e e' => ?_, fun e => (bool_no (f := f) h11 e).elim, fun e => (bool_no (f := f) h14 e).elim⟩
  · obtain ⟨p', hv, hh⟩ := h.r10 e h11
    have hp' : vs 10 = .slice (some ⟨p, 0, none⟩) 1 1 := hp
    rw [hv] at hp'
    cases hp'
    have := lt_some hh
    omega
  · obtain ⟨p, hv, hh⟩ := h.r10 e h11
    exact ⟨p, hv, keepA _ hh⟩
theorem MW.do5 (h : MW B0 ub ab A wa m wc xs y w0 f vs w) : MW B0 ub ab A wa m wc xs y w0 (setB f 5) (updV vs 5 (.slice wa m wc)) w :=
  ⟨fun _ => rfl, fun e => ⟨(h.k6 e).1, rfl⟩, h.k11, h.k14, h.arr, h.bel, h.r1, h.r6, h.r10, h.r11, h.r14⟩
/-- The old row is appended to the empty one. -/
theorem MW.do6 (h : MW B0 ub ab A wa m wc xs y w0 f vs w) (hB : B0 = w0.heap.size) (h1 : f 1 = true) (h5 : f 5 = true) (h6 : f 6 = false) {q cap : Nat} {w' : World} (hown : w'.ownsRow B0 58 3 (.slice (some ⟨q, 0, none⟩) m cap) m xs) (hg : w.grownBy w' (vs 1).ownBlock) (hq : (vs 1).ownBlock = some q ∨ q = w.heap.size) :
    MW B0 ub ab A wa m wc xs y w0 (setB f 6) (updV vs 6 (.slice (some ⟨q, 0, none⟩) m cap)) w' := by
  have h11 := h.n11 h6
  have h14 := h.n14 h11
  have hb := h.bel h14
  have hz := hb.size
  obtain ⟨q1, hv1, hr1, hd⟩ := h.r1 h1 h6
  have hob : (vs 1).ownBlock = some q1 := by rw [hv1]; rfl
  refine ⟨h.c5, fun _ => ⟨h1, h5⟩, fun e => ⟨rfl, (h.k11 e).2⟩, h.k14, keepG hg h.arr (ownsRow_ne_block hr1 h.arr (fun cur hc => by cases hc)), fun _ => hb.grown hg (by omega) (fun x hx => (hr1.lt x hx).1), fun _ e => Bool.noConfusion e,
    fun _ _ => ⟨q, cap, rfl, hown, fun e p hp => ?_⟩, fun e e' => ?_, fun e => (bool_no (f := f) h11 e).elim, fun e => (bool_no (f := f) h14 e).elim⟩
  · have h2 := hd e p hp
    obtain ⟨p', hv, hh⟩ := h.r10 e h11
    have hp' : vs 10 = .slice (some ⟨p, 0, none⟩) 1 1 := hp
    rw [hv] at hp'
    cases hp'
    rcases hq with hq | hq
    · rw [hob] at hq; cases hq; exact h2
    · have := lt_some hh; omega
  · obtain ⟨p, hv, hh⟩ := h.r10 e h11
    refine ⟨p, hv, keepG hg hh (fun he => ?_)⟩
    rw [hob] at he
    cases he
    exact hd e _ hv rfl
/-- The way is laid into memory. -/
theorem MW.do10 (h : MW B0 ub ab A wa m wc xs y w0 f vs w) (hB : B0 = w0.heap.size) (h10 : f 10 = false) : MW B0 ub ab A wa m wc xs y w0 (setB f 10) (updV vs 10 (.slice (some ⟨w.heap.size, 0, none⟩) 1 1)) (w.alloc (.cells (wayL y).toArray 58)) := by
  have h11 : f 11 = false := by
    cases e : f 11 with
    | false => rfl
    | true => exact absurd (h.k11 e).2 (by rw [h10]; decide)
  have h14 := h.n14 h11
  have hb := h.bel h14
  have hz := hb.size
  refine ⟨h.c5, h.k6, fun e => ⟨(h.k11 e).1, rfl⟩, h.k14, keepA _ h.arr, fun _ => hb.alloc (by omega) _, fun e1 e6 => ?_, fun e6 e11 => ?_, fun _ _ => ⟨w.heap.size, rfl, heap_alloc_new _ _⟩, fun e => (bool_no (f := f) h11 e).elim, fun e => (bool_no (f := f) h14 e).elim⟩
  · obtain ⟨q, hv, hr, _⟩ := h.r1 e1 e6
    refine ⟨q, hv, hr.alloc _, fun _ p hp => ?_⟩
    have hp' : Value.slice (some ⟨w.heap.size, 0, none⟩) 1 1 = .slice (some ⟨p, 0, none⟩) 1 1 := hp
    cases hp'
    have := (hr.lt q (by rw [hv]; rfl)).2
    omega
  · obtain ⟨q, cap, hv, hr, _⟩ := h.r6 e6 e11
    refine ⟨q, cap, hv, hr.alloc _, fun _ p hp => ?_⟩
    have hp' : Value.slice (some ⟨w.heap.size, 0, none⟩) 1 1 = .slice (some ⟨p, 0, none⟩) 1 1 := hp
    cases hp'
    have := (hr.lt q (by rw [hv]; rfl)).2
    omega
/-- The way is appended. -/
theorem MW.do11 (h : MW B0 ub ab A wa m wc xs y w0 f vs w) (hB : B0 = w0.heap.size) (h6 : f 6 = true) (h10 : f 10 = true) (h11 : f 11 = false) {q cap : Nat} {w' : World} (hown : w'.ownsRow B0 58 3 (.slice (some ⟨q, 0, none⟩) (m + 1) cap) (m + 1) (xs ++ wayL y)) (hg : w.grownBy w' (vs 6).ownBlock) :
    MW B0 ub ab A wa m wc xs y w0 (setB f 11) (updV vs 11 (.slice (some ⟨q, 0, none⟩) (m + 1) cap)) w' := by
  have h14 := h.n14 h11
  have hb := h.bel h14
  have hz := hb.size
  obtain ⟨q1, cap1, hv1, hr1, hd⟩ := h.r6 h6 h11
  exact ⟨h.c5, h.k6, fun _ => ⟨h6, h10⟩, fun _ => rfl, keepG hg h.arr (ownsRow_ne_block hr1 h.arr (fun cur hc => by cases hc)), fun _ => hb.grown hg (by omega) (fun x hx => (hr1.lt x hx).1), fun _ e => (bool_no (f := f) e h6).elim,
    fun _ e => Bool.noConfusion e, fun _ e => Bool.noConfusion e, fun _ _ => ⟨q, cap, rfl, hown⟩, fun e => (bool_no (f := f) h14 e).elim⟩
/-- The row is stored. -/
theorem MW.do14 (h : MW B0 ub ab A wa m wc xs y w0 f vs w) (h11 : f 11 = true) (h14 : f 14 = false) (hne : ab ≠ ub) (u : Value) : ∃ q cap, vs 11 = .slice (some ⟨q, 0, none⟩) (m + 1) cap ∧ MW B0 ub ab A wa m wc xs y w0 (setB f 14) (updV vs 14 u) (w.setCell ⟨ub, 4, none⟩ (vs 11)) := by
  obtain ⟨q, cap, hv, hr⟩ := h.r11 h11 h14
  refine ⟨q, cap, hv, h.c5, h.k6, h.k11, fun _ => h11, by rw [hset_ne _ _ _ _ (by simpa using hne)]; exact h.arr, fun e => Bool.noConfusion e, fun _ e => (bool_no (f := f) e (h.k11 h11).1).elim, fun _ e => (bool_no (f := f) e h11).elim, fun _ e => (bool_no (f := f) e h11).elim, fun _ e => Bool.noConfusion e, fun _ => ?_⟩
  refine ⟨w, some ⟨q, 0, none⟩, cap, by rw [hv], h.bel h14, by rw [hv] at hr; exact hr⟩
end
end Go.Proofs.YtoadihebdaooaaaGreat
