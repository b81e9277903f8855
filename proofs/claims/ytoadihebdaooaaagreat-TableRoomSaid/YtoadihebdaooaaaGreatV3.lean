/- What table.Add keeps, round by round. -/
import Derived.Test.YtoadihebdaooaaaGreatV2
namespace Go.Proofs.YtoadihebdaooaaaGreat
open Go.RowKit
set_option linter.unusedVariables false
theorem colL_at (l : List CV) {k : Nat} {y : CV} (h : l[k]? = some y) : (l.flatMap colL)[k * 4]? = some (.int .i64 y.c.id) ∧ (l.flatMap colL)[k * 4 + 1]? = some (.string y.c.name) ∧ (l.flatMap colL)[k * 4 + 2]? = some (.slice y.fa y.fl y.fc) ∧ (l.flatMap colL)[k * 4 + 3]? = some (.pointer (some ⟨y.cb, 0, none⟩)) := by
  induction l generalizing k with
  | nil => cases h
  | cons x r ih =>
    cases k with
    | zero => cases h; simp [colL]
    | succ k =>
      have hr := ih (k := k) (by simpa using h)
      have e : ((x :: r).flatMap colL) = colL x ++ r.flatMap colL := by simp
      have hl : (colL x).length = 4 := rfl
      rw [e]
      refine ⟨?_, ?_, ?_, ?_⟩
      · rw [List.getElem?_append_right (by omega), hl, show (k + 1) * 4 - 4 = k * 4 by omega]; exact hr.1
      · rw [List.getElem?_append_right (by omega), hl, show (k + 1) * 4 + 1 - 4 = k * 4 + 1 by omega]; exact hr.2.1
      · rw [List.getElem?_append_right (by omega), hl, show (k + 1) * 4 + 2 - 4 = k * 4 + 2 by omega]; exact hr.2.2.1
      · rw [List.getElem?_append_right (by omega), hl, show (k + 1) * 4 + 3 - 4 = k * 4 + 3 by omega]; exact hr.2.2.2
def TD.cfoot (t : TD) (b : Nat) : Prop := ∃ d ∈ t.cols, d.foot b
/-- Columns in work: the first k are done. -/
structure ColsS (B : Nat) (w0 : World) (t : TD) (G : Nat → CD → CD → Prop) (k : Nat) (D : List CD) (w : World) : Prop where
  len : D.length = t.cols.length
  done : ∀ (i : Nat) (d : CD), i < k → t.cols[i]? = some d → ∃ d', D[i]? = some d' ∧ G i d d'
  rest : ∀ i, k ≤ i → D[i]? = t.cols[i]?
  colsA : ∀ (i : Nat) (d : CD), D[i]? = some d → ColAt B w d
  apart : ∀ (i j : Nat) (d e : CD), i ≠ j → D[i]? = some d → D[j]? = some e → ∀ b, d.foot b → ¬ e.foot b
  foot : ∀ (i : Nat) (d : CD), D[i]? = some d → ∀ b, d.foot b → t.cfoot b ∨ w0.heap.size ≤ b
  out : Out t.cfoot w0 w
theorem ColsS.start {B : Nat} {w : World} {t : TD} (h : TabIn B w t) (G : Nat → CD → CD → Prop) : ColsS B w t G 0 t.cols w :=
  ⟨rfl, fun i d hi => absurd hi (Nat.not_lt_zero _), fun i _ => rfl, fun i d hd => h.colsA d (List.mem_of_getElem? hd), h.apart, fun i d hd b hb => .inl ⟨d, List.mem_of_getElem? hd, hb⟩, Out.refl _ _⟩
theorem ColsS.below {B : Nat} {w0 w w1 : World} {t : TD} {G : Nat → CD → CD → Prop} {k : Nat} {D : List CD} (h : ColsS B w0 t G k D w) (hb : Below w.heap.size w w1) : ColsS B w0 t G k D w1 :=
  ⟨h.len, h.done, h.rest, fun i d hd => (h.colsA i d hd).out (F := fun _ => False) (Out.of hb) (fun _ _ => id), h.apart, h.foot, h.out.trans (Out.of (F := fun _ => False) hb) (fun _ => False.elim)⟩
theorem ColsS.step {B : Nat} {w0 w w2 : World} {t : TD} {G : Nat → CD → CD → Prop} {k : Nat} {D : List CD} (h : ColsS B w0 t G k D w) {d d' : CD} (hk : t.cols[k]? = some d) (hc : ColAt B w2 d') (ho : Out d.foot w w2) (hf : ∀ b, d'.foot b → d.foot b ∨ w.heap.size ≤ b) (hG : G k d d') : ColsS B w0 t G (k + 1) (D.set k d') w2 := by
  have hDk : D[k]? = some d := (h.rest k (Nat.le_refl _)).trans hk
  have hkl : k < D.length := (List.getElem?_eq_some_iff.1 hDk).1
  have hself : (D.set k d')[k]? = some d' := by rw [List.getElem?_set_self hkl]
  have hne : ∀ j, j ≠ k → (D.set k d')[j]? = D[j]? := fun j hj => List.getElem?_set_ne (Ne.symm hj)
  have hdc : ∀ b, d.foot b → t.cfoot b := fun b hb => ⟨d, List.mem_of_getElem? hk, hb⟩
  refine ⟨by rw [List.length_set]; exact h.len, fun i x hi hx => ?_, fun i hi => ?_, fun i x hx => ?_, fun i j x y hij hx hy b hb hb' => ?_, fun i x hx b hb => ?_, ?_⟩
  · by_cases e : i = k
    · subst e
      rw [hk] at hx; cases hx
      exact ⟨d', hself, hG⟩
    · rw [hne i e]
      exact h.done i x (by omega) hx
  · rw [hne i (by omega)]; exact h.rest i (by omega)
  · by_cases e : i = k
    · subst e
      rw [hself] at hx; cases hx
      exact hc
    · rw [hne i e] at hx
      exact (h.colsA i x hx).out ho (h.apart i k x d e hx hDk)
  · by_cases e1 : i = k
    · subst e1
      rw [hself] at hx; cases hx
      rw [hne j (Ne.symm hij)] at hy
      rcases hf b hb with h1 | h1
      · exact h.apart i j d y hij hDk hy b h1 hb'
      · have := ((h.colsA j y hy).foot_ge hb').2; omega
    · rw [hne i e1] at hx
      by_cases e2 : j = k
      · subst e2
        rw [hself] at hy; cases hy
        rcases hf b hb' with h1 | h1
        · exact h.apart i j x d hij hx hDk b hb h1
        · have := ((h.colsA i x hx).foot_ge hb).2; omega
      · rw [hne j e2] at hy
        exact h.apart i j x y hij hx hy b hb hb'
  · by_cases e : i = k
    · subst e
      rw [hself] at hx; cases hx
      rcases hf b hb with h1 | h1
      · exact .inl (hdc b h1)
      · exact .inr (by have := h.out.size; omega)
    · rw [hne i e] at hx
      exact h.foot i x hx b hb
  · exact h.out.trans ho (fun b hb => .inl (hdc b hb))
/-- The table's own block and its row of entities are no column's. -/
theorem TabIn.cfoot_ne {B : Nat} {w : World} {t : TD} (h : TabIn B w t) : ¬ t.cfoot t.tb ∧ ∀ x, (Value.slice t.ea t.ents.length t.ec).ownBlock = some x → ¬ t.cfoot x := by
  refine ⟨?_, fun x hx => ?_⟩
  · rintro ⟨d, hd, hb⟩
    obtain ⟨cs, ty, fr, hh, ht⟩ := (h.colsA d hd).foot_ty hb
    rw [h.blk] at hh; cases hh
    rcases ht with ht | ht | ht <;> cases ht
  · rintro ⟨d, hd, hb⟩
    obtain ⟨cs, ty, fr, hh, ht⟩ := (h.colsA d hd).foot_ty hb
    obtain ⟨cur, h2⟩ := row_type h.entsR hx
    rw [h2] at hh; cases hh
    rcases ht with ht | ht | ht <;> cases ht
theorem TabIn.cfoot_foot {t : TD} {b : Nat} (h : t.cfoot b) : t.foot b := .inr (.inr h)
/-- All columns are done; the entities and the table's own cell are laid. -/
theorem ColsS.fin {B : Nat} {w0 w w2 : World} {t : TD} {G : Nat → CD → CD → Prop} {k : Nat} {D : List CD} (h : ColsS B w0 t G k D w) (ht : TabIn B w0 t) (hk : k = t.cols.length) (ents : List Int) (ea : Option Addr) (ec : Nat)
    (hb : w2.heap[t.tb]? = some (.cells #[.int .i64 t.ver, .slice t.ca t.cps.length t.cc, .int .u32 t.set, .int .i64 (t.most : Int), .int .i64 (t.kept : Int), .slice ea ents.length ec, .slice t.la t.cps.length t.lc] 139 (0, 0)))
    (he : w2.ownsRow B 61 1 (.slice ea ents.length ec) ents.length (ents.map (.int .u64)))
    (ho : Out (fun b => b = t.tb ∨ (Value.slice t.ea t.ents.length t.ec).ownBlock = some b) w w2) (hea : ∀ b, (Value.slice ea ents.length ec).ownBlock = some b → (Value.slice t.ea t.ents.length t.ec).ownBlock = some b ∨ w0.heap.size ≤ b)
    (hG : ∀ (i : Nat) (d d' : CD), t.cols[i]? = some d → G i d d' → d'.cb = d.cb ∧ d'.size = d.size ∧ d'.cap = d.cap ∧ d'.rows.length = ents.length) (hroom : ents.length + t.kept ≤ t.most) :
    TabIn B w2 { t with ents := ents, ea := ea, ec := ec, cols := D } ∧ Out t.foot w0 w2 ∧ ∀ b, TD.foot { t with ents := ents, ea := ea, ec := ec, cols := D } b → t.foot b ∨ w0.heap.size ≤ b := by
  have hF : Out t.foot w0 w2 := (h.out.mono (fun x hx => .inl (TabIn.cfoot_foot hx))).trans ho (fun b hb => by
    rcases hb with hb | hb
    · exact .inl (.inl hb)
    · exact .inl (.inr (.inl hb)))
  have hM : ∀ b, t.foot b → Mut w0 b := fun b hb => ht.foot_mut hb
  have hw1 : w.heap[t.tb]? = _ := h.out.keep ht.blk ht.cfoot_ne.1
  have hw2 : w.ownsRow B 61 1 (.slice t.ea t.ents.length t.ec) t.ents.length (t.ents.map (.int .u64)) := ownsRow_out ht.entsR h.out ht.cfoot_ne.2
  refine ⟨⟨hb, ownsRow_out ht.comps hF (row_mut ht.comps (.inl rfl) hM), ownsRow_out ht.colsR hF (row_mut ht.colsR (.inr (.inl rfl)) hM), fun x hx => (ht.fields x hx).out hF hM, he, ht.hB, h.len.trans ht.len, fun i x d' hx hd' => ?_, fun d hd => ?_, h.apart, ht.lay, ht.n24, ht.most1, ht.most2, hroom, ht.set0, ht.set1, ht.ids⟩, hF, fun b hb => ?_⟩
  · have hd3 : D[i]? = some d' := hd'
    have hi : i < t.cols.length := by have := (List.getElem?_eq_some_iff.1 hd3).1; have := h.len; omega
    obtain ⟨d0, hd0⟩ : ∃ d, t.cols[i]? = some d := ⟨_, List.getElem?_eq_getElem hi⟩
    obtain ⟨d'', h1, h2⟩ := h.done i d0 (by omega) hd0
    have hd2 : D[i]? = some d' := hd'
    rw [h1] at hd2
    cases hd2
    obtain ⟨g1, g2, g3, g4⟩ := hG i d0 d' hd0 h2
    obtain ⟨k1, k2, k3, k4⟩ := ht.col i x d0 hx hd0
    exact ⟨g1.trans k1, g2.trans k2, g3.trans k3, g4⟩
  · obtain ⟨i, hi⟩ := List.getElem?_of_mem hd
    have hc := h.colsA i d hi
    refine hc.out ho (fun b hb hb' => ?_)
    obtain ⟨cs, ty, fr, hh, hty⟩ := hc.foot_ty hb
    rcases hb' with rfl | hb'
    · rw [hw1] at hh; cases hh
      rcases hty with ht | ht | ht <;> cases ht
    · obtain ⟨cur, h2⟩ := row_type hw2 hb'
      rw [h2] at hh; cases hh
      rcases hty with ht | ht | ht <;> cases ht
  · rcases hb with rfl | hb | ⟨d, hd, hb⟩
    · exact .inl (.inl rfl)
    · rcases hea b hb with h1 | h1
      · exact .inl (.inr (.inl h1))
      · exact .inr h1
    · obtain ⟨i, hi⟩ := List.getElem?_of_mem hd
      rcases h.foot i d hi b hb with h1 | h1
      · exact .inl (.inr (.inr h1))
      · exact .inr h1
end Go.Proofs.YtoadihebdaooaaaGreat
