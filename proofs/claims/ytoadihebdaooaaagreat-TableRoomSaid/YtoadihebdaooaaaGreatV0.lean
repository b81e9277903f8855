/- A table with rows: how it lies; its readers, Keep, Yield. -/
import Derived.Test.YtoadihebdaooaaaGreatU9
namespace Go.Proofs.YtoadihebdaooaaaGreat
open Go.RowKit
set_option linter.unusedVariables false
structure TD where
  tb : Nat
  ver : Int
  set : Int
  most : Nat
  kept : Nat
  ents : List Int
  ea : Option Addr
  ec : Nat
  ca : Option Addr
  cc : Nat
  la : Option Addr
  lc : Nat
  cps : List CV
  cols : List CD
def TD.cs (t : TD) : List Cmp := t.cps.map (·.c)
/-- The blocks that its deeds may change. -/
def TD.foot (t : TD) (b : Nat) : Prop := b = t.tb ∨ (Value.slice t.ea t.ents.length t.ec).ownBlock = some b ∨ ∃ d ∈ t.cols, d.foot b
structure TabIn (B : Nat) (w : World) (t : TD) : Prop where
  blk : w.heap[t.tb]? = some (.cells #[.int .i64 t.ver, .slice t.ca t.cps.length t.cc, .int .u32 t.set, .int .i64 (t.most : Int), .int .i64 (t.kept : Int), .slice t.ea t.ents.length t.ec, .slice t.la t.cps.length t.lc] 139 (0, 0))
  comps : w.ownsRow B 112 3 (.slice t.ca t.cps.length t.cc) t.cps.length (t.cps.flatMap compL)
  colsR : w.ownsRow B 142 4 (.slice t.la t.cps.length t.lc) t.cps.length (t.cps.flatMap colL)
  fields : ∀ x ∈ t.cps, CVF B w x
  entsR : w.ownsRow B 61 1 (.slice t.ea t.ents.length t.ec) t.ents.length (t.ents.map (.int .u64))
  hB : B ≤ t.tb
  len : t.cols.length = t.cps.length
  col : ∀ (i : Nat) (x : CV) (d : CD), t.cps[i]? = some x → t.cols[i]? = some d → d.cb = x.cb ∧ d.size = (planSize x.c.fields).toNat ∧ d.cap = t.most ∧ d.rows.length = t.ents.length
  colsA : ∀ d ∈ t.cols, ColAt B w d
  apart : ∀ (i j : Nat) (d e : CD), i ≠ j → t.cols[i]? = some d → t.cols[j]? = some e → ∀ b, d.foot b → ¬ e.foot b
  lay : ∀ x ∈ t.cps, layCheck x.c.fields = 0
  n24 : t.cps.length ≤ 24
  most1 : 1 ≤ t.most
  most2 : t.most ≤ 256
  room : t.ents.length + t.kept ≤ t.most
  set0 : 0 ≤ t.set
  set1 : t.set ≤ 4294967295
  ids : t.cps.map (·.c.id) = idsTo t.set 24
/-- A block that is none of those that a table never changes. -/
def Mut (w : World) (b : Nat) : Prop := ∀ cs t fr, w.heap[b]? = some (.cells cs t fr) → t ≠ 112 ∧ t ≠ 142 ∧ t ≠ 123
theorem mut_of {w : World} {b : Nat} {cs : Array Value} {t : TypeId} {fr : Nat × Nat} (h : w.heap[b]? = some (.cells cs t fr)) (h1 : t ≠ 112) (h2 : t ≠ 142) (h3 : t ≠ 123) : Mut w b := by
  intro cs' t' fr' h'
  rw [h] at h'
  cases h'
  exact ⟨h1, h2, h3⟩
theorem row_mut {F : Nat → Prop} {w : World} {B s : Nat} {e : TypeId} {v : Value} {n : Nat} {xs : List Value} (h : w.ownsRow B e s v n xs) (he : e = 112 ∨ e = 142 ∨ e = 123) (hM : ∀ b, F b → Mut w b) : ∀ x, v.ownBlock = some x → ¬ F x := by
  intro x hx hF
  rcases h.2 with ⟨rfl, _⟩ | ⟨g, cap, cur, rfl, _, hh, _⟩
  · cases hx
  · obtain rfl : g = x := by simpa [Value.ownBlock] using hx
    obtain ⟨h1, h2, h3⟩ := hM g hF _ _ _ hh
    rcases he with rfl | rfl | rfl <;> contradiction
theorem TabIn.foot_ge {B : Nat} {w : World} {t : TD} (h : TabIn B w t) {b : Nat} (hb : t.foot b) : B ≤ b ∧ b < w.heap.size := by
  rcases hb with rfl | hb | ⟨d, hd, hb⟩
  · exact ⟨h.hB, lt_some h.blk⟩
  · exact h.entsR.lt b hb
  · exact (h.colsA d hd).foot_ge hb
theorem row_type {w : World} {B s : Nat} {e : TypeId} {v : Value} {n : Nat} {xs : List Value} (h : w.ownsRow B e s v n xs) {b : Nat} (hb : v.ownBlock = some b) : ∃ cur, w.heap[b]? = some (.cells cur e (0, 0)) := by
  rcases h.2 with ⟨rfl, _⟩ | ⟨g, cap, cur, rfl, _, hh, _⟩
  · cases hb
  · obtain rfl : g = b := by simpa [Value.ownBlock] using hb
    exact ⟨cur, hh⟩
theorem TabIn.foot_mut {B : Nat} {w : World} {t : TD} (h : TabIn B w t) {b : Nat} (hb : t.foot b) : Mut w b := by
  rcases hb with rfl | hb | ⟨d, hd, hb⟩
  · exact mut_of h.blk (by decide) (by decide) (by decide)
  · obtain ⟨cur, hh⟩ := row_type h.entsR hb
    exact mut_of hh (by decide) (by decide) (by decide)
  · obtain ⟨cs, ty, fr, hh, ht⟩ := (h.colsA d hd).foot_ty hb
    rcases ht with rfl | rfl | rfl <;> exact mut_of hh (by decide) (by decide) (by decide)
theorem CVF.out {F : Nat → Prop} {B : Nat} {w w' : World} {x : CV} (h : CVF B w x) (ho : Out F w w') (hM : ∀ b, F b → Mut w b) : CVF B w' x := ⟨ownsRow_out h.row ho (row_mut h.row (.inr (.inr rfl)) hM), h.len, h.max, h.nil⟩
theorem TabIn.out {F : Nat → Prop} {B : Nat} {w w' : World} {t : TD} (h : TabIn B w t) (ho : Out F w w') (hF : ∀ b, t.foot b → ¬ F b) (hM : ∀ b, F b → Mut w b) : TabIn B w' t :=
  ⟨ho.keep h.blk (hF _ (.inl rfl)), ownsRow_out h.comps ho (row_mut h.comps (.inl rfl) hM), ownsRow_out h.colsR ho (row_mut h.colsR (.inr (.inl rfl)) hM), fun x hx => (h.fields x hx).out ho hM,
    ownsRow_out h.entsR ho (fun x hx => hF x (.inr (.inl hx))), h.hB, h.len, h.col, fun d hd => (h.colsA d hd).out ho (fun b hb => hF b (.inr (.inr ⟨d, hd, hb⟩))), h.apart, h.lay, h.n24, h.most1, h.most2, h.room, h.set0, h.set1, h.ids⟩
theorem TabIn.below {B : Nat} {w w' : World} {t : TD} (h : TabIn B w t) (hb : Below w.heap.size w w') : TabIn B w' t := h.out (F := fun _ => False) (Out.of hb) (fun _ _ => id) (fun _ => False.elim)
theorem TabIn.drewN {B : Nat} {w : World} {t : TD} (h : TabIn B w t) (n : Nat) : TabIn B (w.drewN n) t := h.below (below_drewN (Below.refl _ _) n)
theorem compL_at (l : List CV) {k : Nat} {y : CV} (h : l[k]? = some y) : (l.flatMap compL)[k * 3]? = some (.int .i64 y.c.id) ∧ (l.flatMap compL)[k * 3 + 1]? = some (.string y.c.name) ∧ (l.flatMap compL)[k * 3 + 2]? = some (.slice y.fa y.fl y.fc) := by
  induction l generalizing k with
  | nil => cases h
  | cons x r ih =>
    cases k with
    | zero => cases h; simp [compL]
    | succ k =>
      have hr := ih (k := k) (by simpa using h)
      have e : ((x :: r).flatMap compL) = compL x ++ r.flatMap compL := by simp
      have hl : (compL x).length = 3 := rfl
      rw [e]
      refine ⟨?_, ?_, ?_⟩
      · rw [List.getElem?_append_right (by omega), hl, show (k + 1) * 3 - 3 = k * 3 by omega]; exact hr.1
      · rw [List.getElem?_append_right (by omega), hl, show (k + 1) * 3 + 1 - 3 = k * 3 + 1 by omega]; exact hr.2.1
      · rw [List.getElem?_append_right (by omega), hl, show (k + 1) * 3 + 2 - 3 = k * 3 + 2 by omega]; exact hr.2.2
/-- The components, to be read. -/
theorem TabIn.compsAt {B : Nat} {w : World} {t : TD} (h : TabIn B w t) : CompsAt w.heap.size w t.ca t.cps.length t.cs := by
  refine ⟨by simp [TD.cs], by have := h.n24; unfold maxLen; omega, ?_⟩
  rcases Nat.eq_zero_or_pos t.cps.length with h0 | h0
  · exact .inl h0
  · obtain ⟨q, hq, hqB, hql, hqc⟩ := row_block h.comps h0
    refine .inr ⟨q, 0, hq, hql, fun i c hc => ?_⟩
    simp only [TD.cs, List.getElem?_map, Option.map_eq_some_iff] at hc
    obtain ⟨x, hx, rfl⟩ := hc
    obtain ⟨g0, g1, g2⟩ := compL_at t.cps hx
    have hf := h.fields x (List.mem_of_getElem? hx)
    rw [Nat.zero_add]
    exact ⟨hqc _ _ g0, hqc _ _ g1, x.fa, x.fl, x.fc, hqc _ _ g2, fieldsAt_row hf.row hf.len hf.max, hf.nil⟩
theorem TabIn.fields8 {B : Nat} {w : World} {t : TD} (h : TabIn B w t) : ∀ c ∈ t.cs, c.fields.length ≤ 100000 := by
  intro c hc
  simp only [TD.cs, List.mem_map] at hc
  obtain ⟨x, hx, rfl⟩ := hc
  have := (layCheck_zero (h.lay x hx)).1
  omega
end Go.Proofs.YtoadihebdaooaaaGreat
