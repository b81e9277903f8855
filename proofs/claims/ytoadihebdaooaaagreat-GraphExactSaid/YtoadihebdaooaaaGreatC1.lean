/- GraphGrows: the plain part. -/
import Derived.Test.YtoadihebdaooaaaGreatC0
namespace Go.Proofs.YtoadihebdaooaaaGreat
open Go.RowKit
set_option linter.unusedVariables false

structure Act where
  kind : Int
  set : Int
  i : Int
  comp : Int
  add : Bool
def ActWf (x : Act) : Prop := 0 ≤ x.set ∧ x.set ≤ 4294967295 ∧ I64 x.i ∧ I64 x.comp
/-- A slice of deeds, below block B. -/
def ActsAt (B : Nat) (w : World) (a : Option Addr) (len : Nat) (l : List Act) : Prop :=
  l.length = len ∧ len ≤ maxLen ∧ (∀ x ∈ l, ActWf x) ∧ (len = 0 ∨ ∃ b off, a = some ⟨b, off, none⟩ ∧ b < B ∧ ∀ (i : Nat) (x : Act), l[i]? = some x →
    w.cell? ⟨b, off + i * 5, none⟩ = some (.int .i64 x.kind) ∧ w.cell? ⟨b, off + i * 5 + 1, none⟩ = some (.int .u32 x.set) ∧ w.cell? ⟨b, off + i * 5 + 2, none⟩ = some (.int .i64 x.i) ∧
    w.cell? ⟨b, off + i * 5 + 3, none⟩ = some (.int .i64 x.comp) ∧ w.cell? ⟨b, off + i * 5 + 4, none⟩ = some (.bool x.add))
theorem ActsAt.get {B : Nat} {w w' : World} {a : Option Addr} {len : Nat} {l : List Act} (h : ActsAt B w a len l) (hb : Below B w w') {k : Nat} (hk : k < len) :
    ∃ b off x, a = some ⟨b, off, none⟩ ∧ b < B ∧ l[k]? = some x ∧ ActWf x ∧ w'.cell? ⟨b, off + k * 5, none⟩ = some (.int .i64 x.kind) ∧ w'.cell? ⟨b, off + k * 5 + 1, none⟩ = some (.int .u32 x.set) ∧ w'.cell? ⟨b, off + k * 5 + 2, none⟩ = some (.int .i64 x.i) ∧
    w'.cell? ⟨b, off + k * 5 + 3, none⟩ = some (.int .i64 x.comp) ∧ w'.cell? ⟨b, off + k * 5 + 4, none⟩ = some (.bool x.add) := by
  obtain ⟨h1, h2, h4, h3⟩ := h
  rcases h3 with h3 | ⟨b, off, ha, hB, hc⟩
  · omega
  · have hl : k < l.length := by omega
    obtain ⟨c0, c1, c2, c3, c4⟩ := hc k _ (List.getElem?_eq_getElem hl)
    exact ⟨b, off, l[k], ha, hB, List.getElem?_eq_getElem hl, h4 _ (List.getElem_mem hl), (hb.cell (p := ⟨b, _, none⟩) hB).trans c0, (hb.cell (p := ⟨b, _, none⟩) hB).trans c1, (hb.cell (p := ⟨b, _, none⟩) hB).trans c2, (hb.cell (p := ⟨b, _, none⟩) hB).trans c3, (hb.cell (p := ⟨b, _, none⟩) hB).trans c4⟩
theorem row_get {w : World} {base : Nat} {e : TypeId} {va : Option Addr} {n vc : Nat} {xs : List Value} (h : w.ownsRow base e 1 (.slice va n vc) n xs) {k : Nat} {u : Value} (hk : xs[k]? = some u) :
    ∃ q, va = some ⟨q, 0, none⟩ ∧ w.cell? ⟨q, k, none⟩ = some u := by
  rcases h.2 with ⟨hv, h0'⟩ | ⟨q, cap', cur, hv, hg, hh, hc1, hc2, hc3, hc4⟩
  · have := (List.getElem?_eq_some_iff.1 hk).1
    have := h.1
    omega
  · cases hv
    refine ⟨q, rfl, ?_⟩
    rw [cell_at hh]
    rw [← hc4, List.getElem?_take] at hk
    split at hk
    · simpa using hk
    · cases hk

/-- What a deed does to the sets. -/
def Grow (g g' : GS) (er : Int) : Prop := (g'.sigs = g.sigs ∨ ((∃ s, g'.sigs = g.sigs ++ [s]) ∧ er = 0)) ∧ g'.archs = g.archs ∧ g'.nw ≤ g.nw + 3
theorem makeG_grow (g : GS) (set : Int) (tb : Nat) : Grow g (makeG g set tb).1 (makeG g set tb).2.2 := by
  unfold makeG
  cases posOf set g.sigs with
  | some i => exact ⟨.inl rfl, rfl, by simp⟩
  | none =>
    simp only
    split
    · split
      · exact ⟨.inl rfl, rfl, by simp⟩
      · exact ⟨.inr ⟨⟨set, by simp [GS.sigs]⟩, rfl⟩, rfl, by simp⟩
    · exact ⟨.inl rfl, rfl, by simp⟩
theorem stepG_grow (g : GS) (i c : Int) (b : Bool) (tb : Nat) : Grow g (stepG g i c b tb).1 (stepG g i c b tb).2.2 := by
  unfold stepG
  split
  · exact ⟨.inl rfl, rfl, by simp⟩
  · cases g.ways (i, c, b) with
    | some n => exact ⟨.inl rfl, rfl, by simp⟩
    | none =>
      simp only
      split
      · exact ⟨.inl rfl, rfl, by simp⟩
      · rename_i he
        obtain ⟨h1, h2, h3⟩ := makeG_grow g (stepSet g i c b) tb
        refine ⟨?_, h2, ?_⟩
        · rcases h1 with h1 | ⟨h1, _⟩
          · exact .inl h1
          · exact .inr ⟨h1, rfl⟩
        · simp only; split <;> omega

end Go.Proofs.YtoadihebdaooaaaGreat
