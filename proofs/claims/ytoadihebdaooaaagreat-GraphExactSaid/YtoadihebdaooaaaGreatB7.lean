/- Contract of (*Graph).Step: the plain part. -/
import Derived.Test.YtoadihebdaooaaaGreatB6
namespace Go.Proofs.YtoadihebdaooaaaGreat
open Go.RowKit
open Go.Maps (Keyed int_keyed keyOf_int_mk)
set_option linter.unusedVariables false

def putW (f : Int × Int × Bool → Option Nat) (x : Int × Int × Bool) (n : Nat) : Int × Int × Bool → Option Nat := fun y => if y = x then some n else f y
def stepSet (g : GS) (i c : Int) (b : Bool) : Int := if b then sWith (sWithout (g.sigs.getD i.toNat 0) c) c else sWithout (g.sigs.getD i.toNat 0) c
def stepG (g : GS) (i c : Int) (b : Bool) (tb : Nat) : GS × Int × Int :=
  if chkF g i c b ≠ 0 then (g, 0, chkF g i c b) else
  match g.ways (i, c, b) with
  | some n => (g, (n : Int), 0)
  | none =>
    if (makeG g (stepSet g i c b) tb).2.2 ≠ 0 then (g, 0, (makeG g (stepSet g i c b) tb).2.2) else
      ({ (makeG g (stepSet g i c b) tb).1 with
          ways := putW (putW g.ways (i, c, b) (makeG g (stepSet g i c b) tb).2.1.toNat) ((makeG g (stepSet g i c b) tb).2.1, c, !b) i.toNat
          nw := g.nw + 1 + if (g.ways ((makeG g (stepSet g i c b) tb).2.1, c, !b)).isSome then 0 else 1 }, (makeG g (stepSet g i c b) tb).2.1, 0)
/-- The answer of 'Step'. -/
def IsStep (B1 gb : Nat) (g : GS) (i c : Int) (b : Bool) (w : World) (e : Ending) (w' : World) : Prop :=
  ∃ tb, e = .returned (.tuple #[.int .i64 (stepG g i c b tb).2.1, .int .i64 (stepG g i c b tb).2.2]) ∧ Graph B1 gb (stepG g i c b tb).1 w' ∧ Turned B1 w w'

/-- What 'Make' answers with no error. -/
theorem makeG_ok {g : GS} {set : Int} {tb : Nat} (h : (makeG g set tb).2.2 = 0) :
    ∃ n : Nat, (makeG g set tb).2.1 = n ∧ n < (makeG g set tb).1.ts.length ∧ (makeG g set tb).1.ways = g.ways ∧ (makeG g set tb).1.nw = g.nw ∧ (makeG g set tb).1.cs = g.cs ∧ (makeG g set tb).1.sigs[n]? = some set ∧ g.ts.length ≤ (makeG g set tb).1.ts.length := by
  unfold makeG at h ⊢
  cases hp : posOf set g.sigs with
  | some i =>
    rw [hp] at h
    simp only
    have hg := posOf_get hp
    refine ⟨i, rfl, ?_, trivial, trivial, trivial, hg, Nat.le_refl _⟩
    have := (List.getElem?_eq_some_iff.1 hg).1
    simpa [GS.sigs] using this
  | none =>
    rw [hp] at h
    simp only at h ⊢
    split at h
    · rename_i h1
      rw [if_pos h1]
      split at h
      · simp at h
      · rename_i h2
        rw [if_neg h2]
        refine ⟨g.ts.length, rfl, by simp, rfl, rfl, rfl, ?_, by simp⟩
        simp [GS.sigs]
    · simp at h
theorem makeG_err {g : GS} {set : Int} {tb : Nat} (h : (makeG g set tb).2.2 ≠ 0) : (makeG g set tb).1 = g := by
  unfold makeG at h ⊢
  cases hp : posOf set g.sigs with
  | some i => rfl
  | none =>
    rw [hp] at h
    simp only at h ⊢
    split
    · rename_i h1
      rw [if_pos h1] at h
      split
      · rfl
      · rename_i h2
        rw [if_neg h2] at h
        simp at h
    · rfl

section
variable {B1 gb : Nat} {g : GS} {W : World} {mb wb : Nat} {ca : Option Addr} {cl cc : Nat} {ta : Option Addr} {tc : Nat} {bs ws : Lit → Option Lit}
/-- A store into the ways. -/
theorem way_put (h : GraphAt B1 gb g W mb wb ca cl cc ta tc bs ws) {x : Int × Int × Bool} (hx : WayWf x) {n : Nat} (hn : n < g.ts.length) {cnt : Nat} (hcnt : cnt ≤ 1000000) {w' : World}
    (hM : MapIs Tryz.prog w' 128 3 wb cnt (putF ws (wayK x) (.int .i64 n))) (hg : W.grownBy w' (some wb)) :
    GraphAt B1 gb { g with ways := putW g.ways x n, nw := cnt } w' mb wb ca cl cc ta tc bs (putF ws (wayK x) (.int .i64 n)) ∧ Turned B1 W w' := by
  have hBW := h.wf.2.2.2.2.2.1
  have hb : Below B1 W w' := (Below.refl B1 W).grown hg hBW (fun y hy => by cases hy; exact h.bw)
  obtain ⟨es, c', hm⟩ := h.byWay.obj
  have hT : Turned B1 W w' := by
    refine ⟨hb, fun b c e fz hb' he1 he2 => keepG hg hb' (fun e' => ?_)⟩
    cases e'
    rw [hm] at hb'; cases hb'
  refine ⟨{ bg := h.bg, bm := h.bm, bw := h.bw, ne := h.ne, blk := ?_, comps := (h.comps.ty h.cty hT.ty).mono hb.size, cty := h.cty.hk hT.ty, row := ?_, bySet := ?_, byWay := hM, tab := fun t ht => ⟨hT.tab (h.tab t ht).1, (h.tab t ht).2⟩, hbs := h.hbs, hws := ?_, wf := ?_, wok := ?_, tlo := h.tlo, cn := h.cn }, hT⟩
  · exact keepG hg h.blk (by simpa using fun e => h.mb_ne.2 e.symm)
  · exact h.row.kept hg (by
      rcases h.row.2 with ⟨hv, _⟩ | ⟨q, cap, cur, hv, hg', hh, r⟩
      · rw [hv]; exact .inl rfl
      · rw [hv]
        refine .inr fun e => ?_
        simp [Value.ownBlock] at e
        subst e
        rw [hm] at hh; cases hh)
  · exact h.bySet.kept hg (by simpa using h.ne)
  · intro y hy
    show putF ws (wayK x) (.int .i64 n) (wayK y) = litN (putW g.ways x n y)
    by_cases e : y = x
    · subst e; rw [putF_same]; simp [putW, litN]
    · rw [putF_ne (fun e' => e (wayK_inj hy hx e')), h.hws y hy]; simp [putW, e]
  · obtain ⟨a1, a2, a3, a4, a5, a6, a7⟩ := h.wf
    exact ⟨a1, a2, a3, a4, a5, by have := hb.size; omega, hcnt⟩
  · intro y m hy
    simp only [putW] at hy
    split at hy
    · cases hy; exact hn
    · exact h.wok y m hy
end
end Go.Proofs.YtoadihebdaooaaaGreat
