/- Plain: what the deeds of a table do to its values. · TableMoves: what the law's rounds keep. -/
import Derived.Test.YtoadihebdaooaaaGreatQ12
import Derived.Test.YtoadihebdaooaaaGreatQ11
namespace Go.Proofs.YtoadihebdaooaaaGreat
open Go.RowKit
set_option linter.unusedVariables false
theorem Vals.new {t : TD} (h : t.ents = []) : Vals t [] := ⟨by simp [h], by simp, by simp⟩
def addRow (ps : List PW) (t : TD) : List (List WI) := t.cps.map fun x => match partOf ps x.c.id with | some p => p.val | none => []
theorem Vals.add {B : Nat} {w : World} {t : TD} {V : List (List (List WI))} {e : Int} {ps : List PW} {ea : Option Addr} {ec : Nat} {D : List CD} (hT : TabIn B w t) (h : Vals t V) (hfit : ∀ x ∈ t.cps, ∃ p, partOf ps x.c.id = some p ∧ fitF x.c.fields p.val = 0 ∧ ∀ y ∈ p.val, y.wf)
    (hD : ∀ (i : Nat) (d d' : CD), t.cols[i]? = some d → D[i]? = some d' → PutG ps t.cps i d d') : Vals { t with ents := t.ents ++ [e], ea := ea, ec := ec, cols := D } (V ++ [addRow ps t]) := by
  refine ⟨by simp [h.len], fun r hr => ?_, ?_⟩
  · rcases List.mem_append.1 hr with hr | hr
    · exact h.row r hr
    · obtain rfl := List.mem_singleton.1 hr
      simp [addRow]
  · intro k i r v x d' hk hv hx hd'
    have hil := (List.getElem?_eq_some_iff.1 hx).1
    obtain ⟨d, hd⟩ : ∃ d, t.cols[i]? = some d := ⟨_, List.getElem?_eq_getElem (by rw [hT.len]; exact hil)⟩
    obtain ⟨_, _, _, hrl⟩ := hT.col i x d hx hd
    obtain ⟨hrows, _⟩ := hD i d d' hd hd' x hx
    have hVl := h.len
    rcases Nat.lt_or_ge k V.length with hlt | hge
    · rw [List.getElem?_append_left hlt] at hk
      obtain ⟨h1, h2⟩ := h.at_ k i r v x d hk hv hx hd
      exact ⟨by rw [hrows, List.getElem?_append_left (by omega)]; exact h1, h2⟩
    · rw [List.getElem?_append_right hge] at hk
      have hk0 : k - V.length = 0 := by
        have := (List.getElem?_eq_some_iff.1 hk).1
        simp at this
        omega
      rw [hk0] at hk
      simp at hk
      subst hk
      obtain ⟨p, hp, hf, hw⟩ := hfit x (List.mem_of_getElem? hx)
      have hvv : v = p.val := by
        unfold addRow at hv
        rw [List.getElem?_map, hx] at hv
        simp [hp] at hv
        exact hv.symm
      subst hvv
      refine ⟨?_, hf, hw⟩
      rw [hrows, List.getElem?_append_right (by omega), show k - d.rows.length = 0 by omega]
      simp [rowOf, hp]
theorem set_take_at {α : Type} {l : List α} {r m k : Nat} {a x : α} (h : ((l.set r a).take m)[k]? = some x) : k < m ∧ ((k = r ∧ x = a) ∨ (k ≠ r ∧ l[k]? = some x)) := by
  rw [List.getElem?_take] at h
  split at h
  · rename_i hk
    refine ⟨hk, ?_⟩
    rw [List.getElem?_set] at h
    split at h
    · rename_i hr
      split at h
      · exact .inl ⟨hr.symm, by cases h; rfl⟩
      · cases h
    · rename_i hr
      exact .inr ⟨fun e => hr e.symm, h⟩
  · cases h
theorem set_at {α : Type} {l : List α} {r k : Nat} {a x : α} (h : (l.set r a)[k]? = some x) : (k = r ∧ x = a) ∨ (k ≠ r ∧ l[k]? = some x) := by
  have hk := (List.getElem?_eq_some_iff.1 h).1
  exact (set_take_at (m := k + 1) (by rw [List.getElem?_take, if_pos (by omega)]; exact h)).2
theorem Vals.drop {B : Nat} {w : World} {t : TD} {V : List (List (List WI))} {r m : Nat} {e : Int} {vl : List (List WI)} {D : List CD} (hT : TabIn B w t) (h : Vals t V) (hr : r ≤ m) (hm : t.ents.length = m + 1) (hl : V[m]? = some vl)
    (hD : ∀ (i : Nat) (d d' : CD), t.cols[i]? = some d → D[i]? = some d' → DropG r m i d d') : Vals { t with ents := (t.ents.set r e).take m, cols := D } ((V.set r vl).take m) := by
  have hVl := h.len
  refine ⟨by simp [h.len], fun q hq => ?_, ?_⟩
  · obtain ⟨k, hk⟩ := List.getElem?_of_mem hq
    obtain ⟨_, ⟨_, rfl⟩ | ⟨_, h2⟩⟩ := set_take_at hk
    · exact h.row _ (List.mem_of_getElem? hl)
    · exact h.row _ (List.mem_of_getElem? h2)
  · intro k i q v x d' hk hv hx hd'
    have hil := (List.getElem?_eq_some_iff.1 hx).1
    obtain ⟨d, hd⟩ : ∃ d, t.cols[i]? = some d := ⟨_, List.getElem?_eq_getElem (by rw [hT.len]; exact hil)⟩
    obtain ⟨_, _, _, hrl⟩ := hT.col i x d hx hd
    obtain ⟨l, hl'⟩ : ∃ l, d.rows[m]? = some l := ⟨_, List.getElem?_eq_getElem (by omega)⟩
    obtain ⟨hrows, _⟩ := hD i d d' hd hd' l hl'
    obtain ⟨hkm, hc⟩ := set_take_at hk
    rcases hc with ⟨rfl, rfl⟩ | ⟨hne, h2⟩
    · obtain ⟨h1, h3⟩ := h.at_ m i q v x d hl hv hx hd
      rw [hl'] at h1
      cases h1
      refine ⟨?_, h3⟩
      rw [hrows, List.getElem?_take, if_pos hkm, List.getElem?_set, if_pos rfl, if_pos (by omega)]
    · obtain ⟨h1, h3⟩ := h.at_ k i q v x d h2 hv hx hd
      refine ⟨?_, h3⟩
      rw [hrows, List.getElem?_take, if_pos hkm, List.getElem?_set, if_neg (fun e => hne e.symm)]
      exact h1
theorem Vals.put {t : TD} {V : List (List (List WI))} {i k : Nat} {d : CD} {x : CV} {r : List (List WI)} {v : List WI} (h : Vals t V) (hk : V[k]? = some r) (hx : t.cps[i]? = some x) (hd : t.cols[i]? = some d) (hkl : k < d.rows.length) (hfit : fitF x.c.fields v = 0) (hwf : ∀ y ∈ v, y.wf) :
    Vals (t.put i k d (packF x.c.fields v)) (V.set k (r.set i v)) := by
  refine ⟨by rw [List.length_set]; exact h.len, fun q hq => ?_, ?_⟩
  · obtain ⟨j, hj⟩ := List.getElem?_of_mem hq
    rcases set_at hj with ⟨_, rfl⟩ | ⟨_, h2⟩
    · rw [List.length_set]; exact h.row _ (List.mem_of_getElem? hk)
    · exact h.row _ (List.mem_of_getElem? h2)
  · intro k' i' q v' x' d' hk' hv' hx' hd'
    have hx2 : t.cps[i']? = some x' := hx'
    rcases set_at (show (t.cols.set i { d with rows := d.rows.set k (packF x.c.fields v) })[i']? = some d' from hd') with ⟨rfl, rfl⟩ | ⟨hne, hd2⟩
    · obtain rfl : x' = x := by rw [hx] at hx2; cases hx2; rfl
      rcases set_at hk' with ⟨rfl, rfl⟩ | ⟨hne2, hk2⟩
      · rcases set_at hv' with ⟨_, rfl⟩ | ⟨hne3, _⟩
        · refine ⟨?_, hfit, hwf⟩
          show (d.rows.set k' _)[k']? = _
          rw [List.getElem?_set, if_pos rfl, if_pos hkl]
        · exact absurd rfl hne3
      · obtain ⟨h1, h3⟩ := h.at_ k' i' q v' x' d hk2 hv' hx hd
        refine ⟨?_, h3⟩
        show (d.rows.set k _)[k']? = _
        rw [List.getElem?_set, if_neg (fun e => hne2 e.symm)]
        exact h1
    · rcases set_at hk' with ⟨rfl, rfl⟩ | ⟨hne2, hk2⟩
      · rcases set_at hv' with ⟨rfl, _⟩ | ⟨_, hv2⟩
        · exact absurd rfl hne
        · exact h.at_ k' i' r v' x' d' hk hv2 hx2 hd2
      · exact h.at_ k' i' q v' x' d' hk2 hv' hx2 hd2
end Go.Proofs.YtoadihebdaooaaaGreat
namespace Go.Proofs.YtoadihebdaooaaaGreat
open Go.RowKit
open Go.Maps (Keyed int_keyed keyOf_int_mk)
set_option linter.unusedVariables false
theorem Tryz.law61 : Keyed Tryz.prog 61 := int_keyed Tryz.underlying61
/-- The map of what the entities of a table have. -/
structure HaveAt (w : World) (mb : Nat) (t : TD) (V : List (List (List WI))) (F : Lit → Option Value) : Prop where
  map : MapV Tryz.prog w 61 mb t.ents.length F
  none_ : ∀ e : Int, e ∉ t.ents → F (.int .u64 e) = none
  some_ : ∀ (k : Nat) (e : Int) (r : List (List WI)), t.ents[k]? = some e → V[k]? = some r → ∃ a c ps, F (.int .u64 e) = some (.slice a (rowCv t r).length c) ∧ PO 0 w a (rowCv t r).length c ps ∧ cv ps = rowCv t r
theorem HaveAt.out {w w' : World} {mb : Nat} {t : TD} {V : List (List (List WI))} {F : Lit → Option Value} {G : Nat → Prop} (h : HaveAt w mb t V F) (ho : Out G w w') (hm : ¬ G mb) (hM : ∀ b, G b → MutP w b) : HaveAt w' mb t V F :=
  ⟨h.map.out ho hm, h.none_, fun k e r he hr => by
    obtain ⟨a, c, ps, h1, h2, h3⟩ := h.some_ k e r he hr
    exact ⟨a, c, ps, h1, h2.out ho hM, h3⟩⟩
theorem mutP_map {w : World} {b : Nat} (h : ∃ es c, w.heap[b]? = some (.map es c)) : MutP w b := by
  obtain ⟨es, c, h⟩ := h
  intro cs t fr h'
  rw [h] at h'
  cases h'
theorem TabIn.foot_mutP {B : Nat} {w : World} {t : TD} (h : TabIn B w t) {b : Nat} (hb : t.foot b) : MutP w b := by
  rcases hb with rfl | hb | ⟨d, hd, hb⟩
  · intro cs ty fr h'
    rw [h.blk] at h'
    cases h'
    exact ⟨by decide, by decide⟩
  · obtain ⟨cur, hh⟩ := row_type h.entsR hb
    intro cs ty fr h'
    rw [hh] at h'
    cases h'
    exact ⟨by decide, by decide⟩
  · obtain ⟨cs, ty, fr, hh, ht⟩ := (h.colsA d hd).foot_ty hb
    intro cs' ty' fr' h'
    rw [hh] at h'
    cases h'
    rcases ht with rfl | rfl | rfl <;> exact ⟨by decide, by decide⟩
theorem TabIn.foot_map {B : Nat} {w : World} {t : TD} (h : TabIn B w t) {b : Nat} (hb : ∃ es c, w.heap[b]? = some (.map es c)) : ¬ t.foot b := by
  obtain ⟨es, c, hm⟩ := hb
  rintro (rfl | hb | ⟨d, hd, hb⟩)
  · rw [h.blk] at hm; cases hm
  · obtain ⟨cur, hh⟩ := row_type h.entsR hb
    rw [hh] at hm; cases hm
  · obtain ⟨cs, ty, fr, hh, ht⟩ := (h.colsA d hd).foot_ty hb
    rw [hh] at hm; cases hm
/-- A table with its values, and the map (of the table t0 with values V0). -/
structure MvS (w0 : World) (TB mb : Nat) (t : TD) (V : List (List (List WI))) (t0 : TD) (V0 : List (List (List WI))) (F : Lit → Option Value) (w : World) : Prop where
  tab : TabIn TB w t
  tb : t.tb = TB
  vals : Vals t V
  have_ : HaveAt w mb t0 V0 F
  bel : Below w0.heap.size w0 w
  le : w0.heap.size ≤ TB
  lm : w0.heap.size ≤ mb
section
variable {w0 w : World} {TB mb : Nat} {t t0 : TD} {V V0 : List (List (List WI))} {F : Lit → Option Value}
theorem MvS.next (h : MvS w0 TB mb t V t0 V0 F w) {w' : World} {t' : TD} {V' : List (List (List WI))} (ho : Out t.foot w w') (ht : TabIn TB w' t') (h1 : t'.tb = t.tb) (hv : Vals t' V') : MvS w0 TB mb t' V' t0 V0 F w' :=
  ⟨ht, h1.trans h.tb, hv, h.have_.out ho (h.tab.foot_map h.have_.map.obj) (fun b hb => h.tab.foot_mutP hb), h.bel.trans (ho.below (fun b hb => Nat.le_trans h.le (h.tab.foot_ge hb).1) h.bel.size), h.le, h.lm⟩
theorem MvS.below (h : MvS w0 TB mb t V t0 V0 F w) {w' : World} (hb : Below w.heap.size w w') : MvS w0 TB mb t V t0 V0 F w' := h.next (Out.of hb) (h.tab.below hb) rfl h.vals
theorem MvS.parts (h : MvS w0 TB mb t V t0 V0 F w) {pa : Option Addr} {pl pc : Nat} {ps : List PW} (hp : PartsAt w0.heap.size w0 pa pl pc ps) : ∀ w', Out t.cfoot w w' → PartsAt w'.heap.size w' pa pl pc ps := by
  intro w' ho
  have hb : Below w0.heap.size w w' := ho.below (fun b hb => Nat.le_trans h.le (h.tab.foot_ge (TabIn.cfoot_foot hb)).1) h.bel.size
  have := h.bel.trans hb
  exact (hp.below this).mono this.size
/-- The map is stored into. -/
theorem MvS.stored (h : MvS w0 TB mb t V t0 V0 F w) {w' : World} (hg : w.grownBy w' (some mb)) {t1 : TD} {V1 : List (List (List WI))} {F1 : Lit → Option Value} (hh : HaveAt w' mb t1 V1 F1) : MvS w0 TB mb t V t1 V1 F1 w' := by
  have ho : Out (fun b => b = mb) w w' := ⟨hg.os, hg.tape, hg.output, hg.size, fun k hk hn => hg.block k hk (fun e => hn (by cases e; rfl))⟩
  have hnf := h.tab.foot_map h.have_.map.obj
  obtain ⟨es, c, hm⟩ := h.have_.map.obj
  refine ⟨h.tab.out ho (fun b hb hbm => hnf (by cases hbm; exact hb)) (fun b hb => by
    cases hb
    intro cs ty fr h'
    rw [hm] at h'
    cases h'), h.tb, h.vals, hh, h.bel.trans (ho.below (fun b hb => by cases hb; exact h.lm) h.bel.size), h.le, h.lm⟩
end
theorem Out.one {w w' : World} {mb : Nat} (hg : w.grownBy w' (some mb)) : Out (fun b => b = mb) w w' := ⟨hg.os, hg.tape, hg.output, hg.size, fun k hk hn => hg.block k hk (fun e => hn (by cases e; rfl))⟩
theorem po_stored {B : Nat} {w w' : World} {mb : Nat} {a : Option Addr} {n c : Nat} {ps : List PW} (h : PO B w a n c ps) (hg : w.grownBy w' (some mb)) (hm : ∃ es c, w.heap[mb]? = some (.map es c)) : PO B w' a n c ps :=
  h.out (Out.one hg) (fun b hb => by cases hb; exact mutP_map hm)
/-- A row more. -/
theorem HaveAt.add {w w' : World} {mb : Nat} {t t' : TD} {V : List (List (List WI))} {F : Lit → Option Value} (h : HaveAt w mb t V F) (hvl : V.length = t.ents.length) {e : Int} {r : List (List WI)} {a : Option Addr} {c : Nat} {ps : List PW} (h1 : t'.ents = t.ents ++ [e]) (h2 : t'.cps = t.cps) (hn : e ∉ t.ents)
    (hm : MapV Tryz.prog w' 61 mb (if (F (.int .u64 e)).isSome then t.ents.length else t.ents.length + 1) (putV F (.int .u64 e) (.slice a (rowCv t' r).length c))) (hg : w.grownBy w' (some mb)) (hp : PO 0 w' a (rowCv t' r).length c ps) (hcv : cv ps = rowCv t' r) :
    HaveAt w' mb t' (V ++ [r]) (putV F (.int .u64 e) (.slice a (rowCv t' r).length c)) := by
  have hr : ∀ q, rowCv t' q = rowCv t q := fun q => by unfold rowCv; rw [h2]
  refine ⟨?_, fun x hx => ?_, fun k x q hk hq => ?_⟩
  · rw [h.none_ e hn] at hm
    rw [h1]
    simpa using hm
  · rw [h1] at hx
    simp only [List.mem_append, List.mem_singleton, not_or] at hx
    rw [putV_ne (fun he => hx.2 (by cases he; rfl))]
    exact h.none_ x hx.1
  · rw [h1] at hk
    rcases Nat.lt_or_ge k t.ents.length with hlt | hge
    · rw [List.getElem?_append_left hlt] at hk
      rw [List.getElem?_append_left (by omega)] at hq
      obtain ⟨a', c', ps', g1, g2, g3⟩ := h.some_ k x q hk hq
      have hxe : x ≠ e := fun he => hn (he ▸ List.mem_of_getElem? hk)
      rw [putV_ne (fun he => hxe (by cases he; rfl)), hr]
      exact ⟨a', c', ps', g1, po_stored g2 hg h.map.obj, g3⟩
    · have hkl := (List.getElem?_eq_some_iff.1 hk).1
      simp at hkl
      obtain rfl : k = t.ents.length := by omega
      rw [List.getElem?_append_right (Nat.le_refl _), Nat.sub_self] at hk
      rw [List.getElem?_append_right (by omega), hvl, Nat.sub_self] at hq
      simp at hk hq
      subst hk hq
      rw [putV_same]
      exact ⟨a, c, ps, rfl, hp, hcv⟩
/-- A row less. -/
theorem HaveAt.drop {w w' : World} {mb : Nat} {t t' : TD} {V : List (List (List WI))} {F : Lit → Option Value} (h : HaveAt w mb t V F) {r m : Nat} {x y : Int} {vl : List (List WI)} (hrm : r ≤ m) (hm : t.ents.length = m + 1) (hx : t.ents[r]? = some x) (hy : t.ents[m]? = some y) (hl : V[m]? = some vl) (hnd : t.ents.Nodup)
    (h1 : t'.ents = (t.ents.set r y).take m) (h2 : t'.cps = t.cps) (hmap : MapV Tryz.prog w' 61 mb (if (F (.int .u64 x)).isSome then t.ents.length - 1 else t.ents.length) (delV F (.int .u64 x))) (hg : w.grownBy w' (some mb)) (hrl : V[r]?.isSome) :
    HaveAt w' mb t' ((V.set r vl).take m) (delV F (.int .u64 x)) := by
  have hr : ∀ q, rowCv t' q = rowCv t q := fun q => by unfold rowCv; rw [h2]
  have hpair : ∀ (i j : Nat) (z : Int), t.ents[i]? = some z → t.ents[j]? = some z → i = j := by
    intro i j z hi hj
    have hil := (List.getElem?_eq_some_iff.1 hi).1
    exact (List.getElem?_inj hil hnd).1 (hi.trans hj.symm)
  have hxs : (F (.int .u64 x)).isSome = true := by
    obtain ⟨q, hq⟩ := Option.isSome_iff_exists.1 hrl
    obtain ⟨a, c, ps, g1, _⟩ := h.some_ r x q hx hq
    rw [g1]; rfl
  have hent : ∀ (k : Nat) (z : Int), t'.ents[k]? = some z → k < m ∧ ∃ j : Nat, t.ents[j]? = some z ∧ z ≠ x ∧ ∀ q, ((V.set r vl).take m)[k]? = some q → V[j]? = some q := by
    intro k z hz
    rw [h1] at hz
    obtain ⟨hkm, hc⟩ := set_take_at hz
    refine ⟨hkm, ?_⟩
    rcases hc with ⟨rfl, rfl⟩ | ⟨hne, hk⟩
    · refine ⟨m, hy, fun he => ?_, fun q hq => ?_⟩
      · subst he
        have := hpair _ _ _ hx hy
        omega
      · obtain ⟨_, ⟨_, rfl⟩ | ⟨h3, _⟩⟩ := set_take_at hq
        · exact hl
        · exact absurd rfl h3
    · refine ⟨k, hk, fun he => ?_, fun q hq => ?_⟩
      · subst he
        exact hne (hpair _ _ _ hk hx)
      · obtain ⟨_, ⟨h3, _⟩ | ⟨_, h3⟩⟩ := set_take_at hq
        · exact absurd h3 hne
        · exact h3
  refine ⟨?_, fun z hz => ?_, fun k z q hk hq => ?_⟩
  · rw [if_pos hxs] at hmap
    rw [h1]
    rw [List.length_take, List.length_set, hm]
    rw [hm] at hmap
    simpa using hmap
  · by_cases he : z = x
    · subst he
      exact delV_same _ _
    · rw [delV_ne (fun e => he (by cases e; rfl))]
      refine h.none_ z (fun hmem => hz ?_)
      obtain ⟨j, hj⟩ := List.getElem?_of_mem hmem
      rw [h1]
      have hjl := (List.getElem?_eq_some_iff.1 hj).1
      by_cases hjm : j = m
      · subst hjm
        obtain rfl : z = y := by rw [hy] at hj; cases hj; rfl
        have hrj : r ≠ j := fun e => he (by subst e; rw [hx] at hj; cases hj; rfl)
        exact List.mem_of_getElem? (i := r) (by rw [List.getElem?_take, if_pos (by omega), List.getElem?_set, if_pos rfl, if_pos (by omega)])
      · have hrj : r ≠ j := fun e => he (by subst e; rw [hx] at hj; cases hj; rfl)
        exact List.mem_of_getElem? (i := j) (by rw [List.getElem?_take, if_pos (by omega), List.getElem?_set, if_neg hrj]; exact hj)
  · obtain ⟨hkm, j, hj, hne, hv⟩ := hent k z hk
    obtain ⟨a', c', ps', g1, g2, g3⟩ := h.some_ j z q hj (hv q hq)
    rw [delV_ne (fun e => hne (by cases e; rfl)), hr]
    exact ⟨a', c', ps', g1, po_stored g2 hg h.map.obj, g3⟩
/-- Another row. -/
theorem HaveAt.put {w w' : World} {mb : Nat} {t t' : TD} {V : List (List (List WI))} {F : Lit → Option Value} (h : HaveAt w mb t V F) {k : Nat} {x : Int} {r : List (List WI)} {a : Option Addr} {c : Nat} {ps : List PW} (hx : t.ents[k]? = some x) (hk : V[k]?.isSome) (hnd : t.ents.Nodup) (h1 : t'.ents = t.ents) (h2 : t'.cps = t.cps)
    (hm : MapV Tryz.prog w' 61 mb (if (F (.int .u64 x)).isSome then t.ents.length else t.ents.length + 1) (putV F (.int .u64 x) (.slice a (rowCv t' r).length c))) (hg : w.grownBy w' (some mb)) (hp : PO 0 w' a (rowCv t' r).length c ps) (hcv : cv ps = rowCv t' r) :
    HaveAt w' mb t' (V.set k r) (putV F (.int .u64 x) (.slice a (rowCv t' r).length c)) := by
  have hr : ∀ q, rowCv t' q = rowCv t q := fun q => by unfold rowCv; rw [h2]
  have hxs : (F (.int .u64 x)).isSome = true := by
    obtain ⟨q, hq⟩ := Option.isSome_iff_exists.1 hk
    obtain ⟨a, c, ps, g1, _⟩ := h.some_ k x q hx hq
    rw [g1]; rfl
  refine ⟨?_, fun z hz => ?_, fun j z q hj hq => ?_⟩
  · rw [if_pos hxs] at hm
    rw [h1]
    exact hm
  · rw [h1] at hz
    rw [putV_ne (fun e => hz (by cases e; exact List.mem_of_getElem? hx))]
    exact h.none_ z hz
  · rw [h1] at hj
    rcases set_at hq with ⟨rfl, rfl⟩ | ⟨hne, hq⟩
    · obtain rfl : z = x := by rw [hx] at hj; cases hj; rfl
      rw [putV_same]
      exact ⟨a, c, ps, rfl, hp, hcv⟩
    · have hzx : z ≠ x := fun e => hne (by
        subst e
        have hil := (List.getElem?_eq_some_iff.1 hj).1
        exact (List.getElem?_inj hil hnd).1 (hj.trans hx.symm))
      obtain ⟨a', c', ps', g1, g2, g3⟩ := h.some_ j z q hj hq
      rw [putV_ne (fun e => hzx (by cases e; rfl)), hr]
      exact ⟨a', c', ps', g1, po_stored g2 hg h.map.obj, g3⟩
end Go.Proofs.YtoadihebdaooaaaGreat
