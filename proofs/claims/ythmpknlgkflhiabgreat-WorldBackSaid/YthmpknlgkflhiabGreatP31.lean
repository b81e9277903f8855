/- Plain: what the deeds of a table do to its values. · A table's deeds, with its values. · Plain: a heap of numbers: what a step down and a step up keep. · Plain: who lives: ids, their generations. -/
import Derived.Test.YthmpknlgkflhiabGreatP30
import Derived.Test.YthmpknlgkflhiabGreatP26
import Derived.Test.YthmpknlgkflhiabGreatRows
namespace Go.Proofs.YthmpknlgkflhiabGreat
open Go.RowKit
set_option linter.unusedVariables false
theorem Vals.new {t : TD} (h : t.ents = []) : Vals t [] := ⟨by simp [h], by simp, by simp⟩
def addRow (ps : List PW) (t : TD) : List (List WI) := t.cps.map fun x => match partOf ps x.c.id with | some p => p.val | none => []
theorem Vals.add {B : Nat} {w : World} {t : TD} {V : List (List (List WI))} {e : Int} {ps : List PW} {ea : Option Addr} {ec : Nat} {D : List CD} (hT : TabIn B w t) (h : Vals t V) (hfit : ∀ x ∈ t.cps, ∃ p, partOf ps x.c.id = some p ∧ fitF x.c.fields p.val = 0 ∧ ∀ y ∈ p.val, y.wf)
    (hD : ∀ (i : Nat) (d d' : CD), t.cols[i]? = some d → D[i]? = some d' → PutG ps t.cps i d d') : Vals { t with ents := t.ents ++ [e], ea := ea, ec := ec, cols := D } (V ++ [addRow ps t]) := by
  refine ⟨by simp [h.len], fun r hr => ?_, ?_⟩
  · rcases List.mem_append.1 hr with hr | hr
    · exact h.row r hr
    · obtain rfl := List.mem_singleton.1 hr
      simp [addRow]
  · intro k i r v x d' hk hv hx hd'
    have hil := (List.getElem?_eq_some_iff.1 hx).1
    obtain ⟨d, hd⟩ : ∃ d, t.cols[i]? = some d := ⟨_, List.getElem?_eq_getElem (by rw [hT.len]; exact hil)⟩
    obtain ⟨_, _, _, hrl⟩ := hT.col i x d hx hd
    obtain ⟨hrows, _⟩ := hD i d d' hd hd' x hx
    have hVl := h.len
    rcases Nat.lt_or_ge k V.length with hlt | hge
    · rw [List.getElem?_append_left hlt] at hk
      obtain ⟨h1, h2⟩ := h.at_ k i r v x d hk hv hx hd
      exact ⟨by rw [hrows, List.getElem?_append_left (by omega)]; exact h1, h2⟩
    · rw [List.getElem?_append_right hge] at hk
      have hk0 : k - V.length = 0 := by
        have := (List.getElem?_eq_some_iff.1 hk).1
        simp at this
        omega
      rw [hk0] at hk
      simp at hk
      subst hk
      obtain ⟨p, hp, hf, hw⟩ := hfit x (List.mem_of_getElem? hx)
      have hvv : v = p.val := by
        unfold addRow at hv
        rw [List.getElem?_map, hx] at hv
        simp [hp] at hv
        exact hv.symm
      subst hvv
      refine ⟨?_, hf, hw⟩
      rw [hrows, List.getElem?_append_right (by omega), show k - d.rows.length = 0 by omega]
      simp [rowOf, hp]
theorem set_take_at {α : Type} {l : List α} {r m k : Nat} {a x : α} (h : ((l.set r a).take m)[k]? = some x) : k < m ∧ ((k = r ∧ x = a) ∨ (k ≠ r ∧ l[k]? = some x)) := by
  rw [List.getElem?_take] at h
  split at h
  · rename_i hk
    refine ⟨hk, ?_⟩
    rw [List.getElem?_set] at h
    split at h
    · rename_i hr
      split at h
      · exact .inl ⟨hr.symm, by cases h; rfl⟩
      · cases h
    · rename_i hr
      exact .inr ⟨fun e => hr e.symm, h⟩
  · cases h
theorem set_at {α : Type} {l : List α} {r k : Nat} {a x : α} (h : (l.set r a)[k]? = some x) : (k = r ∧ x = a) ∨ (k ≠ r ∧ l[k]? = some x) := by
  have hk := (List.getElem?_eq_some_iff.1 h).1
  exact (set_take_at (m := k + 1) (by rw [List.getElem?_take, if_pos (by omega)]; exact h)).2
theorem Vals.drop {B : Nat} {w : World} {t : TD} {V : List (List (List WI))} {r m : Nat} {e : Int} {vl : List (List WI)} {D : List CD} (hT : TabIn B w t) (h : Vals t V) (hr : r ≤ m) (hm : t.ents.length = m + 1) (hl : V[m]? = some vl)
    (hD : ∀ (i : Nat) (d d' : CD), t.cols[i]? = some d → D[i]? = some d' → DropG r m i d d') : Vals { t with ents := (t.ents.set r e).take m, cols := D } ((V.set r vl).take m) := by
  have hVl := h.len
  refine ⟨by simp [h.len], fun q hq => ?_, ?_⟩
  · obtain ⟨k, hk⟩ := List.getElem?_of_mem hq
    obtain ⟨_, ⟨_, rfl⟩ | ⟨_, h2⟩⟩ := set_take_at hk
    · exact h.row _ (List.mem_of_getElem? hl)
    · exact h.row _ (List.mem_of_getElem? h2)
  · intro k i q v x d' hk hv hx hd'
    have hil := (List.getElem?_eq_some_iff.1 hx).1
    obtain ⟨d, hd⟩ : ∃ d, t.cols[i]? = some d := ⟨_, List.getElem?_eq_getElem (by rw [hT.len]; exact hil)⟩
    obtain ⟨_, _, _, hrl⟩ := hT.col i x d hx hd
    obtain ⟨l, hl'⟩ : ∃ l, d.rows[m]? = some l := ⟨_, List.getElem?_eq_getElem (by omega)⟩
    obtain ⟨hrows, _⟩ := hD i d d' hd hd' l hl'
    obtain ⟨hkm, hc⟩ := set_take_at hk
    rcases hc with ⟨rfl, rfl⟩ | ⟨hne, h2⟩
    · obtain ⟨h1, h3⟩ := h.at_ m i q v x d hl hv hx hd
      rw [hl'] at h1
      cases h1
      refine ⟨?_, h3⟩
      rw [hrows, List.getElem?_take, if_pos hkm, List.getElem?_set, if_pos rfl, if_pos (by omega)]
    · obtain ⟨h1, h3⟩ := h.at_ k i q v x d h2 hv hx hd
      refine ⟨?_, h3⟩
      rw [hrows, List.getElem?_take, if_pos hkm, List.getElem?_set, if_neg (fun e => hne e.symm)]
      exact h1
theorem Vals.put {t : TD} {V : List (List (List WI))} {i k : Nat} {d : CD} {x : CV} {r : List (List WI)} {v : List WI} (h : Vals t V) (hk : V[k]? = some r) (hx : t.cps[i]? = some x) (hd : t.cols[i]? = some d) (hkl : k < d.rows.length) (hfit : fitF x.c.fields v = 0) (hwf : ∀ y ∈ v, y.wf) :
    Vals (t.put i k d (packF x.c.fields v)) (V.set k (r.set i v)) := by
  refine ⟨by rw [List.length_set]; exact h.len, fun q hq => ?_, ?_⟩
  · obtain ⟨j, hj⟩ := List.getElem?_of_mem hq
    rcases set_at hj with ⟨_, rfl⟩ | ⟨_, h2⟩
    · rw [List.length_set]; exact h.row _ (List.mem_of_getElem? hk)
    · exact h.row _ (List.mem_of_getElem? h2)
  · intro k' i' q v' x' d' hk' hv' hx' hd'
    have hx2 : t.cps[i']? = some x' := hx'
    rcases set_at (show (t.cols.set i { d with rows := d.rows.set k (packF x.c.fields v) })[i']? = some d' from hd') with ⟨rfl, rfl⟩ | ⟨hne, hd2⟩
    · obtain rfl : x' = x := by rw [hx] at hx2; cases hx2; rfl
      rcases set_at hk' with ⟨rfl, rfl⟩ | ⟨hne2, hk2⟩
      · rcases set_at hv' with ⟨_, rfl⟩ | ⟨hne3, _⟩
        · refine ⟨?_, hfit, hwf⟩
          show (d.rows.set k' _)[k']? = _
          rw [List.getElem?_set, if_pos rfl, if_pos hkl]
        · exact absurd rfl hne3
      · obtain ⟨h1, h3⟩ := h.at_ k' i' q v' x' d hk2 hv' hx hd
        refine ⟨?_, h3⟩
        show (d.rows.set k _)[k']? = _
        rw [List.getElem?_set, if_neg (fun e => hne2 e.symm)]
        exact h1
    · rcases set_at hk' with ⟨rfl, rfl⟩ | ⟨hne2, hk2⟩
      · rcases set_at hv' with ⟨rfl, _⟩ | ⟨_, hv2⟩
        · exact absurd rfl hne
        · exact h.at_ k' i' r v' x' d' hk hv2 hx2 hd2
      · exact h.at_ k' i' q v' x' d' hk2 hv' hx2 hd2
end Go.Proofs.YthmpknlgkflhiabGreat
namespace Go.Proofs.YthmpknlgkflhiabGreat
open Go.RowKit
set_option linter.unusedVariables false
section
variable {B : Nat} {w : World} {t : TD} {V : List (List (List WI))}
theorem TDeed.refl (h : TabIn B w t) {w' : World} (hb : Below w.heap.size w w') : TDeed B t t w w' := ⟨h.below hb, rfl, rfl, rfl, rfl, rfl, Out.of hb, fun _ => .inl⟩
theorem tabAdd_deed (h : TabIn B w t) (hV : Vals t V) (e : Int) (ps : List PW) (pa : Option Addr) (pl pc : Nat) (hps : ∀ w', Out t.cfoot w w' → PartsAt w'.heap.size w' pa pl pc ps) (hl : pl ≤ 100000) (herr : addErr t e ps = 0)
    (hfit : ∀ x ∈ t.cps, ∃ p, partOf ps x.c.id = some p ∧ fitF x.c.fields p.val = 0 ∧ ∀ y ∈ p.val, y.wf) :
    Calls Tryz.prog 42 #[.pointer (some ⟨t.tb, 0, none⟩), .int .u64 e, .slice pa pl pc] w fun en w' => en = .returned (.tuple #[.int .i64 (t.ents.length : Int), .int .i64 0]) ∧ ∃ t', TDeed B t t' w w' ∧ t'.ents = t.ents ++ [e] ∧ t'.kept = t.kept ∧ t'.cps = t.cps ∧ Vals t' (V ++ [addRow ps t]) := by
  refine (tabAdd_ok h e ps pa pl pc hps hl herr).mono ?_
  rintro en w' ⟨rfl, ea, ec, D, hT, hG, hO, hF⟩
  exact ⟨rfl, _, ⟨hT, rfl, rfl, rfl, rfl, rfl, hO, hF⟩, rfl, rfl, rfl, hV.add h hfit hG⟩
theorem tabDrop_deed (h : TabIn B w t) (hV : Vals t V) (r m : Nat) (hr : r ≤ m) (hm : t.ents.length = m + 1) (x : Int) (hx : t.ents[m]? = some x) (vl : List (List WI)) (hvl : V[m]? = some vl) :
    Calls Tryz.prog 84 #[.pointer (some ⟨t.tb, 0, none⟩), .int .i64 (r : Int)] w fun en w' => en = .returned (.tuple #[.int .u64 (if r = m then 0 else x), .int .i64 0]) ∧ ∃ t', TDeed B t t' w w' ∧ t'.ents = (t.ents.set r x).take m ∧ t'.kept = t.kept ∧ t'.cps = t.cps ∧ Vals t' ((V.set r vl).take m) := by
  refine (tabDrop_ok h r m hr hm x hx).mono ?_
  rintro en w' ⟨rfl, D, hT, hG, hO, hF⟩
  exact ⟨rfl, _, ⟨hT, rfl, rfl, rfl, rfl, rfl, hO, hF⟩, rfl, rfl, rfl, hV.drop h hr hm hvl hG⟩
theorem Vals.kept (hV : Vals t V) (k : Nat) : Vals { t with kept := k } V := ⟨hV.len, hV.row, hV.at_⟩
theorem tabKeep_deed (h : TabIn B w t) (hV : Vals t V) (hf : t.free ≠ 0) : Calls Tryz.prog 65 #[.pointer (some ⟨t.tb, 0, none⟩)] w fun e w' => e = .returned (.int .i64 0) ∧ ∃ t', TDeed B t t' w w' ∧ t'.ents = t.ents ∧ t'.kept = t.kept + 1 ∧ t'.cps = t.cps ∧ Vals t' V := by
  refine (tabKeep_in h).mono ?_
  rintro e w' ⟨rfl, hT, hO⟩
  rw [if_neg hf] at hT
  exact ⟨by rw [if_neg hf], _, ⟨hT, rfl, rfl, rfl, rfl, rfl, hO, fun _ hb => .inl hb⟩, rfl, rfl, rfl, hV.kept _⟩
theorem tabYield_deed (h : TabIn B w t) (hV : Vals t V) (hk : t.kept ≠ 0) : Calls Tryz.prog 64 #[.pointer (some ⟨t.tb, 0, none⟩)] w fun e w' => e = .returned (.int .i64 0) ∧ ∃ t', TDeed B t t' w w' ∧ t'.ents = t.ents ∧ t'.kept = t.kept - 1 ∧ t'.cps = t.cps ∧ Vals t' V := by
  refine (tabYield_in h).mono ?_
  rintro e w' ⟨rfl, hT, hO⟩
  rw [if_neg hk] at hT
  exact ⟨by rw [if_neg hk], _, ⟨hT, rfl, rfl, rfl, rfl, rfl, hO, fun _ hb => .inl hb⟩, rfl, rfl, rfl, hV.kept _⟩
theorem tabSet_deed (h : TabIn B w t) (hV : Vals t V) (k i : Nat) (x : CV) (d : CD) (r : List (List WI)) (hr : V[k]? = some r) (comp : Int) (va : Option Addr) (vl vc : Nat) (v : List WI) (hk : k < t.ents.length) (hc : colOf t.cps comp = some x) (hx : t.cps[i]? = some x) (hd : t.cols[i]? = some d) (hp : IntsAt w.heap.size w va vl vc v) (hfit : fitF x.c.fields v = 0) (hwf : ∀ y ∈ v, y.wf) :
    Calls Tryz.prog 53 #[.pointer (some ⟨t.tb, 0, none⟩), .int .i64 (k : Int), .agg #[.int .i64 comp, .slice va vl vc]] w fun e w' => e = .returned (.int .i64 0) ∧ ∃ t', TDeed B t t' w w' ∧ t'.ents = t.ents ∧ t'.kept = t.kept ∧ t'.cps = t.cps ∧ Vals t' (V.set k (r.set i v)) := by
  refine (tabSet_ok h k i x d comp va vl vc v hk hc hx hd hp hfit).mono ?_
  rintro e w' ⟨rfl, hT, hF, hO⟩
  obtain ⟨_, _, _, hrl⟩ := h.col i x d hx hd
  exact ⟨rfl, _, ⟨hT, rfl, rfl, rfl, rfl, rfl, hO.mono (fun b hb => .inl (.inr (.inr hb))), fun b hb => .inl (hF b hb)⟩, rfl, rfl, rfl, hV.put hr hx hd (by omega) hfit hwf⟩
end
end Go.Proofs.YthmpknlgkflhiabGreat
namespace Go.Proofs.YthmpknlgkflhiabGreat
set_option linter.unusedVariables false
/-- The k-th number; 0 behind the end. -/
def at0 (l : List Int) (k : Nat) : Int := l.getD k 0
theorem at0_some {l : List Int} {k : Nat} {x : Int} (h : l[k]? = some x) : at0 l k = x := by
  unfold at0; rw [List.getD_eq_getElem?_getD, h]; rfl
theorem at0_get {l : List Int} {k : Nat} (h : k < l.length) : l[k]? = some (at0 l k) := by
  unfold at0; rw [List.getD_eq_getElem?_getD, List.getElem?_eq_getElem h]; rfl
/-- Two places are swapped. -/
def swapL (l : List Int) (i j : Nat) : List Int := (l.set i (at0 l j)).set j (at0 l i)
theorem swapL_len (l : List Int) (i j : Nat) : (swapL l i j).length = l.length := by unfold swapL; simp
theorem swapL_at {l : List Int} {i j : Nat} (hi : i < l.length) (hj : j < l.length) (k : Nat) : at0 (swapL l i j) k = if k = j then at0 l i else if k = i then at0 l j else at0 l k := by
  unfold swapL at0
  simp only [List.getD_eq_getElem?_getD, List.getElem?_set, List.length_set]
  by_cases h1 : k = j
  · subst h1; simp [hj]
  · rw [if_neg (fun e => h1 e.symm), if_neg h1]
    by_cases h2 : k = i
    · subst h2; simp [hi]
    · rw [if_neg (fun e => h2 e.symm), if_neg h2]
theorem swapL_perm {l : List Int} {i j : Nat} (hi : i < l.length) (hj : j < l.length) : (swapL l i j).Perm l := by
  unfold swapL
  have h1 : at0 l j = l[j] := by unfold at0; rw [List.getD_eq_getElem?_getD, List.getElem?_eq_getElem hj]; rfl
  have h2 : at0 l i = l[i] := by unfold at0; rw [List.getD_eq_getElem?_getD, List.getElem?_eq_getElem hi]; rfl
  rw [h1, h2]
  exact List.set_set_perm hi hj
/-- The first n numbers are a heap. -/
def HeapN (l : List Int) (n : Nat) : Prop := ∀ k, 1 ≤ k → k < n → at0 l ((k - 1) / 2) ≤ at0 l k
/-- .. but for the children of i. -/
structure DownN (l : List Int) (n i : Nat) : Prop where
  rest : ∀ k, 1 ≤ k → k < n → (k - 1) / 2 ≠ i → at0 l ((k - 1) / 2) ≤ at0 l k
  over : ∀ k, 1 ≤ k → k < n → (k - 1) / 2 = i → 1 ≤ i → at0 l ((i - 1) / 2) ≤ at0 l k
/-- .. but for j itself. -/
structure UpN (l : List Int) (n j : Nat) : Prop where
  rest : ∀ k, 1 ≤ k → k < n → k ≠ j → at0 l ((k - 1) / 2) ≤ at0 l k
  over : ∀ k, 1 ≤ k → k < n → (k - 1) / 2 = j → 1 ≤ j → at0 l ((j - 1) / 2) ≤ at0 l k
theorem HeapN.down {l : List Int} {n : Nat} (h : HeapN l n) (i : Nat) : DownN l n i :=
  ⟨fun k h1 h2 _ => h k h1 h2, fun k h1 h2 h3 h4 => by
    have a := h k h1 h2
    rw [h3] at a
    have b := h i h4 (by omega)
    omega⟩
/-- No child. -/
theorem DownN.leaf {l : List Int} {n i : Nat} (h : DownN l n i) (hi : n ≤ 2 * i + 1) : HeapN l n := fun k h1 h2 => h.rest k h1 h2 (by omega)
/-- The least child is not less. -/
theorem DownN.stop {l : List Int} {n i j : Nat} (h : DownN l n i) (hj : at0 l i ≤ at0 l j) (hm : ∀ k, 1 ≤ k → k < n → (k - 1) / 2 = i → at0 l j ≤ at0 l k) : HeapN l n := fun k h1 h2 => by
  by_cases e : (k - 1) / 2 = i
  · rw [e]; have := hm k h1 h2 e; omega
  · exact h.rest k h1 h2 e
/-- The least child is less: both change places. -/
theorem DownN.step {l : List Int} {n i j : Nat} (h : DownN l n i) (hn : n ≤ l.length) (hj1 : 1 ≤ j) (hjn : j < n) (hji : (j - 1) / 2 = i) (hlt : at0 l j < at0 l i) (hm : ∀ k, 1 ≤ k → k < n → (k - 1) / 2 = i → at0 l j ≤ at0 l k) : DownN (swapL l i j) n j := by
  have hi : i < l.length := by omega
  have hjl : j < l.length := by omega
  have hij : i ≠ j := by omega
  refine ⟨fun k h1 h2 h3 => ?_, fun k h1 h2 h3 h4 => ?_⟩
  · rw [swapL_at hi hjl, swapL_at hi hjl, if_neg h3]
    by_cases e1 : (k - 1) / 2 = i
    · rw [if_pos e1]
      by_cases e2 : k = j
      · rw [if_pos e2]; omega
      · rw [if_neg e2, if_neg (by omega)]
        exact hm k h1 h2 e1
    · rw [if_neg e1, if_neg (by intro e; subst e; exact e1 hji)]
      by_cases e2 : k = i
      · subst e2
        rw [if_pos rfl]
        exact h.over j hj1 hjn hji h1
      · rw [if_neg e2]
        exact h.rest k h1 h2 e1
  · rw [swapL_at hi hjl, swapL_at hi hjl, hji, if_neg hij, if_pos rfl, if_neg (by omega), if_neg (by omega)]
    have := h.rest k h1 h2 (by omega)
    rw [h3] at this
    exact this
theorem UpN.stop {l : List Int} {n j : Nat} (h : UpN l n j) (hj : j = 0 ∨ at0 l ((j - 1) / 2) ≤ at0 l j) : HeapN l n := fun k h1 h2 => by
  by_cases e : k = j
  · subst e
    rcases hj with hj | hj
    · omega
    · exact hj
  · exact h.rest k h1 h2 e
theorem UpN.step {l : List Int} {n i j : Nat} (h : UpN l n j) (hn : n ≤ l.length) (hj1 : 1 ≤ j) (hjn : j < n) (hij : i = (j - 1) / 2) (hlt : at0 l j < at0 l i) : UpN (swapL l i j) n i := by
  subst hij
  have hi : (j - 1) / 2 < l.length := by omega
  have hjl : j < l.length := by omega
  refine ⟨fun k h1 h2 h3 => ?_, fun k h1 h2 h3 h4 => ?_⟩
  · rw [swapL_at hi hjl, swapL_at hi hjl]
    by_cases e2 : k = j
    · subst e2
      rw [if_pos rfl, if_neg (by omega), if_pos rfl]; omega
    · rw [if_neg e2, if_neg h3]
      by_cases e1 : (k - 1) / 2 = j
      · rw [if_pos e1]
        exact h.over k h1 h2 e1 hj1
      · rw [if_neg e1]
        by_cases e3 : (k - 1) / 2 = (j - 1) / 2
        · rw [if_pos e3]
          have := h.rest k h1 h2 e2
          rw [e3] at this
          omega
        · rw [if_neg e3]; exact h.rest k h1 h2 e2
  · rw [swapL_at hi hjl, swapL_at hi hjl, if_neg (by omega), if_neg (by omega)]
    have hp := h.rest ((j - 1) / 2) h4 (by omega) (by omega)
    by_cases e : k = j
    · rw [if_pos e]; exact hp
    · rw [if_neg e, if_neg (by omega)]
      have := h.rest k h1 h2 e
      rw [h3] at this
      omega
theorem HeapN.least {l : List Int} {n : Nat} (h : HeapN l n) : ∀ k, k < n → at0 l 0 ≤ at0 l k := by
  intro k
  induction k using Nat.strongRecOn with
  | _ k ih =>
    intro hk
    rcases Nat.eq_zero_or_pos k with rfl | h0
    · exact Int.le_refl _
    · have a := ih ((k - 1) / 2) (by omega) (by omega)
      have b := h k h0 hk
      omega
theorem HeapN.of_take {l : List Int} {n m : Nat} (h : HeapN l n) (hm : m ≤ n) : HeapN (l.take m) m := fun k h1 h2 => by
  have := h k h1 (by omega)
  unfold at0 at *
  rw [List.getD_eq_getElem?_getD, List.getD_eq_getElem?_getD] at *
  rw [List.getElem?_take_of_lt (by omega), List.getElem?_take_of_lt h2]
  exact this
theorem HeapN.snoc {l : List Int} (h : HeapN l l.length) (x : Int) : UpN (l ++ [x]) (l.length + 1) l.length := by
  have e : ∀ k, k < l.length → at0 (l ++ [x]) k = at0 l k := fun k hk => by
    unfold at0
    rw [List.getD_eq_getElem?_getD, List.getD_eq_getElem?_getD, List.getElem?_append_left hk]
  exact ⟨fun k h1 h2 h3 => by rw [e _ (by omega), e _ (by omega)]; exact h k h1 (by omega), fun k h1 h2 h3 h4 => by omega⟩
/-- After the ends have changed places, all but the last are a heap but for the first one's children. -/
theorem HeapN.swapped {l : List Int} {m : Nat} (h : HeapN l (m + 1)) (hl : l.length = m + 1) : DownN (swapL l 0 m) m 0 := by
  refine ⟨fun k h1 h2 h3 => ?_, fun k h1 h2 h3 h4 => by omega⟩
  rw [swapL_at (by omega) (by omega), swapL_at (by omega) (by omega), if_neg (by omega), if_neg h3, if_neg (by omega), if_neg (by omega)]
  exact h k h1 (by omega)
end Go.Proofs.YthmpknlgkflhiabGreat
namespace Go.Proofs.YthmpknlgkflhiabGreat
set_option linter.unusedVariables false
/-- The handle of an id and a generation. -/
def hOf (id gen : Int) : Int := gen * 4294967296 + id
theorem hOf_id {id gen : Int} (h0 : 0 ≤ id) (h1 : id < 4294967296) : hOf id gen % 4294967296 = id := by unfold hOf; omega
theorem hOf_gen {id gen : Int} (h0 : 0 ≤ id) (h1 : id < 4294967296) : hOf id gen / 4294967296 = gen := by unfold hOf; omega
theorem hOf_back {e : Int} : hOf (e % 4294967296) (e / 4294967296) = e := by unfold hOf; omega
structure IX where
  most : Int
  gens : List Int
  lives : List Bool
def IX.gen (x : IX) (id : Nat) : Int := x.gens.getD id 0
def IX.live (x : IX) (id : Nat) : Bool := x.lives.getD id false
structure IX.Ok (x : IX) : Prop where
  len : x.lives.length = x.gens.length
  n1 : 2 ≤ x.gens.length
  n2 : x.gens.length ≤ 257
  most1 : 1 ≤ x.most
  most2 : x.most ≤ 65535
  gen1 : ∀ id, 1 ≤ id → id < x.gens.length → 1 ≤ x.gen id ∧ x.gen id ≤ x.most + 1
  live0 : x.live 0 = false
  liveg : ∀ id, x.live id = true → x.gen id ≤ x.most
def IX.freeB (x : IX) (id : Nat) : Bool := decide (1 ≤ id) && decide (id < x.gens.length) && !x.live id && decide (x.gen id ≤ x.most)
/-- The id that would be next. -/
def IX.next (x : IX) : Option Nat := (List.range x.gens.length).find? x.freeB
/-- Does somebody live? -/
def IX.alive (x : IX) (e : Int) : Bool := x.live (e % 4294967296).toNat && decide (x.gen (e % 4294967296).toNat = e / 4294967296)
def IX.liveH (x : IX) (id : Nat) : Option Int := if x.live id then some (hOf id (x.gen id)) else none
/-- All who live. -/
def IX.liveL (x : IX) : List Int := (List.range x.gens.length).filterMap x.liveH
theorem nd_perm {l m : List Int} (hl : l.Nodup) (hm : m.Nodup) (h : ∀ x, x ∈ l ↔ x ∈ m) : l.Perm m := by
  induction l generalizing m with
  | nil =>
    cases m with
    | nil => exact .refl _
    | cons y r => exact absurd ((h y).2 (List.mem_cons_self)) (by simp)
  | cons x r ih =>
    have hx : x ∈ m := (h x).1 List.mem_cons_self
    have hnd := List.nodup_cons.1 hl
    refine ((ih hnd.2 (hm.erase x) fun y => ?_).cons x).trans (List.perm_cons_erase hx).symm
    rw [hm.mem_erase_iff]
    constructor
    · intro hy
      exact ⟨fun e => hnd.1 (e ▸ hy), (h y).1 (List.mem_cons_of_mem _ hy)⟩
    · rintro ⟨h1, h2⟩
      rcases List.mem_cons.1 ((h y).2 h2) with e | h3
      · exact absurd e h1
      · exact h3
theorem IX.live_lt {x : IX} (hl : x.lives.length = x.gens.length) {id : Nat} (h : x.live id = true) : id < x.gens.length := by
  refine Classical.byContradiction fun hn => ?_
  unfold IX.live at h
  rw [List.getD_eq_getElem?_getD, List.getElem?_eq_none (by omega)] at h
  cases h
theorem IX.mem_liveL {x : IX} (hl : x.lives.length = x.gens.length) (e : Int) : e ∈ x.liveL ↔ ∃ id : Nat, x.live id = true ∧ e = hOf id (x.gen id) := by
  unfold IX.liveL
  rw [List.mem_filterMap]
  constructor
  · rintro ⟨id, h1, h2⟩
    unfold IX.liveH at h2
    split at h2
    · rename_i h3; cases h2; exact ⟨id, h3, rfl⟩
    · cases h2
  · rintro ⟨id, h1, rfl⟩
    exact ⟨id, List.mem_range.2 (IX.live_lt hl h1), by unfold IX.liveH; rw [if_pos h1]⟩
section
variable {x : IX} (h : x.Ok)
include h
theorem IX.Ok.alive_iff (e : Int) (h0 : 0 ≤ e) : x.alive e = true ↔ e ∈ x.liveL := by
  have hlen := h.len
  have hn2 := h.n2
  rw [IX.mem_liveL h.len]
  unfold IX.alive
  rw [Bool.and_eq_true, decide_eq_true_iff]
  constructor
  · rintro ⟨h1, h2⟩
    refine ⟨_, h1, ?_⟩
    rw [h2]
    have : ((e % 4294967296).toNat : Int) = e % 4294967296 := by omega
    rw [this, hOf_back]
  · rintro ⟨id, h1, rfl⟩
    have := IX.live_lt hlen h1
    rw [hOf_id (by omega) (by omega), hOf_gen (by omega) (by omega), Int.toNat_natCast]
    exact ⟨h1, rfl⟩
theorem IX.Ok.pos {id : Nat} (hid : x.live id = true) : 1 ≤ id := by
  refine Classical.byContradiction fun hn => ?_
  obtain rfl : id = 0 := by omega
  rw [h.live0] at hid; cases hid
theorem IX.Ok.live_bd {e : Int} (he : e ∈ x.liveL) : 4294967297 ≤ e ∧ e < 281474976710656 ∧ e % 4294967296 < 257 ∧ 1 ≤ e % 4294967296 := by
  obtain ⟨id, h1, rfl⟩ := (IX.mem_liveL h.len e).1 he
  have hp := h.pos h1
  have hlt := IX.live_lt h.len h1
  have hn2 := h.n2
  have hg := h.gen1 id hp hlt
  have hg2 := h.liveg id h1
  have hm := h.most2
  rw [hOf_id (by omega) (by omega)]
  unfold hOf
  omega
theorem IX.Ok.liveL_nd : x.liveL.Nodup := by
  unfold IX.liveL
  rw [List.Nodup, List.pairwise_filterMap]
  refine List.nodup_range.imp_of_mem ?_
  intro a b ha hb hab u hu v hv huv
  have ha' := List.mem_range.1 ha
  have hb' := List.mem_range.1 hb
  have hn2 := h.n2
  unfold IX.liveH at hu hv
  split at hu
  · split at hv
    · cases hu; cases hv
      have := congrArg (fun z : Int => z % 4294967296) huv
      have this : hOf (a : Int) (x.gen a) % 4294967296 = hOf (b : Int) (x.gen b) % 4294967296 := this
      rw [hOf_id (by omega) (by omega), hOf_id (by omega) (by omega)] at this
      omega
    · cases hv
  · cases hu
theorem IX.Ok.live_id {e : Int} (he : e ∈ x.liveL) : ∃ id : Nat, x.live id = true ∧ e = hOf id (x.gen id) ∧ (e % 4294967296).toNat = id ∧ 1 ≤ id ∧ id < x.gens.length := by
  obtain ⟨id, h1, rfl⟩ := (IX.mem_liveL h.len e).1 he
  have hlt := IX.live_lt h.len h1
  have hn2 := h.n2
  exact ⟨id, h1, rfl, by rw [hOf_id (by omega) (by omega), Int.toNat_natCast], h.pos h1, hlt⟩
theorem IX.Ok.liveL_len : x.liveL.length + 1 ≤ x.gens.length := by
  unfold IX.liveL
  obtain ⟨m, hm⟩ : ∃ m, x.gens.length = m + 1 := ⟨x.gens.length - 1, by have := h.n1; omega⟩
  rw [hm, List.range_succ_eq_map, List.filterMap_cons]
  have : x.liveH 0 = none := by unfold IX.liveH; rw [h.live0]; rfl
  rw [this]
  have := List.length_filterMap_le x.liveH (List.map Nat.succ (List.range m))
  simp at this ⊢
  omega
end
def IX.spawn (x : IX) (id : Nat) : IX := { x with lives := x.lives.set id true }
def IX.kill (x : IX) (id : Nat) : IX := { x with lives := x.lives.set id false, gens := x.gens.set id (x.gen id + 1) }
theorem getD_set {α : Type} {l : List α} {i : Nat} (hi : i < l.length) (a d : α) (j : Nat) : (l.set i a).getD j d = if j = i then a else l.getD j d := by
  rw [List.getD_eq_getElem?_getD, List.getD_eq_getElem?_getD, List.getElem?_set]
  by_cases h : j = i
  · subst h; simp [hi]
  · rw [if_neg (fun e => h e.symm), if_neg h]
theorem IX.next_some {x : IX} {id : Nat} (h : x.next = some id) : 1 ≤ id ∧ id < x.gens.length ∧ x.live id = false ∧ x.gen id ≤ x.most := by
  have := List.find?_some h
  unfold IX.freeB at this
  simp at this
  exact ⟨this.1.1.1, this.1.1.2, this.1.2, this.2⟩
theorem IX.Ok.spawn {x : IX} (h : x.Ok) {id : Nat} (hn : x.next = some id) : (x.spawn id).Ok ∧ hOf id (x.gen id) ∉ x.liveL ∧ (x.spawn id).liveL.Perm (hOf id (x.gen id) :: x.liveL) := by
  obtain ⟨h1, h2, h3, h4⟩ := IX.next_some hn
  have hlen := h.len
  have hl : ∀ j, (x.spawn id).live j = if j = id then true else x.live j := fun j => getD_set (by omega) _ _ _
  have hok : (x.spawn id).Ok := by
    refine ⟨by simp [IX.spawn, h.len], h.n1, h.n2, h.most1, h.most2, h.gen1, ?_, fun j hj => ?_⟩
    · rw [hl, if_neg (by omega)]; exact h.live0
    · rw [hl] at hj
      split at hj
      · rename_i e; subst e; exact h4
      · exact h.liveg j hj
  have hno : hOf id (x.gen id) ∉ x.liveL := by
    intro he
    obtain ⟨j, k1, k2, k3, k4, k5⟩ := h.live_id he
    have hn2 := h.n2
    rw [hOf_id (by omega) (by omega), Int.toNat_natCast] at k3
    subst k3
    rw [h3] at k1; cases k1
  refine ⟨hok, hno, nd_perm hok.liveL_nd (List.nodup_cons.2 ⟨hno, h.liveL_nd⟩) fun e => ?_⟩
  rw [IX.mem_liveL hok.len, List.mem_cons, IX.mem_liveL h.len]
  constructor
  · rintro ⟨j, k1, rfl⟩
    rw [hl] at k1
    split at k1
    · rename_i e; subst e; exact .inl rfl
    · exact .inr ⟨j, k1, rfl⟩
  · rintro (rfl | ⟨j, k1, rfl⟩)
    · exact ⟨id, by rw [hl, if_pos rfl], rfl⟩
    · exact ⟨j, by rw [hl]; split <;> first | rfl | exact k1, rfl⟩
theorem IX.Ok.kill {x : IX} (h : x.Ok) {id : Nat} (hi : x.live id = true) : (x.kill id).Ok ∧ x.liveL.Perm (hOf id (x.gen id) :: (x.kill id).liveL) := by
  have hlen := h.len
  have hlt := IX.live_lt hlen hi
  have hp := h.pos hi
  have hl : ∀ j, (x.kill id).live j = if j = id then false else x.live j := fun j => getD_set (by omega) _ _ _
  have hg : ∀ j, (x.kill id).gen j = if j = id then x.gen id + 1 else x.gen j := fun j => getD_set (by omega) _ _ _
  have hgl : (x.kill id).gens.length = x.gens.length := by simp [IX.kill]
  have hok : (x.kill id).Ok := by
    refine ⟨by simp [IX.kill, h.len], by rw [hgl]; exact h.n1, by rw [hgl]; exact h.n2, h.most1, h.most2, fun j j1 j2 => ?_, ?_, fun j hj => ?_⟩
    · rw [hgl] at j2
      rw [hg]
      show _ ∧ _ ≤ x.most + 1
      split
      · have a := h.gen1 id hp hlt
        have b := h.liveg id hi
        omega
      · exact h.gen1 j j1 j2
    · rw [hl, if_neg (by omega)]; exact h.live0
    · rw [hl] at hj
      split at hj
      · cases hj
      · rename_i hj2
        rw [hg, if_neg hj2]
        exact h.liveg j hj
  have hn2 := h.n2
  have hno : hOf id (x.gen id) ∉ (x.kill id).liveL := by
    intro he
    obtain ⟨j, k1, k2, k3, k4, k5⟩ := hok.live_id he
    rw [hOf_id (by omega) (by omega), Int.toNat_natCast] at k3
    subst k3
    rw [hl, if_pos rfl] at k1; cases k1
  refine ⟨hok, nd_perm h.liveL_nd (List.nodup_cons.2 ⟨hno, hok.liveL_nd⟩) fun e => ?_⟩
  rw [IX.mem_liveL h.len, List.mem_cons, IX.mem_liveL hok.len]
  constructor
  · rintro ⟨j, k1, rfl⟩
    by_cases e : j = id
    · subst e; exact .inl rfl
    · exact .inr ⟨j, by rw [hl, if_neg e]; exact k1, by rw [hg, if_neg e]⟩
  · rintro (rfl | ⟨j, k1, rfl⟩)
    · exact ⟨id, hi, rfl⟩
    · rw [hl] at k1
      split at k1
      · cases k1
      · rename_i e
        exact ⟨j, k1, by rw [hg, if_neg e]⟩
/-- A heap of the ids that are free. -/
structure FreeOk (x : IX) (fr : List Int) : Prop where
  heap : HeapN fr fr.length
  nd : fr.Nodup
  mem : ∀ y, y ∈ fr ↔ ∃ id : Nat, y = id ∧ x.freeB id = true
theorem IX.freeB_lt {x : IX} {id : Nat} (h : x.freeB id = true) : id < x.gens.length ∧ 1 ≤ id := by
  unfold IX.freeB at h
  simp at h
  exact ⟨h.1.1.2, h.1.1.1⟩
theorem FreeOk.next {x : IX} {fr : List Int} (h : FreeOk x fr) (h0 : fr ≠ []) : ∃ id : Nat, x.next = some id ∧ at0 fr 0 = id := by
  have hl : 0 < fr.length := List.length_pos_iff.2 h0
  have hm : at0 fr 0 ∈ fr := List.mem_of_getElem? (at0_get hl)
  obtain ⟨id, hid, hf⟩ := (h.mem _).1 hm
  refine ⟨id, ?_, hid⟩
  unfold IX.next
  rw [List.find?_range_eq_some]
  refine ⟨hf, List.mem_range.2 (IX.freeB_lt hf).1, fun j hj => ?_⟩
  cases hb : x.freeB j with
  | false => rfl
  | true =>
    have hjm : (j : Int) ∈ fr := (h.mem _).2 ⟨j, rfl, hb⟩
    obtain ⟨k, hk⟩ := List.getElem?_of_mem hjm
    have := h.heap.least k (List.getElem?_eq_some_iff.1 hk).1
    rw [at0_some hk] at this
    omega
theorem FreeOk.next_none {x : IX} (h : FreeOk x []) : x.next = none := by
  unfold IX.next
  rw [List.find?_eq_none]
  intro j _ hb
  have := (h.mem j).2 ⟨j, rfl, hb⟩
  simp at this
theorem FreeOk.len {x : IX} {fr : List Int} (h : FreeOk x fr) (hx : x.Ok) : fr.length ≤ 257 := by
  have hn2 := hx.n2
  have h1 : ∀ y ∈ fr, y ∈ (List.range x.gens.length).map (fun (j : Nat) => (j : Int)) := fun y hy => by
    obtain ⟨id, rfl, hf⟩ := (h.mem y).1 hy
    exact List.mem_map.2 ⟨id, List.mem_range.2 (IX.freeB_lt hf).1, rfl⟩
  have := h.nd.length_le_of_subset h1
  simp at this
  omega
theorem FreeOk.pop {x : IX} {fr fr' : List Int} (h : FreeOk x fr) {id : Nat} (hn : x.next = some id) (hx : x.Ok) (hh : HeapN fr' fr'.length) (hp : fr.Perm ((id : Int) :: fr')) : FreeOk (x.spawn id) fr' := by
  have hlen := hx.len
  obtain ⟨h1, h2, h3, h4⟩ := IX.next_some hn
  have hnd := List.nodup_cons.1 (hp.nodup h.nd)
  refine ⟨hh, hnd.2, fun y => ?_⟩
  have hm : y ∈ fr' ↔ y ∈ fr ∧ y ≠ id := by
    rw [hp.mem_iff, List.mem_cons]
    constructor
    · intro hy; exact ⟨.inr hy, fun e => hnd.1 (e ▸ hy)⟩
    · rintro ⟨k1 | k1, k2⟩
      · exact absurd k1 k2
      · exact k1
  have hb : ∀ j, (x.spawn id).freeB j = (x.freeB j && decide (j ≠ id)) := fun j => by
    have hl : (x.spawn id).live j = if j = id then true else x.live j := getD_set (by omega) _ _ _
    unfold IX.freeB
    rw [hl]
    have hg : (x.spawn id).gen j = x.gen j := rfl
    have hl2 : (x.spawn id).gens.length = x.gens.length := rfl
    have hl3 : (x.spawn id).most = x.most := rfl
    rw [hg, hl2, hl3]
    by_cases e : j = id
    · simp [e]
    · simp [e]
  rw [hm, h.mem]
  constructor
  · rintro ⟨⟨j, rfl, hj⟩, hne⟩
    exact ⟨j, rfl, by rw [hb, hj]; simp; omega⟩
  · rintro ⟨j, rfl, hj⟩
    rw [hb, Bool.and_eq_true, decide_eq_true_iff] at hj
    exact ⟨⟨j, rfl, hj.1⟩, by have := hj.2; omega⟩
theorem FreeOk.push {x : IX} {fr fr' : List Int} (h : FreeOk x fr) {id : Nat} (hi : x.live id = true) (hx : x.Ok) (hh : HeapN fr' fr'.length) (hp : fr'.Perm (if x.gen id + 1 ≤ x.most then (id : Int) :: fr else fr)) : FreeOk (x.kill id) fr' := by
  have hlen := hx.len
  have hlt := IX.live_lt hlen hi
  have h1 := hx.pos hi
  have hb : ∀ j, (x.kill id).freeB j = if j = id then decide (x.gen id + 1 ≤ x.most) else x.freeB j := fun j => by
    have hl : (x.kill id).live j = if j = id then false else x.live j := getD_set (by omega) _ _ _
    have hg : (x.kill id).gen j = if j = id then x.gen id + 1 else x.gen j := getD_set (by omega) _ _ _
    unfold IX.freeB
    rw [hl, hg]
    by_cases e : j = id
    · subst e; simp [IX.kill, h1, hlt]
    · simp [e, IX.kill]
  have hidn : (id : Int) ∉ fr := fun hm => by
    obtain ⟨j, hj, hf⟩ := (h.mem _).1 hm
    obtain rfl : id = j := by omega
    unfold IX.freeB at hf
    rw [hi] at hf
    simp at hf
  by_cases hg : x.gen id + 1 ≤ x.most
  · rw [if_pos hg] at hp
    refine ⟨hh, hp.symm.nodup (List.nodup_cons.2 ⟨hidn, h.nd⟩), fun y => ?_⟩
    rw [hp.mem_iff, List.mem_cons, h.mem]
    constructor
    · rintro (rfl | ⟨j, rfl, hj⟩)
      · exact ⟨id, rfl, by rw [hb, if_pos rfl]; simpa using hg⟩
      · refine ⟨j, rfl, ?_⟩
        rw [hb]
        split
        · simpa using hg
        · exact hj
    · rintro ⟨j, rfl, hj⟩
      rw [hb] at hj
      split at hj
      · rename_i e; subst e; exact .inl rfl
      · exact .inr ⟨j, rfl, hj⟩
  · rw [if_neg hg] at hp
    refine ⟨hh, hp.symm.nodup h.nd, fun y => ?_⟩
    rw [hp.mem_iff, h.mem]
    constructor
    · rintro ⟨j, rfl, hj⟩
      refine ⟨j, rfl, ?_⟩
      rw [hb, if_neg]
      · exact hj
      · rintro rfl
        exact hidn ((h.mem _).2 ⟨j, rfl, hj⟩)
    · rintro ⟨j, rfl, hj⟩
      rw [hb] at hj
      split at hj
      · simp at hj; omega
      · exact ⟨j, rfl, hj⟩
end Go.Proofs.YthmpknlgkflhiabGreat
