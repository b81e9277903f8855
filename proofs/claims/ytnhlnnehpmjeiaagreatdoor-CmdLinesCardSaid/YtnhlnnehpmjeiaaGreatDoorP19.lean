/- Plain: rows that go, tables that come, other values; how many have a set. · Sets of parts: OnesCount32, Sig.Len, sig.Of, sig.Parts. Printed by mkU5.py. -/
import Derived.Test.YtnhlnnehpmjeiaaGreatDoorP18
import Derived.Test.YtnhlnnehpmjeiaaGreatDoorP13
import Derived.Test.YtnhlnnehpmjeiaaGreatDoorP9
import Derived.Lib.BitFns
namespace Go.Proofs.YtnhlnnehpmjeiaaGreatDoor
set_option linter.unusedVariables false
theorem nodup_len {l m : List Int} (hl : l.Nodup) (hm : m.Nodup) (h : ∀ x, x ∈ l ↔ x ∈ m) : l.length = m.length := by
  induction l generalizing m with
  | nil =>
    cases m with
    | nil => rfl
    | cons y r => exact absurd ((h y).2 (List.mem_cons_self)) (by simp)
  | cons x r ih =>
    have hx : x ∈ m := (h x).1 List.mem_cons_self
    have hp := List.perm_cons_erase hx
    rw [hp.length_eq, List.length_cons, List.length_cons]
    congr 1
    have hnd := List.nodup_cons.1 hl
    refine ih hnd.2 (hm.erase x) fun y => ?_
    rw [hm.mem_erase_iff]
    constructor
    · intro hy
      exact ⟨fun e => hnd.1 (e ▸ hy), (h y).1 (List.mem_cons_of_mem _ hy)⟩
    · rintro ⟨h1, h2⟩
      rcases List.mem_cons.1 ((h y).2 h2) with e | h3
      · exact absurd e h1
      · exact h3
theorem nd_inj {α : Type} {l : List α} (h : l.Nodup) {i j : Nat} {x : α} (hi : l[i]? = some x) (hj : l[j]? = some x) : i = j := by
  obtain ⟨li, ei⟩ := List.getElem?_eq_some_iff.1 hi
  obtain ⟨lj, ej⟩ := List.getElem?_eq_some_iff.1 hj
  have hp := List.pairwise_iff_getElem.1 h
  rcases Nat.lt_trichotomy i j with hij | hij | hij
  · exact absurd (ei.trans ej.symm) (hp i j li lj hij)
  · exact hij
  · exact absurd (ej.trans ei.symm) (hp j i lj li hij)
theorem PS.Ok.ents_nodup {P : PS} {L : List Int} (h : P.Ok L) {i : Nat} {t : PT} (ht : P.tabs[i]? = some t) : t.ents.Nodup := by
  refine List.pairwise_iff_getElem.2 fun a b la lb hab he => ?_
  have h2 := (h.row _ i a).2 ⟨t, ht, List.getElem?_eq_getElem la⟩
  have h3 := (h.row _ i b).2 ⟨t, ht, List.getElem?_eq_getElem lb⟩
  rw [he, h3] at h2
  cases h2
  omega
/-- Who has a set: as many as its table holds. -/
def hasSet (P : PS) (s : Int) (e : Int) : Bool := match P.who e with | some x => decide (x.set = s) | none => false
theorem PS.Ok.set_inj {P : PS} {L : List Int} (h : P.Ok L) {i j : Nat} {t u : PT} (ht : P.tabs[i]? = some t) (hu : P.tabs[j]? = some u) (hs : t.set = u.set) : i = j := by
  refine nd_inj h.sets (x := t.set) ?_ ?_
  · rw [List.getElem?_map, ht]; rfl
  · rw [List.getElem?_map, hu, hs]; rfl
theorem PS.Ok.hasSet_iff {P : PS} {L : List Int} (h : P.Ok L) {i : Nat} {t : PT} (ht : P.tabs[i]? = some t) (e : Int) : hasSet P t.set e = true ↔ ∃ r, P.pl e = some ⟨i, r⟩ := by
  unfold hasSet
  cases hq : P.pl e with
  | none => rw [who_none hq]; simp
  | some p =>
    obtain ⟨j, r⟩ := p
    obtain ⟨u, hu⟩ : ∃ u : PT, P.tabs[j]? = some u := ⟨_, List.getElem?_eq_getElem (h.tab e _ hq)⟩
    have hset : (decide (u.set = t.set) = true) ↔ j = i := by
      rw [decide_eq_true_iff]
      constructor
      · intro hs; exact h.set_inj hu ht hs
      · intro e; subst e; rw [ht] at hu; cases hu; rfl
    cases r with
    | none => rw [who_kept hq hu]; simp only [hset]; simp
    | some r => rw [who_row hq hu]; simp only [hset]; simp
theorem countP_add {l : List Int} {p q r : Int → Bool} (h : ∀ e ∈ l, p e = (q e || r e) ∧ (q e && r e) = false) : l.countP p = l.countP q + l.countP r := by
  induction l with
  | nil => rfl
  | cons x m ih =>
    obtain ⟨h1, h2⟩ := h x List.mem_cons_self
    have := ih fun e he => h e (List.mem_cons_of_mem _ he)
    rw [List.countP_cons, List.countP_cons, List.countP_cons, this, h1]
    cases hq : q x <;> cases hr : r x <;> simp [hq, hr] at h2 ⊢ <;> omega
theorem PS.Ok.count {P : PS} {L : List Int} (h : P.Ok L) {i : Nat} {t : PT} (ht : P.tabs[i]? = some t) : L.countP (hasSet P t.set) = t.ents.length + t.kept := by
  rw [h.kept i t ht]
  have h1 : L.countP (fun e => (P.pl e).any fun p => decide (p.tab = i) && p.row.isSome) = t.ents.length := by
    rw [List.countP_eq_length_filter]
    refine nodup_len (h.nd.filter _) (h.ents_nodup ht) fun x => ?_
    rw [List.mem_filter]
    constructor
    · rintro ⟨hx, hp⟩
      cases hq : P.pl x with
      | none => rw [hq] at hp; simp at hp
      | some p =>
        obtain ⟨j, r⟩ := p
        rw [hq] at hp
        simp at hp
        obtain ⟨rfl, hr⟩ := hp
        obtain ⟨r, rfl⟩ := Option.isSome_iff_exists.1 hr
        obtain ⟨u, hu, hr⟩ := (h.row x j r).1 hq
        rw [ht] at hu; cases hu
        exact List.mem_of_getElem? hr
    · intro hx
      obtain ⟨r, hr⟩ := List.getElem?_of_mem hx
      have := (h.row x i r).2 ⟨t, ht, hr⟩
      exact ⟨h.isIn this, by rw [this]; simp⟩
  rw [← h1]
  refine countP_add fun e he => ?_
  have hi := h.hasSet_iff ht e
  cases hq : P.pl e with
  | none =>
    have : hasSet P t.set e = false := by
      cases hb : hasSet P t.set e with
      | false => rfl
      | true => obtain ⟨r, hr⟩ := hi.1 hb; rw [hq] at hr; cases hr
    rw [this]; simp
  | some p =>
    obtain ⟨j, r⟩ := p
    have : hasSet P t.set e = decide (j = i) := by
      by_cases hj : j = i
      · subst hj; simp only [decide_true]; exact hi.2 ⟨r, hq⟩
      · cases hb : hasSet P t.set e with
        | false => simp [hj]
        | true => obtain ⟨r, hr⟩ := hi.1 hb; rw [hq] at hr; cases hr; exact absurd rfl hj
    rw [this]
    cases r <;> by_cases hj : j = i <;> simp [hj]
/-- A row goes; the last one takes its place. -/
def PS.drop (P : PS) (i : Nat) (t : PT) (e : Int) (r m : Nat) (x : Int) (v : List (List WI)) : PS :=
  ⟨P.tabs.set i { t with ents := (t.ents.set r x).take m, vals := (t.vals.set r v).take m }, if r = m then updP P.pl e none else updP (updP P.pl e none) x (some ⟨i, some r⟩)⟩
/-- Who is awaited is so no longer. -/
def PS.yield (P : PS) (i : Nat) (t : PT) (e : Int) : PS := ⟨P.tabs.set i { t with kept := t.kept - 1 }, updP P.pl e none⟩
theorem PS.Ok.yield {P : PS} {L L' : List Int} (h : P.Ok L) {i : Nat} {t : PT} (ht : P.tabs[i]? = some t) {e : Int} (hp : P.pl e = some ⟨i, none⟩) (hL : L.Perm (e :: L')) : (P.yield i t e).Ok L' ∧ t.kept ≠ 0 := by
  have hnd := List.nodup_cons.1 (hL.nodup h.nd)
  have hmem : ∀ x, x ∈ L' ↔ x ∈ L ∧ x ≠ e := fun x => by
    rw [hL.mem_iff, List.mem_cons]
    constructor
    · intro hx; exact ⟨.inr hx, fun e' => hnd.1 (e' ▸ hx)⟩
    · rintro ⟨h1 | h1, h2⟩
      · exact absurd h1 h2
      · exact h1
  have hcnt : ∀ j, L.countP (fun x => decide (P.pl x = some ⟨j, none⟩)) = L'.countP (fun x => decide (P.pl x = some ⟨j, none⟩)) + if i = j then 1 else 0 := fun j => by
    rw [countP_perm hL, List.countP_cons, hp]; simp
  have hrow : ∀ (j r : Nat) (x : Int), (∃ u : PT, (P.yield i t e).tabs[j]? = some u ∧ u.ents[r]? = some x) ↔ ∃ u : PT, P.tabs[j]? = some u ∧ u.ents[r]? = some x := by
    intro j r x
    constructor
    · rintro ⟨u, hu, hr⟩
      rcases set_some hu with ⟨rfl, rfl, _⟩ | ⟨hj, hu⟩
      · exact ⟨t, ht, hr⟩
      · exact ⟨u, hu, hr⟩
    · rintro ⟨u, hu, hr⟩
      by_cases hj : j = i
      · subst hj
        rw [ht] at hu; cases hu
        exact ⟨_, set_same ht, hr⟩
      · exact ⟨u, (set_other hj).trans hu, hr⟩
  refine ⟨⟨hnd.2, fun x => ?_, fun x j r => ?_, fun x p hp => ?_, fun j u hu => ?_, fun u hu => ?_, ?_⟩, ?_⟩
  · rw [hmem, ← h.dom x]
    by_cases hx : x = e
    · subst hx; simp [PS.yield, updP_same]
    · simp [PS.yield, updP_ne hx, hx]
  · rw [hrow, ← h.row x j r]
    by_cases hx : x = e
    · subst hx
      simp [PS.yield, updP_same, hp]
    · simp only [PS.yield, updP_ne hx]
  · by_cases hx : x = e
    · subst hx
      simp [PS.yield, updP_same] at hp
    · simp only [PS.yield, updP_ne hx] at hp
      simpa [PS.yield] using h.tab x p hp
  · have hc : L'.countP (fun x => decide ((P.yield i t e).pl x = some ⟨j, none⟩)) = L'.countP (fun x => decide (P.pl x = some ⟨j, none⟩)) := by
      refine countP_same fun x hx => ?_
      have hxe : x ≠ e := ((hmem x).1 hx).2
      simp only [PS.yield, updP_ne hxe]
    rw [hc]
    have := hcnt j
    rcases set_some hu with ⟨rfl, rfl, _⟩ | ⟨hj, hu⟩
    · have k := h.kept j t ht
      rw [if_pos rfl] at this
      show t.kept - 1 = _
      omega
    · rw [if_neg (fun e => hj e.symm)] at this
      rw [h.kept j u hu]; omega
  · rcases List.mem_or_eq_of_mem_set hu with hu | rfl
    · exact h.len u hu
    · exact h.len t (List.mem_of_getElem? ht)
  · rw [show (P.yield i t e).tabs = P.tabs.set i _ from rfl, setsOf_set ht (by rfl)]
    exact h.sets
  · have k := h.kept i t ht
    have := hcnt i
    rw [if_pos rfl] at this
    omega
theorem PS.Ok.yield_who {P : PS} {L : List Int} (h : P.Ok L) {i : Nat} {t : PT} (ht : P.tabs[i]? = some t) {e : Int} (x : Int) : (P.yield i t e).who x = if x = e then none else P.who x := by
  by_cases hx : x = e
  · subst hx
    rw [if_pos rfl, who_none (by simp [PS.yield, updP_same])]
  · rw [if_neg hx]
    refine who_eq (updP_ne hx) (fun p u hq hu => ?_) (fun p hp => h.tab x p hp)
    by_cases hj : p.tab = i
    · rw [hj] at hu ⊢
      rw [ht] at hu; cases hu
      exact ⟨_, set_same ht, rfl, fun _ _ => rfl⟩
    · exact ⟨u, (set_other hj).trans hu, rfl, fun _ _ => rfl⟩
theorem swap_at {α : Type} {l : List α} {r m k : Nat} {x : α} (hm : l.length = m + 1) (hr : r ≤ m) : ((l.set r x).take m)[k]? = if k < m then (if k = r then some x else l[k]?) else none := by
  rw [List.getElem?_take]
  split
  · rw [List.getElem?_set]
    by_cases h : k = r
    · rw [if_pos h.symm, if_pos (by omega), if_pos h]
    · rw [if_neg (fun e => h e.symm), if_neg h]
  · rfl
theorem PS.Ok.drop {P : PS} {L L' : List Int} (h : P.Ok L) {i : Nat} {t : PT} (ht : P.tabs[i]? = some t) {e : Int} {r m : Nat} {x : Int} (v : List (List WI)) (hp : P.pl e = some ⟨i, some r⟩) (hm : t.ents.length = m + 1) (hx : t.ents[m]? = some x) (hL : L.Perm (e :: L')) : (P.drop i t e r m x v).Ok L' := by
  have hnd := List.nodup_cons.1 (hL.nodup h.nd)
  have hmem : ∀ x, x ∈ L' ↔ x ∈ L ∧ x ≠ e := fun x => by
    rw [hL.mem_iff, List.mem_cons]
    constructor
    · intro hx; exact ⟨.inr hx, fun e' => hnd.1 (e' ▸ hx)⟩
    · rintro ⟨h1 | h1, h2⟩
      · exact absurd h1 h2
      · exact h1
  have her : t.ents[r]? = some e := by
    obtain ⟨u, hu, hr⟩ := (h.row e i r).1 hp
    rw [ht] at hu; cases hu; exact hr
  have hrm : r ≤ m := by have := (List.getElem?_eq_some_iff.1 her).1; omega
  have hxp : P.pl x = some ⟨i, some m⟩ := (h.row x i m).2 ⟨t, ht, hx⟩
  have hpl : ∀ y, (P.drop i t e r m x v).pl y = if y = e then none else if y = x then some ⟨i, some r⟩ else P.pl y := by
    intro y
    show (if r = m then updP P.pl e none else updP (updP P.pl e none) x (some ⟨i, some r⟩)) y = _
    split
    · rename_i hr
      subst hr
      rw [hx] at her; cases her
      by_cases hy : y = e
      · rw [hy, updP_same, if_pos rfl]
      · rw [updP_ne hy, if_neg hy, if_neg hy]
    · rename_i hr
      have hex : x ≠ e := fun e' => by
        subst e'; rw [hp] at hxp; cases hxp; exact hr rfl
      by_cases hy : y = x
      · subst hy; rw [updP_same, if_neg hex, if_pos rfl]
      · rw [updP_ne hy]
        by_cases hy2 : y = e
        · rw [hy2, updP_same, if_pos rfl]
        · rw [updP_ne hy2, if_neg hy2, if_neg hy]
  have hde : ∀ k y, ((t.ents.set r x).take m)[k]? = some y ↔ k < m ∧ ((k = r ∧ y = x) ∨ (k ≠ r ∧ t.ents[k]? = some y)) := by
    intro k y
    rw [swap_at hm hrm]
    split
    · split
      · rename_i h1 h2
        constructor
        · intro hh; cases hh; exact ⟨h1, .inl ⟨h2, rfl⟩⟩
        · rintro ⟨_, ⟨_, rfl⟩ | ⟨h3, _⟩⟩
          · rfl
          · exact absurd h2 h3
      · rename_i h1 h2
        constructor
        · intro hh; exact ⟨h1, .inr ⟨h2, hh⟩⟩
        · rintro ⟨_, ⟨h3, _⟩ | ⟨_, h3⟩⟩
          · exact absurd h3 h2
          · exact h3
    · rename_i h1
      constructor
      · intro hh; cases hh
      · rintro ⟨h2, _⟩; exact absurd h2 h1
  refine ⟨hnd.2, fun y => ?_, fun y j k => ?_, fun y p hq => ?_, fun j u hu => ?_, fun u hu => ?_, ?_⟩
  · rw [hpl, hmem]
    split
    · rename_i hy; simp [hy]
    · rename_i hy
      split
      · rename_i hy2
        subst hy2
        simp [hy, h.isIn hxp]
      · rw [h.dom y]; simp [hy]
  · rw [hpl]
    constructor
    · intro hq
      split at hq
      · cases hq
      · rename_i hye
        split at hq
        · rename_i hyx
          cases hq
          refine ⟨_, set_same ht, (hde r y).2 ⟨?_, .inl ⟨rfl, hyx⟩⟩⟩
          have : r ≠ m := fun hr => by
            subst hr
            rw [hx] at her; cases her; exact hye hyx
          omega
        · rename_i hyx
          obtain ⟨u, hu, hk⟩ := (h.row y j k).1 hq
          by_cases hj : j = i
          · subst hj
            rw [ht] at hu; cases hu
            refine ⟨_, set_same ht, (hde k y).2 ⟨?_, .inr ⟨?_, hk⟩⟩⟩
            · have h1 := (List.getElem?_eq_some_iff.1 hk).1
              have : k ≠ m := fun hkm => by subst hkm; rw [hx] at hk; cases hk; exact hyx rfl
              omega
            · intro hkr; subst hkr; rw [her] at hk; cases hk; exact hye rfl
          · exact ⟨u, (set_other hj).trans hu, hk⟩
    · rintro ⟨u, hu, hk⟩
      rcases set_some hu with ⟨rfl, rfl, _⟩ | ⟨hj, hu⟩
      · obtain ⟨hkm, ⟨rfl, rfl⟩ | ⟨hkr, hk⟩⟩ := (hde k y).1 hk
        · have : y ≠ e := fun e' => by subst e'; rw [hp] at hxp; cases hxp; omega
          rw [if_neg this, if_pos rfl]
        · have hq := (h.row y j k).2 ⟨t, ht, hk⟩
          have h1 : y ≠ e := fun e' => by subst e'; rw [hp] at hq; cases hq; exact hkr rfl
          have h2 : y ≠ x := fun e' => by subst e'; rw [hxp] at hq; cases hq; omega
          rw [if_neg h1, if_neg h2, hq]
      · have hq := (h.row y j k).2 ⟨u, hu, hk⟩
        have h1 : y ≠ e := fun e' => by subst e'; rw [hp] at hq; cases hq; exact hj rfl
        have h2 : y ≠ x := fun e' => by subst e'; rw [hxp] at hq; cases hq; exact hj rfl
        rw [if_neg h1, if_neg h2, hq]
  · rw [hpl] at hq
    have hl : (P.drop i t e r m x v).tabs.length = P.tabs.length := by simp [PS.drop]
    rw [hl]
    split at hq
    · cases hq
    · split at hq
      · cases hq; exact h.tab _ _ hp
      · exact h.tab y p hq
  · have hc : L'.countP (fun y => decide ((P.drop i t e r m x v).pl y = some ⟨j, none⟩)) = L.countP (fun y => decide (P.pl y = some ⟨j, none⟩)) := by
      rw [countP_perm hL, List.countP_cons, hp]
      simp only [Option.some.injEq, Pl.mk.injEq, reduceCtorEq, and_false, decide_false, Bool.false_eq_true, if_false, Nat.add_zero]
      refine countP_same fun y hy => ?_
      have hye : y ≠ e := ((hmem y).1 hy).2
      rw [hpl, if_neg hye]
      split
      · rename_i hyx; subst hyx; rw [hxp]; simp
      · rfl
    rw [hc]
    rcases set_some hu with ⟨rfl, rfl, _⟩ | ⟨hj, hu⟩
    · exact h.kept j t ht
    · exact h.kept j u hu
  · rcases List.mem_or_eq_of_mem_set hu with hu | rfl
    · exact h.len u hu
    · have := h.len t (List.mem_of_getElem? ht)
      simp; omega
  · rw [show (P.drop i t e r m x v).tabs = P.tabs.set i _ from rfl, setsOf_set ht (by rfl)]
    exact h.sets
theorem PS.Ok.drop_who {P : PS} {L : List Int} (h : P.Ok L) {i : Nat} {t : PT} (ht : P.tabs[i]? = some t) {e : Int} {r m : Nat} {x : Int} {v : List (List WI)} (hp : P.pl e = some ⟨i, some r⟩) (hm : t.ents.length = m + 1) (hx : t.ents[m]? = some x) (hv : t.vals[m]? = some v) (y : Int) : (P.drop i t e r m x v).who y = if y = e then none else P.who y := by
  have her : t.ents[r]? = some e := by
    obtain ⟨u, hu, hr⟩ := (h.row e i r).1 hp
    rw [ht] at hu; cases hu; exact hr
  have hrm : r ≤ m := by have := (List.getElem?_eq_some_iff.1 her).1; omega
  have hxp : P.pl x = some ⟨i, some m⟩ := (h.row x i m).2 ⟨t, ht, hx⟩
  have hvl : t.vals.length = m + 1 := by rw [h.len t (List.mem_of_getElem? ht), hm]
  by_cases hy : y = e
  · rw [if_pos hy]
    refine who_none ?_
    subst hy
    show (if r = m then updP P.pl y none else updP (updP P.pl y none) x (some ⟨i, some r⟩)) y = none
    split
    · exact updP_same _ _ _
    · rename_i hr
      have hex : y ≠ x := fun e' => by subst e'; rw [hp] at hxp; cases hxp; exact hr rfl
      rw [updP_ne hex, updP_same]
  · rw [if_neg hy]
    by_cases hyx : y = x
    · subst hyx
      have hr : r ≠ m := fun hr => by subst hr; rw [hx] at her; cases her; exact hy rfl
      have hq : (P.drop i t e r m y v).pl y = some ⟨i, some r⟩ := by
        show (if r = m then updP P.pl e none else updP (updP P.pl e none) y (some ⟨i, some r⟩)) y = _
        rw [if_neg hr, updP_same]
      rw [who_row hq (set_same ht), who_row hxp ht]
      simp only [List.getD_eq_getElem?_getD]
      rw [swap_at hvl hrm, if_pos (by omega), if_pos rfl, hv]
    · have hq : (P.drop i t e r m x v).pl y = P.pl y := by
        show (if r = m then updP P.pl e none else updP (updP P.pl e none) x (some ⟨i, some r⟩)) y = _
        split
        · exact updP_ne hy
        · rw [updP_ne hyx, updP_ne hy]
      refine who_eq hq (fun p u hq hu => ?_) (fun p hp => h.tab y p hp)
      by_cases hj : p.tab = i
      · rw [hj] at hu ⊢
        rw [ht] at hu; cases hu
        refine ⟨_, set_same ht, rfl, fun k hk => ?_⟩
        obtain ⟨j, row⟩ := p
        simp only at hj hk
        subst hj; subst hk
        obtain ⟨u, hu, hk⟩ := (h.row y j k).1 hq
        rw [ht] at hu; cases hu
        have h1 := (List.getElem?_eq_some_iff.1 hk).1
        have h2 : k ≠ m := fun e' => by subst e'; rw [hx] at hk; cases hk; exact hyx rfl
        have h3 : k ≠ r := fun e' => by subst e'; rw [her] at hk; cases hk; exact hy rfl
        simp only [List.getD_eq_getElem?_getD]
        rw [swap_at hvl hrm, if_pos (by omega), if_neg h3]
      · exact ⟨u, (set_other hj).trans hu, rfl, fun _ _ => rfl⟩
/-- A table more. -/
def PS.snoc (P : PS) (s : Int) : PS := ⟨P.tabs ++ [⟨s, [], 0, []⟩], P.pl⟩
theorem snoc_some {l : List PT} {n u : PT} {j : Nat} (h : (l ++ [n])[j]? = some u) : l[j]? = some u ∨ (j = l.length ∧ u = n) := by
  rw [List.getElem?_append] at h
  split at h
  · exact .inl h
  · rw [List.getElem?_cons] at h
    split at h
    · cases h; exact .inr ⟨by omega, rfl⟩
    · simp at h
theorem PS.Ok.snoc {P : PS} {L : List Int} (h : P.Ok L) {s : Int} (hs : s ∉ P.tabs.map (·.set)) : (P.snoc s).Ok L := by
  refine ⟨h.nd, h.dom, fun x j r => ?_, fun x p hp => ?_, fun j u hu => ?_, fun u hu => ?_, ?_⟩
  · rw [show (P.snoc s).pl = P.pl from rfl, h.row x j r]
    constructor
    · rintro ⟨u, hu, hr⟩
      exact ⟨u, by rw [show (P.snoc s).tabs = P.tabs ++ _ from rfl, List.getElem?_append_left (List.getElem?_eq_some_iff.1 hu).1]; exact hu, hr⟩
    · rintro ⟨u, hu, hr⟩
      rcases snoc_some hu with hu | ⟨_, rfl⟩
      · exact ⟨u, hu, hr⟩
      · simp at hr
  · have := h.tab x p hp
    simp [PS.snoc]; omega
  · rcases snoc_some hu with hu | ⟨rfl, rfl⟩
    · exact h.kept j u hu
    · symm
      rw [List.countP_eq_zero]
      intro e he
      simp only [PS.snoc]
      intro hd
      have := h.tab e _ (of_decide_eq_true hd)
      simp at this
  · rcases List.mem_append.1 hu with hu | hu
    · exact h.len u hu
    · simp at hu; subst hu; rfl
  · rw [show (P.snoc s).tabs.map (·.set) = P.tabs.map (·.set) ++ [s] by simp [PS.snoc], List.nodup_append]
    refine ⟨h.sets, by simp, ?_⟩
    intro a ha b hb e
    simp at hb
    subst hb; subst e
    exact hs ha
theorem PS.Ok.snoc_who {P : PS} {L : List Int} (h : P.Ok L) (s : Int) (x : Int) : (P.snoc s).who x = P.who x :=
  who_eq rfl (fun p u hq hu => ⟨u, by rw [show (P.snoc s).tabs = P.tabs ++ _ from rfl, List.getElem?_append_left (List.getElem?_eq_some_iff.1 hu).1]; exact hu, rfl, fun _ _ => rfl⟩) (fun p hp => h.tab x p hp)
/-- Another row of values. -/
def PS.put (P : PS) (i : Nat) (t : PT) (k : Nat) (v : List (List WI)) : PS := ⟨P.tabs.set i { t with vals := t.vals.set k v }, P.pl⟩
theorem PS.Ok.put {P : PS} {L : List Int} (h : P.Ok L) {i : Nat} {t : PT} (ht : P.tabs[i]? = some t) (k : Nat) (v : List (List WI)) : (P.put i t k v).Ok L := by
  refine ⟨h.nd, h.dom, fun x j r => ?_, fun x p hp => ?_, fun j u hu => ?_, fun u hu => ?_, ?_⟩
  · rw [show (P.put i t k v).pl = P.pl from rfl, h.row x j r]
    constructor
    · rintro ⟨u, hu, hr⟩
      by_cases hj : j = i
      · subst hj
        rw [ht] at hu; cases hu
        exact ⟨_, set_same ht, hr⟩
      · exact ⟨u, (set_other hj).trans hu, hr⟩
    · rintro ⟨u, hu, hr⟩
      rcases set_some hu with ⟨rfl, rfl, _⟩ | ⟨hj, hu⟩
      · exact ⟨t, ht, hr⟩
      · exact ⟨u, hu, hr⟩
  · simpa [PS.put] using h.tab x p hp
  · rcases set_some hu with ⟨rfl, rfl, _⟩ | ⟨hj, hu⟩
    · exact h.kept j t ht
    · exact h.kept j u hu
  · rcases List.mem_or_eq_of_mem_set hu with hu | rfl
    · exact h.len u hu
    · have := h.len t (List.mem_of_getElem? ht)
      simpa using this
  · rw [show (P.put i t k v).tabs = P.tabs.set i _ from rfl, setsOf_set ht (by rfl)]
    exact h.sets
end Go.Proofs.YtnhlnnehpmjeiaaGreatDoor
namespace Go.Proofs.YtnhlnnehpmjeiaaGreatDoor
open Go.RowKit
set_option linter.unusedVariables false
/-! ### Bits, counted -/
def bcount (x n : Nat) : Nat := (List.range n).countP fun j => x.testBit j
theorem range_split (m n : Nat) : List.range (m + n) = List.range m ++ (List.range n).map (m + ·) := by
  induction n with
  | zero => simp
  | succ n ih => rw [← Nat.add_assoc, List.range_succ, ih, List.range_succ, List.map_append, List.append_assoc]; rfl
theorem bcount_add (x m n : Nat) : bcount x (m + n) = bcount x m + bcount (x / 2 ^ m) n := by
  unfold bcount
  rw [range_split, List.countP_append, List.countP_map]
  congr 1
  refine List.countP_congr (fun j _ => ?_)
  simp only [Function.comp]
  rw [Nat.testBit_div_two_pow, Nat.add_comm]
theorem bcount_mod (x m : Nat) : bcount (x % 2 ^ m) m = bcount x m := by
  unfold bcount
  refine List.countP_congr (fun j hj => ?_)
  rw [Nat.testBit_mod_two_pow]
  simp [List.mem_range.1 hj]
theorem pop_bits : ∀ (f x : Nat), Lib.popAux f x = bcount x f
  | 0, _ => rfl
  | f + 1, x => by
    rw [Lib.popAux, pop_bits f (x / 2), Nat.add_comm f 1, bcount_add x 1 f, Nat.pow_one]
    congr 1
    unfold bcount
    simp [Nat.testBit_zero]
    rcases Nat.mod_two_eq_zero_or_one x with h | h <;> simp [h]
theorem bcount_small {x : Nat} (h : x < 256) : Lib.onesCount x = bcount x 8 := by
  unfold Lib.onesCount
  rw [pop_bits, show 64 = 8 + 56 from rfl, bcount_add, show x / 2 ^ 8 = 0 from Nat.div_eq_of_lt (by simpa using h)]
  simp [bcount]
theorem bcount32 (x : Nat) : bcount x 32 = Lib.onesCount (x / 16777216 % 256) + Lib.onesCount (x / 65536 % 256) + Lib.onesCount (x / 256 % 256) + Lib.onesCount (x % 256) := by
  rw [bcount_small (Nat.mod_lt _ (by decide)), bcount_small (Nat.mod_lt _ (by decide)), bcount_small (Nat.mod_lt _ (by decide)), bcount_small (Nat.mod_lt _ (by decide))]
  rw [show (256 : Nat) = 2 ^ 8 from rfl, bcount_mod, bcount_mod, bcount_mod, bcount_mod]
  rw [show 32 = 8 + (8 + (8 + 8)) from rfl, bcount_add, bcount_add, bcount_add, Nat.div_div_eq_div_mul, Nat.div_div_eq_div_mul]
  simp
  omega
theorem pop8_nat {b : Nat} (h : b < 256) : Lib.pop8 (b : Int) = (Lib.onesCount b : Int) := Lib.pop8_eq ⟨b, h⟩
theorem ones_le {b : Nat} (h : b < 256) : Lib.onesCount b ≤ 8 := Lib.onesCount_le8 ⟨b, h⟩
theorem andByte (x : Nat) (h : x < 4294967296) : bits BinOp.and .u32 (x : Int) 255 = ((x % 256 : Nat) : Int) := by
  have := u32_and_nat x 255 h (by decide)
  rw [show ((255 : Nat) : Int) = 255 from rfl] at this
  rw [this, show (255 : Nat) = 2 ^ 8 - 1 from rfl, Nat.and_two_pow_sub_one_eq_mod]
def ones_list (x a b b' c c' d' k1 k2 k3 k4 : Nat) : List (Value → World → Prop) :=
  [IsV (.int .u32 (x : Int)),
   IsV (.int .u32 (a : Int)),
   IsV (.int .u8 (k1 : Int)),
   IsV (.int .u32 (x : Int)),
   IsV (.int .u32 (b : Int)),
   IsV (.int .u32 (b' : Int)),
   IsV (.int .u8 (k2 : Int)),
   IsV (.int .u8 (((k1 : Nat) : Int) + ((k2 : Nat) : Int))),
   IsV (.int .u32 (x : Int)),
   IsV (.int .u32 (c : Int)),
   IsV (.int .u32 (c' : Int)),
   IsV (.int .u8 (k3 : Int)),
   IsV (.int .u8 (((k1 : Nat) : Int) + ((k2 : Nat) : Int) + ((k3 : Nat) : Int))),
   IsV (.int .u32 (x : Int)),
   IsV (.int .u32 (d' : Int)),
   IsV (.int .u8 (k4 : Int)),
   IsV (.int .u8 (((k1 : Nat) : Int) + ((k2 : Nat) : Int) + ((k3 : Nat) : Int) + ((k4 : Nat) : Int))),
   IsV (.int .i64 (((k1 : Nat) : Int) + ((k2 : Nat) : Int) + ((k3 : Nat) : Int) + ((k4 : Nat) : Int))),
   IsV (.int .i64 (((k1 : Nat) : Int) + ((k2 : Nat) : Int) + ((k3 : Nat) : Int) + ((k4 : Nat) : Int)))]
theorem ones_list_lasts (x a b b' c c' d' k1 k2 k3 k4 : Nat) : ∀ p ∈ ones_list x a b b' c c' d' k1 k2 k3 k4 , Lasts p := by
  simp only [ones_list, List.mem_cons, List.not_mem_nil, or_false]
  rintro p hp
  repeat (rcases hp with rfl | hp; exact lasts_v _)
set_option maxRecDepth 100000 in
set_option maxHeartbeats 1000000 in
theorem ones_any (x : Nat) (w : World) (hx : x < 4294967296) : Calls Tryz.prog 190 #[.int .u32 (x : Int)] w fun e w' => e = .returned (.int .i64 (bcount x 32 : Int)) ∧ Below w.heap.size w w' := by
  obtain ⟨a, ha⟩ : ∃ a, x / 16777216 = a := ⟨_, rfl⟩
  obtain ⟨b, hb⟩ : ∃ b, x / 65536 = b := ⟨_, rfl⟩
  obtain ⟨c, hc⟩ : ∃ c, x / 256 = c := ⟨_, rfl⟩
  have q1 : (x : Int) / 16777216 = (a : Int) := by omega
  have q2 : (x : Int) / 65536 = (b : Int) := by omega
  have q3 : (x : Int) / 256 = (c : Int) := by omega
  have m1 := andByte b (by omega)
  have m2 := andByte c (by omega)
  have m3 := andByte x hx
  obtain ⟨b', hb'⟩ : ∃ b', b % 256 = b' := ⟨_, rfl⟩
  obtain ⟨c', hc'⟩ : ∃ c', c % 256 = c' := ⟨_, rfl⟩
  obtain ⟨d', hd'⟩ : ∃ d', x % 256 = d' := ⟨_, rfl⟩
  rw [hb'] at m1; rw [hc'] at m2; rw [hd'] at m3
  have pa := pop8_nat (show a < 256 by omega)
  have pb := pop8_nat (show b' < 256 by omega)
  have pc := pop8_nat (show c' < 256 by omega)
  have pd := pop8_nat (show d' < 256 by omega)
  have la := ones_le (show a < 256 by omega)
  have lb := ones_le (show b' < 256 by omega)
  have lc := ones_le (show c' < 256 by omega)
  have ld := ones_le (show d' < 256 by omega)
  have hr : bcount x 32 = Lib.onesCount a + Lib.onesCount b' + Lib.onesCount c' + Lib.onesCount d' := by rw [bcount32, hb, hc, hb', hc', hd', Nat.mod_eq_of_lt (show x / 16777216 < 256 by omega), ha]
  have r1 : (a : Int) ≤ 255 := by omega
  have r2 : (b' : Int) ≤ 255 := by omega
  have r3 : (c' : Int) ≤ 255 := by omega
  have r4 : (d' : Int) ≤ 255 := by omega
  have z1 : (0 : Int) ≤ (a : Int) := by omega
  have z2 : (0 : Int) ≤ (b' : Int) := by omega
  have z3 : (0 : Int) ≤ (c' : Int) := by omega
  have z4 : (0 : Int) ≤ (d' : Int) := by omega
  generalize Lib.onesCount a = k1 at *
  generalize Lib.onesCount b' = k2 at *
  generalize Lib.onesCount c' = k3 at *
  generalize Lib.onesCount d' = k4 at *
  have s1 : IntKind.u8.wrap ((k1 : Int) + (k2 : Int)) = (k1 : Int) + (k2 : Int) := by rw [IntKind.wrap_u8']; omega
  have s2 : IntKind.u8.wrap ((k1 : Int) + (k2 : Int) + (k3 : Int)) = (k1 : Int) + (k2 : Int) + (k3 : Int) := by rw [IntKind.wrap_u8']; omega
  have s3 : IntKind.u8.wrap ((k1 : Int) + (k2 : Int) + (k3 : Int) + (k4 : Int)) = (k1 : Int) + (k2 : Int) + (k3 : Int) + (k4 : Int) := by rw [IntKind.wrap_u8']; omega
  have s4 : IntKind.i64.wrap ((k1 : Int) + (k2 : Int) + (k3 : Int) + (k4 : Int)) = (k1 : Int) + (k2 : Int) + (k3 : Int) + (k4 : Int) := IntWalk.i64_in _ (by omega)
  have HR := Lib.hid (show (k1 : Int) + (k2 : Int) + (k3 : Int) + (k4 : Int) = (bcount x 32 : Int) by omega)
  clear hr ha hb hc hb' hc' hd' la lb lc ld hx
  go_enter Tryz.func190, Tryz.ntmps190
  go_wp2_with fail
  refine wp_region_frame (by kernel_rfl) (by kernel_rfl) (by kernel_rfl) (byList (ones_list x a b b' c c' d' k1 k2 k3 k4)) (lasts_list (ones_list_lasts x a b b' c c' d' k1 k2 k3 k4)) ?_ ?_
  · intro vs w' iq o A F hb ho hd
    have m0 : A.tmps[0]?.getD undef = (.int .u32 (x : Int)) := F.m (by kernel_rfl) rfl
    have G := F.light (n := 21) (by kernel_rfl)
    clear F
    revert ho hd
    match iq with
    | 0 =>
      intro ho hd
      obtain rfl := (Option.some.inj ho).symm
      clear hd ho
      refine step_open rfl ?_
      clear G
      exact step_run (v := (.int .u32 (x : Int))) (by go_simp) rfl
    | 1 =>
      intro ho hd
      obtain rfl := (Option.some.inj ho).symm
      have d0 : vs 0 = (.int .u32 (x : Int)) := hd ⟨0, .data⟩ (by simp) rfl
      clear hd ho
      have h3 := G.h (j := 0) (d := 3) rfl (by decide) d0
      refine step_open rfl ?_
      clear G
      exact step_run (v := (.int .u32 (a : Int))) (by go_simp) rfl
    | 2 =>
      intro ho hd
      obtain rfl := (Option.some.inj ho).symm
      have d1 : vs 1 = (.int .u32 (a : Int)) := hd ⟨1, .data⟩ (by simp) rfl
      clear hd ho
      have h4 := G.h (j := 1) (d := 4) rfl (by decide) d1
      refine step_open rfl ?_
      clear G
      exact step_run (v := (.int .u8 (k1 : Int))) (by go_simp) rfl
    | 3 =>
      intro ho hd
      obtain rfl := (Option.some.inj ho).symm
      clear hd ho
      refine step_open rfl ?_
      clear G
      exact step_run (v := (.int .u32 (x : Int))) (by go_simp) rfl
    | 4 =>
      intro ho hd
      obtain rfl := (Option.some.inj ho).symm
      have d3 : vs 3 = (.int .u32 (x : Int)) := hd ⟨3, .data⟩ (by simp) rfl
      clear hd ho
      have h6 := G.h (j := 3) (d := 6) rfl (by decide) d3
      refine step_open rfl ?_
      clear G
      exact step_run (v := (.int .u32 (b : Int))) (by go_simp) rfl
    | 5 =>
      intro ho hd
      obtain rfl := (Option.some.inj ho).symm
      have d4 : vs 4 = (.int .u32 (b : Int)) := hd ⟨4, .data⟩ (by simp) rfl
      clear hd ho
      have h7 := G.h (j := 4) (d := 7) rfl (by decide) d4
      refine step_open rfl ?_
      clear G
      exact step_run (v := (.int .u32 (b' : Int))) (by go_simp) rfl
    | 6 =>
      intro ho hd
      obtain rfl := (Option.some.inj ho).symm
      have d5 : vs 5 = (.int .u32 (b' : Int)) := hd ⟨5, .data⟩ (by simp) rfl
      clear hd ho
      have h8 := G.h (j := 5) (d := 8) rfl (by decide) d5
      refine step_open rfl ?_
      clear G
      exact step_run (v := (.int .u8 (k2 : Int))) (by go_simp) rfl
    | 7 =>
      intro ho hd
      obtain rfl := (Option.some.inj ho).symm
      have d2 : vs 2 = (.int .u8 (k1 : Int)) := hd ⟨2, .data⟩ (by simp) rfl
      have d6 : vs 6 = (.int .u8 (k2 : Int)) := hd ⟨6, .data⟩ (by simp) rfl
      clear hd ho
      have h5 := G.h (j := 2) (d := 5) rfl (by decide) d2
      have h9 := G.h (j := 6) (d := 9) rfl (by decide) d6
      refine step_open rfl ?_
      clear G
      exact step_run (v := (.int .u8 (((k1 : Nat) : Int) + ((k2 : Nat) : Int)))) (by go_simp) rfl
    | 8 =>
      intro ho hd
      obtain rfl := (Option.some.inj ho).symm
      clear hd ho
      refine step_open rfl ?_
      clear G
      exact step_run (v := (.int .u32 (x : Int))) (by go_simp) rfl
    | 9 =>
      intro ho hd
      obtain rfl := (Option.some.inj ho).symm
      have d8 : vs 8 = (.int .u32 (x : Int)) := hd ⟨8, .data⟩ (by simp) rfl
      clear hd ho
      have h11 := G.h (j := 8) (d := 11) rfl (by decide) d8
      refine step_open rfl ?_
      clear G
      exact step_run (v := (.int .u32 (c : Int))) (by go_simp) rfl
    | 10 =>
      intro ho hd
      obtain rfl := (Option.some.inj ho).symm
      have d9 : vs 9 = (.int .u32 (c : Int)) := hd ⟨9, .data⟩ (by simp) rfl
      clear hd ho
      have h12 := G.h (j := 9) (d := 12) rfl (by decide) d9
      refine step_open rfl ?_
      clear G
      exact step_run (v := (.int .u32 (c' : Int))) (by go_simp) rfl
    | 11 =>
      intro ho hd
      obtain rfl := (Option.some.inj ho).symm
      have d10 : vs 10 = (.int .u32 (c' : Int)) := hd ⟨10, .data⟩ (by simp) rfl
      clear hd ho
      have h13 := G.h (j := 10) (d := 13) rfl (by decide) d10
      refine step_open rfl ?_
      clear G
      exact step_run (v := (.int .u8 (k3 : Int))) (by go_simp) rfl
    | 12 =>
      intro ho hd
      obtain rfl := (Option.some.inj ho).symm
      have d7 : vs 7 = (.int .u8 (((k1 : Nat) : Int) + ((k2 : Nat) : Int))) := hd ⟨7, .data⟩ (by simp) rfl
      have d11 : vs 11 = (.int .u8 (k3 : Int)) := hd ⟨11, .data⟩ (by simp) rfl
      clear hd ho
      have h10 := G.h (j := 7) (d := 10) rfl (by decide) d7
      have h14 := G.h (j := 11) (d := 14) rfl (by decide) d11
      refine step_open rfl ?_
      clear G
      exact step_run (v := (.int .u8 (((k1 : Nat) : Int) + ((k2 : Nat) : Int) + ((k3 : Nat) : Int)))) (by go_simp) rfl
    | 13 =>
      intro ho hd
      obtain rfl := (Option.some.inj ho).symm
      clear hd ho
      refine step_open rfl ?_
      clear G
      exact step_run (v := (.int .u32 (x : Int))) (by go_simp) rfl
    | 14 =>
      intro ho hd
      obtain rfl := (Option.some.inj ho).symm
      have d13 : vs 13 = (.int .u32 (x : Int)) := hd ⟨13, .data⟩ (by simp) rfl
      clear hd ho
      have h16 := G.h (j := 13) (d := 16) rfl (by decide) d13
      refine step_open rfl ?_
      clear G
      exact step_run (v := (.int .u32 (d' : Int))) (by go_simp) rfl
    | 15 =>
      intro ho hd
      obtain rfl := (Option.some.inj ho).symm
      have d14 : vs 14 = (.int .u32 (d' : Int)) := hd ⟨14, .data⟩ (by simp) rfl
      clear hd ho
      have h17 := G.h (j := 14) (d := 17) rfl (by decide) d14
      refine step_open rfl ?_
      clear G
      exact step_run (v := (.int .u8 (k4 : Int))) (by go_simp) rfl
    | 16 =>
      intro ho hd
      obtain rfl := (Option.some.inj ho).symm
      have d12 : vs 12 = (.int .u8 (((k1 : Nat) : Int) + ((k2 : Nat) : Int) + ((k3 : Nat) : Int))) := hd ⟨12, .data⟩ (by simp) rfl
      have d15 : vs 15 = (.int .u8 (k4 : Int)) := hd ⟨15, .data⟩ (by simp) rfl
      clear hd ho
      have h15 := G.h (j := 12) (d := 15) rfl (by decide) d12
      have h18 := G.h (j := 15) (d := 18) rfl (by decide) d15
      refine step_open rfl ?_
      clear G
      exact step_run (v := (.int .u8 (((k1 : Nat) : Int) + ((k2 : Nat) : Int) + ((k3 : Nat) : Int) + ((k4 : Nat) : Int)))) (by go_simp) rfl
    | 17 =>
      intro ho hd
      obtain rfl := (Option.some.inj ho).symm
      have d16 : vs 16 = (.int .u8 (((k1 : Nat) : Int) + ((k2 : Nat) : Int) + ((k3 : Nat) : Int) + ((k4 : Nat) : Int))) := hd ⟨16, .data⟩ (by simp) rfl
      clear hd ho
      have h19 := G.h (j := 16) (d := 19) rfl (by decide) d16
      refine step_open rfl ?_
      clear G
      exact step_run (v := (.int .i64 (((k1 : Nat) : Int) + ((k2 : Nat) : Int) + ((k3 : Nat) : Int) + ((k4 : Nat) : Int)))) (by go_simp) rfl
    | 18 =>
      intro ho hd
      obtain rfl := (Option.some.inj ho).symm
      have d17 : vs 17 = (.int .i64 (((k1 : Nat) : Int) + ((k2 : Nat) : Int) + ((k3 : Nat) : Int) + ((k4 : Nat) : Int))) := hd ⟨17, .data⟩ (by simp) rfl
      clear hd ho
      have h20 := G.h (j := 17) (d := 20) rfl (by decide) d17
      refine step_open rfl ?_
      clear G
      exact step_run (v := (.int .i64 (((k1 : Nat) : Int) + ((k2 : Nat) : Int) + ((k3 : Nat) : Int) + ((k4 : Nat) : Int)))) (by go_simp) rfl
    | n + 19 =>
      intro ho hd
      simp at ho
  · intro vs w' hb hR
    have hv : vs 18 = (.int .i64 ((k1 : Int) + (k2 : Int) + (k3 : Int) + (k4 : Int))) := hR 18 (by simp)
    have HB2 := Lib.hid hb
    simp only [putAll, Act.put, List.setIfInBounds_toArray, List.set_cons_succ, List.set_cons_zero]
    rw [hv]
    clear hR hb hv
    go_wp2_with fail
    go_ret
    exact ⟨ret_intk HR.out, HB2.out⟩
end Go.Proofs.YtnhlnnehpmjeiaaGreatDoor
