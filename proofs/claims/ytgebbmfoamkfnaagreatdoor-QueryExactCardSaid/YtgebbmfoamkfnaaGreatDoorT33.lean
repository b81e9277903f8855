/- Plain: who stands where: tables of handles, and places. · Plain: rows that go, tables that come, other values; how many have a set. -/
import Derived.Test.YtgebbmfoamkfnaaGreatDoorT3
namespace Go.Proofs.YtgebbmfoamkfnaaGreatDoor
set_option linter.unusedVariables false
structure Pl where
 tab : Nat
 row : Option Nat
 deriving DecidableEq
structure PT where
 set : Int
 ents : List Int
 kept : Nat
 vals : List (List (List WI))
structure PS where
 tabs : List PT
 pl : Int → Option Pl
def updP (f : Int → Option Pl) (e : Int) (p : Option Pl) : Int → Option Pl := fun x => if x = e then p else f x
theorem updP_same (f : Int → Option Pl) (e : Int) (p : Option Pl) : updP f e p e = p := if_pos rfl
theorem updP_ne {f : Int → Option Pl} {e x : Int} {p : Option Pl} (h : x ≠ e) : updP f e p x = f x := if_neg h
structure Who where
 set : Int
 row : Option (List (List WI))
def PS.who (P : PS) (e : Int) : Option Who :=
 match P.pl e with
 | none => none
 | some p => match P.tabs[p.tab]? with
  | none => none
  | some t => match p.row with
   | none => some ⟨t.set, none⟩
   | some r => some ⟨t.set, some (t.vals.getD r [])⟩
structure PS.Ok (P : PS) (L : List Int) : Prop where
 nd : L.Nodup
 dom : ∀ e, (P.pl e).isSome = true ↔ e ∈ L
 row : ∀ e i r, P.pl e = some ⟨i, some r⟩ ↔ ∃ t, P.tabs[i]? = some t ∧ t.ents[r]? = some e
 tab : ∀ e p, P.pl e = some p → p.tab < P.tabs.length
 kept : ∀ i t, P.tabs[i]? = some t → t.kept = L.countP (fun e => decide (P.pl e = some ⟨i, none⟩))
 len : ∀ t ∈ P.tabs, t.vals.length = t.ents.length
 sets : (P.tabs.map (·.set)).Nodup
theorem PS.Ok.noPl {P : PS} {L : List Int} (h : P.Ok L) {e : Int} (he : e ∉ L) : P.pl e = none := by
 cases hp : P.pl e with
 | none => rfl
 | some p => exact absurd ((h.dom e).1 (by rw [hp]; rfl)) he
theorem PS.Ok.isIn {P : PS} {L : List Int} (h : P.Ok L) {e : Int} {p : Pl} (hp : P.pl e = some p) : e ∈ L := (h.dom e).1 (by rw [hp]; rfl)
theorem PS.Ok.at {P : PS} {L : List Int} (h : P.Ok L) {e : Int} (he : e ∈ L) : ∃ p t, P.pl e = some p ∧ P.tabs[p.tab]? = some t := by
 obtain ⟨p, hp⟩ := Option.isSome_iff_exists.1 ((h.dom e).2 he)
 exact ⟨p, _, hp, List.getElem?_eq_getElem (h.tab e p hp)⟩
theorem who_kept {P : PS} {e : Int} {i : Nat} {t : PT} (hp : P.pl e = some ⟨i, none⟩) (ht : P.tabs[i]? = some t) : P.who e = some ⟨t.set, none⟩ := by
 unfold PS.who; rw [hp]; simp only [ht]
theorem who_row {P : PS} {e : Int} {i r : Nat} {t : PT} (hp : P.pl e = some ⟨i, some r⟩) (ht : P.tabs[i]? = some t) : P.who e = some ⟨t.set, some (t.vals.getD r [])⟩ := by
 unfold PS.who; rw [hp]; simp only [ht]
theorem who_none {P : PS} {e : Int} (hp : P.pl e = none) : P.who e = none := by unfold PS.who; rw [hp]
theorem setsOf_set {l : List PT} {i : Nat} {t t' : PT} (ht : l[i]? = some t) (hs : t'.set = t.set) : (l.set i t').map (·.set) = l.map (·.set) := by
 apply List.ext_getElem?
 intro j
 rw [List.getElem?_map, List.getElem?_map, List.getElem?_set]
 split
 ·rename_i e; subst e
  rw [ht]
  have := (List.getElem?_eq_some_iff.1 ht).1
  simp [this, hs]
 ·rfl
theorem set_some {α : Type} {l : List α} {i j : Nat} {t' u : α} (h : (l.set i t')[j]? = some u) : (j = i ∧ u = t' ∧ i < l.length) ∨ (j ≠ i ∧ l[j]? = some u) := by
 rw [List.getElem?_set] at h
 split at h
 ·rename_i e; subst e
  split at h
  ·cases h; exact .inl ⟨rfl, rfl, ‹_›⟩
  ·cases h
 ·rename_i e; exact .inr ⟨fun x => e x.symm, h⟩
theorem set_same {α : Type} {l : List α} {i : Nat} {t t' : α} (ht : l[i]? = some t) : (l.set i t')[i]? = some t' := by
 rw [List.getElem?_set, if_pos rfl, if_pos (List.getElem?_eq_some_iff.1 ht).1]
theorem set_other {α : Type} {l : List α} {i j : Nat} {t' : α} (h : j ≠ i) : (l.set i t')[j]? = l[j]? := by
 rw [List.getElem?_set, if_neg (fun e => h e.symm)]
theorem countP_perm {l m : List Int} (h : l.Perm m) (p : Int → Bool) : l.countP p = m.countP p := h.countP_eq p
theorem countP_same {l : List Int} {p q : Int → Bool} (h : ∀ e ∈ l, p e = q e) : l.countP p = l.countP q := by
 apply List.countP_congr
 intro e he
 rw [h e he]
def PS.add (P : PS) (i : Nat) (t : PT) (e : Int) (v : List (List WI)) : PS :=
 ⟨P.tabs.set i { t with ents := t.ents ++ [e], vals := t.vals ++ [v] }, updP P.pl e (some ⟨i, some t.ents.length⟩)⟩
theorem PS.Ok.add {P : PS} {L L' : List Int} (h : P.Ok L) {i : Nat} {t : PT} (ht : P.tabs[i]? = some t) {e : Int} (he : e ∉ L) (hL : L'.Perm (e :: L)) (v : List (List WI)) : (P.add i t e v).Ok L' := by
 have hnd : (e :: L).Nodup := List.nodup_cons.2 ⟨he, h.nd⟩
 refine ⟨hL.symm.nodup hnd, fun x => ?_, fun x j r => ?_, fun x p hp => ?_, fun j u hu => ?_, fun u hu => ?_, ?_⟩
 ·rw [hL.mem_iff, List.mem_cons, ← h.dom x]
  by_cases hx : x = e
  ·subst hx; simp [PS.add, updP_same]
  ·simp [PS.add, updP_ne hx, hx]
 ·by_cases hx : x = e
  ·subst hx
   simp only [PS.add, updP_same]
   constructor
   ·intro hh
    cases hh
    exact ⟨_, set_same ht, by simp⟩
   ·rintro ⟨u, hu, hr⟩
    rcases set_some hu with ⟨rfl, rfl, _⟩ | ⟨hj, hu⟩
    ·rw [List.getElem?_append] at hr
     split at hr
     ·exact absurd (h.isIn ((h.row x j r).2 ⟨t, ht, hr⟩)) he
     ·rename_i hge
      rw [List.getElem?_cons] at hr
      split at hr
      ·congr 3; omega
      ·simp at hr
    ·exact absurd (h.isIn ((h.row x j r).2 ⟨u, hu, hr⟩)) he
  ·simp only [PS.add, updP_ne hx]
   rw [h.row x j r]
   constructor
   ·rintro ⟨u, hu, hr⟩
    by_cases hj : j = i
    ·subst hj
     rw [ht] at hu; cases hu
     exact ⟨_, set_same ht, by rw [List.getElem?_append_left (List.getElem?_eq_some_iff.1 hr).1]; exact hr⟩
    ·exact ⟨u, by rw [set_other hj]; exact hu, hr⟩
   ·rintro ⟨u, hu, hr⟩
    rcases set_some hu with ⟨rfl, rfl, _⟩ | ⟨hj, hu⟩
    ·refine ⟨t, ht, ?_⟩
     rw [List.getElem?_append] at hr
     split at hr
     ·exact hr
     ·rw [List.getElem?_cons] at hr
      split at hr
      ·cases hr; exact absurd rfl hx
      ·simp at hr
    ·exact ⟨u, hu, hr⟩
 ·have hil := (List.getElem?_eq_some_iff.1 ht).1
  by_cases hx : x = e
  ·subst hx
   simp only [PS.add, updP_same, Option.some.injEq] at hp
   subst hp
   simpa [PS.add] using hil
  ·simp only [PS.add, updP_ne hx] at hp
   simpa [PS.add] using h.tab x p hp
 ·have hc : ∀ j, L'.countP (fun x => decide ((P.add i t e v).pl x = some ⟨j, none⟩)) = L.countP (fun x => decide (P.pl x = some ⟨j, none⟩)) := by
   intro j
   rw [countP_perm hL, List.countP_cons]
   have h1 : decide ((P.add i t e v).pl e = some ⟨j, none⟩) = false := by simp [PS.add, updP_same]
   rw [h1]
   refine countP_same fun x hx => ?_
   have hxe : x ≠ e := fun e' => he (e' ▸ hx)
   simp only [PS.add, updP_ne hxe]
  rw [hc]
  rcases set_some hu with ⟨rfl, rfl, _⟩ | ⟨hj, hu⟩
  ·exact h.kept j t ht
  ·exact h.kept j u hu
 ·rcases List.mem_or_eq_of_mem_set hu with hu | rfl
  ·exact h.len u hu
  ·have := h.len t (List.mem_of_getElem? ht)
   simp [this]
 ·rw [show (P.add i t e v).tabs = P.tabs.set i _ from rfl, setsOf_set ht (by rfl)]
  exact h.sets
theorem PS.Ok.add_who {P : PS} {L : List Int} (h : P.Ok L) {i : Nat} {t : PT} (ht : P.tabs[i]? = some t) {e : Int} (v : List (List WI)) (x : Int) : (P.add i t e v).who x = if x = e then some ⟨t.set, some v⟩ else P.who x := by
 by_cases hx : x = e
 ·subst hx
  rw [if_pos rfl, who_row (i := i) (r := t.ents.length) (by simp [PS.add, updP_same]) (set_same ht)]
  have := h.len t (List.mem_of_getElem? ht)
  simp [List.getD_eq_getElem?_getD, ← this]
 ·rw [if_neg hx]
  have hp : (P.add i t e v).pl x = P.pl x := updP_ne hx
  cases hq : P.pl x with
  | none => rw [who_none hq, who_none (by rw [hp]; exact hq)]
  | some p =>
   obtain ⟨j, r⟩ := p
   obtain ⟨u, hu⟩ : ∃ u : PT, P.tabs[j]? = some u := ⟨_, List.getElem?_eq_getElem (h.tab x _ hq)⟩
   by_cases hj : j = i
   ·subst hj
    rw [ht] at hu; cases hu
    cases r with
    | none => rw [who_kept hq ht, who_kept (by rw [hp]; exact hq) (set_same ht)]
    | some r =>
     rw [who_row hq ht, who_row (by rw [hp]; exact hq) (set_same ht)]
     obtain ⟨u, hu, hr⟩ := (h.row x j r).1 hq
     rw [ht] at hu; cases hu
     have h1 := (List.getElem?_eq_some_iff.1 hr).1
     have h2 := h.len t (List.mem_of_getElem? ht)
     simp only [List.getD_eq_getElem?_getD]
     rw [List.getElem?_append_left (by omega)]
   ·have hu' : (P.add i t e v).tabs[j]? = some u := by rw [show (P.add i t e v).tabs = P.tabs.set i _ from rfl, set_other hj]; exact hu
    cases r with
    | none => rw [who_kept hq hu, who_kept (by rw [hp]; exact hq) hu']
    | some r => rw [who_row hq hu, who_row (by rw [hp]; exact hq) hu']
def PS.keep (P : PS) (i : Nat) (t : PT) (e : Int) : PS := ⟨P.tabs.set i { t with kept := t.kept + 1 }, updP P.pl e (some ⟨i, none⟩)⟩
theorem PS.Ok.keep {P : PS} {L L' : List Int} (h : P.Ok L) {i : Nat} {t : PT} (ht : P.tabs[i]? = some t) {e : Int} (he : e ∉ L) (hL : L'.Perm (e :: L)) : (P.keep i t e).Ok L' := by
 have hnd : (e :: L).Nodup := List.nodup_cons.2 ⟨he, h.nd⟩
 have hrow : ∀ (j r : Nat) (x : Int), (∃ u : PT, (P.keep i t e).tabs[j]? = some u ∧ u.ents[r]? = some x) ↔ ∃ u : PT, P.tabs[j]? = some u ∧ u.ents[r]? = some x := by
  intro j r x
  constructor
  ·rintro ⟨u, hu, hr⟩
   rcases set_some hu with ⟨rfl, rfl, _⟩ | ⟨hj, hu⟩
   ·exact ⟨t, ht, hr⟩
   ·exact ⟨u, hu, hr⟩
  ·rintro ⟨u, hu, hr⟩
   by_cases hj : j = i
   ·subst hj
    rw [ht] at hu; cases hu
    exact ⟨_, set_same ht, hr⟩
   ·exact ⟨u, (set_other hj).trans hu, hr⟩
 refine ⟨hL.symm.nodup hnd, fun x => ?_, fun x j r => ?_, fun x p hp => ?_, fun j u hu => ?_, fun u hu => ?_, ?_⟩
 ·rw [hL.mem_iff, List.mem_cons, ← h.dom x]
  by_cases hx : x = e
  ·subst hx; simp [PS.keep, updP_same]
  ·simp [PS.keep, updP_ne hx, hx]
 ·rw [hrow, ← h.row x j r]
  by_cases hx : x = e
  ·subst hx
   simp [PS.keep, updP_same, h.noPl he]
  ·simp only [PS.keep, updP_ne hx]
 ·have hil := (List.getElem?_eq_some_iff.1 ht).1
  by_cases hx : x = e
  ·subst hx
   simp only [PS.keep, updP_same, Option.some.injEq] at hp
   subst hp
   simpa [PS.keep] using hil
  ·simp only [PS.keep, updP_ne hx] at hp
   simpa [PS.keep] using h.tab x p hp
 ·have hc : L'.countP (fun x => decide ((P.keep i t e).pl x = some ⟨j, none⟩)) = L.countP (fun x => decide (P.pl x = some ⟨j, none⟩)) + if i = j then 1 else 0 := by
   rw [countP_perm hL, List.countP_cons]
   have h1 : decide ((P.keep i t e).pl e = some ⟨j, none⟩) = decide (i = j) := by simp [PS.keep, updP_same]
   rw [h1, countP_same (q := fun x => decide (P.pl x = some ⟨j, none⟩)) fun x hx => ?_]
   ·simp
   ·have hxe : x ≠ e := fun e' => he (e' ▸ hx)
    simp only [PS.keep, updP_ne hxe]
  rw [hc]
  rcases set_some hu with ⟨rfl, rfl, _⟩ | ⟨hj, hu⟩
  ·rw [if_pos rfl, ← h.kept j t ht]
  ·rw [if_neg (fun e => hj e.symm)]; exact h.kept j u hu
 ·rcases List.mem_or_eq_of_mem_set hu with hu | rfl
  ·exact h.len u hu
  ·exact h.len t (List.mem_of_getElem? ht)
 ·rw [show (P.keep i t e).tabs = P.tabs.set i _ from rfl, setsOf_set ht (by rfl)]
  exact h.sets
theorem who_eq {P Q : PS} {x : Int} (hp : Q.pl x = P.pl x) (ht : ∀ p t, P.pl x = some p → P.tabs[p.tab]? = some t → ∃ u, Q.tabs[p.tab]? = some u ∧ u.set = t.set ∧ ∀ r, p.row = some r → u.vals.getD r [] = t.vals.getD r []) (hn : ∀ p, P.pl x = some p → p.tab < P.tabs.length) : Q.who x = P.who x := by
 cases hq : P.pl x with
 | none => rw [who_none hq, who_none (hp.trans hq)]
 | some p =>
  obtain ⟨j, r⟩ := p
  obtain ⟨t, h1⟩ : ∃ t, P.tabs[j]? = some t := ⟨_, List.getElem?_eq_getElem (hn _ hq)⟩
  obtain ⟨u, h2, h3, h4⟩ := ht _ t hq h1
  cases r with
  | none => rw [who_kept hq h1, who_kept (hp.trans hq) h2, h3]
  | some r => rw [who_row hq h1, who_row (hp.trans hq) h2, h3, h4 r rfl]
end Go.Proofs.YtgebbmfoamkfnaaGreatDoor
namespace Go.Proofs.YtgebbmfoamkfnaaGreatDoor
set_option linter.unusedVariables false
theorem nodup_len {l m : List Int} (hl : l.Nodup) (hm : m.Nodup) (h : ∀ x, x ∈ l ↔ x ∈ m) : l.length = m.length := by
 induction l generalizing m with
 | nil =>
  cases m with
  | nil => rfl
  | cons y r => exact absurd ((h y).2 (List.mem_cons_self)) (by simp)
 | cons x r ih =>
  have hx : x ∈ m := (h x).1 List.mem_cons_self
  have hp := List.perm_cons_erase hx
  rw [hp.length_eq, List.length_cons, List.length_cons]
  congr 1
  have hnd := List.nodup_cons.1 hl
  refine ih hnd.2 (hm.erase x) fun y => ?_
  rw [hm.mem_erase_iff]
  constructor
  ·intro hy
   exact ⟨fun e => hnd.1 (e ▸ hy), (h y).1 (List.mem_cons_of_mem _ hy)⟩
  ·rintro ⟨h1, h2⟩
   rcases List.mem_cons.1 ((h y).2 h2) with e | h3
   ·exact absurd e h1
   ·exact h3
theorem nd_inj {α : Type} {l : List α} (h : l.Nodup) {i j : Nat} {x : α} (hi : l[i]? = some x) (hj : l[j]? = some x) : i = j := by
 obtain ⟨li, ei⟩ := List.getElem?_eq_some_iff.1 hi
 obtain ⟨lj, ej⟩ := List.getElem?_eq_some_iff.1 hj
 have hp := List.pairwise_iff_getElem.1 h
 rcases Nat.lt_trichotomy i j with hij | hij | hij
 ·exact absurd (ei.trans ej.symm) (hp i j li lj hij)
 ·exact hij
 ·exact absurd (ej.trans ei.symm) (hp j i lj li hij)
theorem PS.Ok.ents_nodup {P : PS} {L : List Int} (h : P.Ok L) {i : Nat} {t : PT} (ht : P.tabs[i]? = some t) : t.ents.Nodup := by
 refine List.pairwise_iff_getElem.2 fun a b la lb hab he => ?_
 have h2 := (h.row _ i a).2 ⟨t, ht, List.getElem?_eq_getElem la⟩
 have h3 := (h.row _ i b).2 ⟨t, ht, List.getElem?_eq_getElem lb⟩
 rw [he, h3] at h2
 cases h2
 omega
def hasSet (P : PS) (s : Int) (e : Int) : Bool := match P.who e with | some x => decide (x.set = s) | none => false
theorem PS.Ok.set_inj {P : PS} {L : List Int} (h : P.Ok L) {i j : Nat} {t u : PT} (ht : P.tabs[i]? = some t) (hu : P.tabs[j]? = some u) (hs : t.set = u.set) : i = j := by
 refine nd_inj h.sets (x := t.set) ?_ ?_
 ·rw [List.getElem?_map, ht]; rfl
 ·rw [List.getElem?_map, hu, hs]; rfl
theorem PS.Ok.hasSet_iff {P : PS} {L : List Int} (h : P.Ok L) {i : Nat} {t : PT} (ht : P.tabs[i]? = some t) (e : Int) : hasSet P t.set e = true ↔ ∃ r, P.pl e = some ⟨i, r⟩ := by
 unfold hasSet
 cases hq : P.pl e with
 | none => rw [who_none hq]; simp
 | some p =>
  obtain ⟨j, r⟩ := p
  obtain ⟨u, hu⟩ : ∃ u : PT, P.tabs[j]? = some u := ⟨_, List.getElem?_eq_getElem (h.tab e _ hq)⟩
  have hset : (decide (u.set = t.set) = true) ↔ j = i := by
   rw [decide_eq_true_iff]
   constructor
   ·intro hs; exact h.set_inj hu ht hs
   ·intro e; subst e; rw [ht] at hu; cases hu; rfl
  cases r with
  | none => rw [who_kept hq hu]; simp only [hset]; simp
  | some r => rw [who_row hq hu]; simp only [hset]; simp
theorem countP_add {l : List Int} {p q r : Int → Bool} (h : ∀ e ∈ l, p e = (q e || r e) ∧ (q e && r e) = false) : l.countP p = l.countP q + l.countP r := by
 induction l with
 | nil => rfl
 | cons x m ih =>
  obtain ⟨h1, h2⟩ := h x List.mem_cons_self
  have := ih fun e he => h e (List.mem_cons_of_mem _ he)
  rw [List.countP_cons, List.countP_cons, List.countP_cons, this, h1]
  cases hq : q x <;> cases hr : r x <;> simp [hq, hr] at h2 ⊢ <;> omega
theorem PS.Ok.count {P : PS} {L : List Int} (h : P.Ok L) {i : Nat} {t : PT} (ht : P.tabs[i]? = some t) : L.countP (hasSet P t.set) = t.ents.length + t.kept := by
 rw [h.kept i t ht]
 have h1 : L.countP (fun e => (P.pl e).any fun p => decide (p.tab = i) && p.row.isSome) = t.ents.length := by
  rw [List.countP_eq_length_filter]
  refine nodup_len (h.nd.filter _) (h.ents_nodup ht) fun x => ?_
  rw [List.mem_filter]
  constructor
  ·rintro ⟨hx, hp⟩
   cases hq : P.pl x with
   | none => rw [hq] at hp; simp at hp
   | some p =>
    obtain ⟨j, r⟩ := p
    rw [hq] at hp
    simp at hp
    obtain ⟨rfl, hr⟩ := hp
    obtain ⟨r, rfl⟩ := Option.isSome_iff_exists.1 hr
    obtain ⟨u, hu, hr⟩ := (h.row x j r).1 hq
    rw [ht] at hu; cases hu
    exact List.mem_of_getElem? hr
  ·intro hx
   obtain ⟨r, hr⟩ := List.getElem?_of_mem hx
   have := (h.row x i r).2 ⟨t, ht, hr⟩
   exact ⟨h.isIn this, by rw [this]; simp⟩
 rw [← h1]
 refine countP_add fun e he => ?_
 have hi := h.hasSet_iff ht e
 cases hq : P.pl e with
 | none =>
  have : hasSet P t.set e = false := by
   cases hb : hasSet P t.set e with
   | false => rfl
   | true => obtain ⟨r, hr⟩ := hi.1 hb; rw [hq] at hr; cases hr
  rw [this]; simp
 | some p =>
  obtain ⟨j, r⟩ := p
  have : hasSet P t.set e = decide (j = i) := by
   by_cases hj : j = i
   ·subst hj; simp only [decide_true]; exact hi.2 ⟨r, hq⟩
   ·cases hb : hasSet P t.set e with
    | false => simp [hj]
    | true => obtain ⟨r, hr⟩ := hi.1 hb; rw [hq] at hr; cases hr; exact absurd rfl hj
  rw [this]
  cases r <;> by_cases hj : j = i <;> simp [hj]
def PS.drop (P : PS) (i : Nat) (t : PT) (e : Int) (r m : Nat) (x : Int) (v : List (List WI)) : PS :=
 ⟨P.tabs.set i { t with ents := (t.ents.set r x).take m, vals := (t.vals.set r v).take m }, if r = m then updP P.pl e none else updP (updP P.pl e none) x (some ⟨i, some r⟩)⟩
theorem swap_at {α : Type} {l : List α} {r m k : Nat} {x : α} (hm : l.length = m + 1) (hr : r ≤ m) : ((l.set r x).take m)[k]? = if k < m then (if k = r then some x else l[k]?) else none := by
 rw [List.getElem?_take]
 split
 ·rw [List.getElem?_set]
  by_cases h : k = r
  ·rw [if_pos h.symm, if_pos (by omega), if_pos h]
  ·rw [if_neg (fun e => h e.symm), if_neg h]
 ·rfl
theorem PS.Ok.drop {P : PS} {L L' : List Int} (h : P.Ok L) {i : Nat} {t : PT} (ht : P.tabs[i]? = some t) {e : Int} {r m : Nat} {x : Int} (v : List (List WI)) (hp : P.pl e = some ⟨i, some r⟩) (hm : t.ents.length = m + 1) (hx : t.ents[m]? = some x) (hL : L.Perm (e :: L')) : (P.drop i t e r m x v).Ok L' := by
 have hnd := List.nodup_cons.1 (hL.nodup h.nd)
 have hmem : ∀ x, x ∈ L' ↔ x ∈ L ∧ x ≠ e := fun x => by
  rw [hL.mem_iff, List.mem_cons]
  constructor
  ·intro hx; exact ⟨.inr hx, fun e' => hnd.1 (e' ▸ hx)⟩
  ·rintro ⟨h1 | h1, h2⟩
   ·exact absurd h1 h2
   ·exact h1
 have her : t.ents[r]? = some e := by
  obtain ⟨u, hu, hr⟩ := (h.row e i r).1 hp
  rw [ht] at hu; cases hu; exact hr
 have hrm : r ≤ m := by have := (List.getElem?_eq_some_iff.1 her).1; omega
 have hxp : P.pl x = some ⟨i, some m⟩ := (h.row x i m).2 ⟨t, ht, hx⟩
 have hpl : ∀ y, (P.drop i t e r m x v).pl y = if y = e then none else if y = x then some ⟨i, some r⟩ else P.pl y := by
  intro y
  show (if r = m then updP P.pl e none else updP (updP P.pl e none) x (some ⟨i, some r⟩)) y = _
  split
  ·rename_i hr
   subst hr
   rw [hx] at her; cases her
   by_cases hy : y = e
   ·rw [hy, updP_same, if_pos rfl]
   ·rw [updP_ne hy, if_neg hy, if_neg hy]
  ·rename_i hr
   have hex : x ≠ e := fun e' => by
    subst e'; rw [hp] at hxp; cases hxp; exact hr rfl
   by_cases hy : y = x
   ·subst hy; rw [updP_same, if_neg hex, if_pos rfl]
   ·rw [updP_ne hy]
    by_cases hy2 : y = e
    ·rw [hy2, updP_same, if_pos rfl]
    ·rw [updP_ne hy2, if_neg hy2, if_neg hy]
 have hde : ∀ k y, ((t.ents.set r x).take m)[k]? = some y ↔ k < m ∧ ((k = r ∧ y = x) ∨ (k ≠ r ∧ t.ents[k]? = some y)) := by
  intro k y
  rw [swap_at hm hrm]
  split
  ·split
   ·rename_i h1 h2
    constructor
    ·intro hh; cases hh; exact ⟨h1, .inl ⟨h2, rfl⟩⟩
    ·rintro ⟨_, ⟨_, rfl⟩ | ⟨h3, _⟩⟩
     ·rfl
     ·exact absurd h2 h3
   ·rename_i h1 h2
    constructor
    ·intro hh; exact ⟨h1, .inr ⟨h2, hh⟩⟩
    ·rintro ⟨_, ⟨h3, _⟩ | ⟨_, h3⟩⟩
     ·exact absurd h3 h2
     ·exact h3
  ·rename_i h1
   constructor
   ·intro hh; cases hh
   ·rintro ⟨h2, _⟩; exact absurd h2 h1
 refine ⟨hnd.2, fun y => ?_, fun y j k => ?_, fun y p hq => ?_, fun j u hu => ?_, fun u hu => ?_, ?_⟩
 ·rw [hpl, hmem]
  split
  ·rename_i hy; simp [hy]
  ·rename_i hy
   split
   ·rename_i hy2
    subst hy2
    simp [hy, h.isIn hxp]
   ·rw [h.dom y]; simp [hy]
 ·rw [hpl]
  constructor
  ·intro hq
   split at hq
   ·cases hq
   ·rename_i hye
    split at hq
    ·rename_i hyx
     cases hq
     refine ⟨_, set_same ht, (hde r y).2 ⟨?_, .inl ⟨rfl, hyx⟩⟩⟩
     have : r ≠ m := fun hr => by
      subst hr
      rw [hx] at her; cases her; exact hye hyx
     omega
    ·rename_i hyx
     obtain ⟨u, hu, hk⟩ := (h.row y j k).1 hq
     by_cases hj : j = i
     ·subst hj
      rw [ht] at hu; cases hu
      refine ⟨_, set_same ht, (hde k y).2 ⟨?_, .inr ⟨?_, hk⟩⟩⟩
      ·have h1 := (List.getElem?_eq_some_iff.1 hk).1
       have : k ≠ m := fun hkm => by subst hkm; rw [hx] at hk; cases hk; exact hyx rfl
       omega
      ·intro hkr; subst hkr; rw [her] at hk; cases hk; exact hye rfl
     ·exact ⟨u, (set_other hj).trans hu, hk⟩
  ·rintro ⟨u, hu, hk⟩
   rcases set_some hu with ⟨rfl, rfl, _⟩ | ⟨hj, hu⟩
   ·obtain ⟨hkm, ⟨rfl, rfl⟩ | ⟨hkr, hk⟩⟩ := (hde k y).1 hk
    ·have : y ≠ e := fun e' => by subst e'; rw [hp] at hxp; cases hxp; omega
     rw [if_neg this, if_pos rfl]
    ·have hq := (h.row y j k).2 ⟨t, ht, hk⟩
     have h1 : y ≠ e := fun e' => by subst e'; rw [hp] at hq; cases hq; exact hkr rfl
     have h2 : y ≠ x := fun e' => by subst e'; rw [hxp] at hq; cases hq; omega
     rw [if_neg h1, if_neg h2, hq]
   ·have hq := (h.row y j k).2 ⟨u, hu, hk⟩
    have h1 : y ≠ e := fun e' => by subst e'; rw [hp] at hq; cases hq; exact hj rfl
    have h2 : y ≠ x := fun e' => by subst e'; rw [hxp] at hq; cases hq; exact hj rfl
    rw [if_neg h1, if_neg h2, hq]
 ·rw [hpl] at hq
  have hl : (P.drop i t e r m x v).tabs.length = P.tabs.length := by simp [PS.drop]
  rw [hl]
  split at hq
  ·cases hq
  ·split at hq
   ·cases hq; exact h.tab _ _ hp
   ·exact h.tab y p hq
 ·have hc : L'.countP (fun y => decide ((P.drop i t e r m x v).pl y = some ⟨j, none⟩)) = L.countP (fun y => decide (P.pl y = some ⟨j, none⟩)) := by
   rw [countP_perm hL, List.countP_cons, hp]
   simp only [Option.some.injEq, Pl.mk.injEq, reduceCtorEq, and_false, decide_false, Bool.false_eq_true, if_false, Nat.add_zero]
   refine countP_same fun y hy => ?_
   have hye : y ≠ e := ((hmem y).1 hy).2
   rw [hpl, if_neg hye]
   split
   ·rename_i hyx; subst hyx; rw [hxp]; simp
   ·rfl
  rw [hc]
  rcases set_some hu with ⟨rfl, rfl, _⟩ | ⟨hj, hu⟩
  ·exact h.kept j t ht
  ·exact h.kept j u hu
 ·rcases List.mem_or_eq_of_mem_set hu with hu | rfl
  ·exact h.len u hu
  ·have := h.len t (List.mem_of_getElem? ht)
   simp; omega
 ·rw [show (P.drop i t e r m x v).tabs = P.tabs.set i _ from rfl, setsOf_set ht (by rfl)]
  exact h.sets
def PS.snoc (P : PS) (s : Int) : PS := ⟨P.tabs ++ [⟨s, [], 0, []⟩], P.pl⟩
theorem snoc_some {l : List PT} {n u : PT} {j : Nat} (h : (l ++ [n])[j]? = some u) : l[j]? = some u ∨ (j = l.length ∧ u = n) := by
 rw [List.getElem?_append] at h
 split at h
 ·exact .inl h
 ·rw [List.getElem?_cons] at h
  split at h
  ·cases h; exact .inr ⟨by omega, rfl⟩
  ·simp at h
theorem PS.Ok.snoc {P : PS} {L : List Int} (h : P.Ok L) {s : Int} (hs : s ∉ P.tabs.map (·.set)) : (P.snoc s).Ok L := by
 refine ⟨h.nd, h.dom, fun x j r => ?_, fun x p hp => ?_, fun j u hu => ?_, fun u hu => ?_, ?_⟩
 ·rw [show (P.snoc s).pl = P.pl from rfl, h.row x j r]
  constructor
  ·rintro ⟨u, hu, hr⟩
   exact ⟨u, by rw [show (P.snoc s).tabs = P.tabs ++ _ from rfl, List.getElem?_append_left (List.getElem?_eq_some_iff.1 hu).1]; exact hu, hr⟩
  ·rintro ⟨u, hu, hr⟩
   rcases snoc_some hu with hu | ⟨_, rfl⟩
   ·exact ⟨u, hu, hr⟩
   ·simp at hr
 ·have := h.tab x p hp
  simp [PS.snoc]; omega
 ·rcases snoc_some hu with hu | ⟨rfl, rfl⟩
  ·exact h.kept j u hu
  ·symm
   rw [List.countP_eq_zero]
   intro e he
   simp only [PS.snoc]
   intro hd
   have := h.tab e _ (of_decide_eq_true hd)
   simp at this
 ·rcases List.mem_append.1 hu with hu | hu
  ·exact h.len u hu
  ·simp at hu; subst hu; rfl
 ·rw [show (P.snoc s).tabs.map (·.set) = P.tabs.map (·.set) ++ [s] by simp [PS.snoc], List.nodup_append]
  refine ⟨h.sets, by simp, ?_⟩
  intro a ha b hb e
  simp at hb
  subst hb; subst e
  exact hs ha
theorem PS.Ok.snoc_who {P : PS} {L : List Int} (h : P.Ok L) (s : Int) (x : Int) : (P.snoc s).who x = P.who x :=
 who_eq rfl (fun p u hq hu => ⟨u, by rw [show (P.snoc s).tabs = P.tabs ++ _ from rfl, List.getElem?_append_left (List.getElem?_eq_some_iff.1 hu).1]; exact hu, rfl, fun _ _ => rfl⟩) (fun p hp => h.tab x p hp)
def PS.put (P : PS) (i : Nat) (t : PT) (k : Nat) (v : List (List WI)) : PS := ⟨P.tabs.set i { t with vals := t.vals.set k v }, P.pl⟩
theorem PS.Ok.put {P : PS} {L : List Int} (h : P.Ok L) {i : Nat} {t : PT} (ht : P.tabs[i]? = some t) (k : Nat) (v : List (List WI)) : (P.put i t k v).Ok L := by
 refine ⟨h.nd, h.dom, fun x j r => ?_, fun x p hp => ?_, fun j u hu => ?_, fun u hu => ?_, ?_⟩
 ·rw [show (P.put i t k v).pl = P.pl from rfl, h.row x j r]
  constructor
  ·rintro ⟨u, hu, hr⟩
   by_cases hj : j = i
   ·subst hj
    rw [ht] at hu; cases hu
    exact ⟨_, set_same ht, hr⟩
   ·exact ⟨u, (set_other hj).trans hu, hr⟩
  ·rintro ⟨u, hu, hr⟩
   rcases set_some hu with ⟨rfl, rfl, _⟩ | ⟨hj, hu⟩
   ·exact ⟨t, ht, hr⟩
   ·exact ⟨u, hu, hr⟩
 ·simpa [PS.put] using h.tab x p hp
 ·rcases set_some hu with ⟨rfl, rfl, _⟩ | ⟨hj, hu⟩
  ·exact h.kept j t ht
  ·exact h.kept j u hu
 ·rcases List.mem_or_eq_of_mem_set hu with hu | rfl
  ·exact h.len u hu
  ·have := h.len t (List.mem_of_getElem? ht)
   simpa using this
 ·rw [show (P.put i t k v).tabs = P.tabs.set i _ from rfl, setsOf_set ht (by rfl)]
  exact h.sets
end Go.Proofs.YtgebbmfoamkfnaaGreatDoor
