/- A buffer of commands: List. · cmd.Do, cmd.World: Spawn without parts, Despawn. · Plain: who stands where: tables of handles, and places. -/
import Derived.Test.YtnhlnnehpmjeiaaGreatDoorP17
import Derived.Test.YtnhlnnehpmjeiaaGreatDoorP4
namespace Go.Proofs.YtnhlnnehpmjeiaaGreatDoor
open Go.RowKit
set_option linter.unusedVariables false
theorem own_low {w : World} {B : Nat} {e : TypeId} {s n : Nat} {v : Value} {xs : List Value} (h : w.ownsRow B e s v n xs) {A : Nat} (hA : A ≤ B) : w.ownsRow A e s v n xs := by
  obtain ⟨h1, h2⟩ := h
  refine ⟨h1, ?_⟩
  rcases h2 with h2 | ⟨g, cap, cur, hv, hg, hr⟩
  · exact .inl h2
  · exact .inr ⟨g, cap, cur, hv, by omega, hr⟩
theorem below_out {n : Nat} {a b c : World} {F : Nat → Prop} (h : Below n a b) (k : Out F b c) (hn : n ≤ b.heap.size) (hF : ∀ q, F q → n ≤ q) : Below n a c :=
  ⟨k.os.trans h.os, k.tape.trans h.tape, k.output.trans h.output, Nat.le_trans h.size k.size, fun q hq => (k.block q (by omega) (fun e => by have := hF q e; omega)).trans (h.block q hq)⟩
theorem set_self {xs : List Value} {j : Nat} {u : Value} (h : xs[j]? = some u) : xs.set j u = xs := by
  apply List.ext_getElem?
  intro i
  rw [List.getElem?_set]
  split
  · rename_i e
    subst e
    rw [h]
    simp [(List.getElem?_eq_some_iff.1 h).1]
  · rfl
set_option maxRecDepth 100000 in
set_option maxHeartbeats 2000000 in
theorem bufList_any {b : Nat} {most nx : Int} {fa : Option Addr} {fc : Nat} {its : List IT} (w : World) (h : QMem w (bufQ b most nx fa fc its)) (hwf : ∀ z ∈ its, z.wf) (hh : HeapI its its.length) (hl : its.length ≤ 100) :
    Calls Tryz.prog 8 #[.pointer (some ⟨b, 0, none⟩)] w fun e w' => ∃ (out : List IT) (va : Option Addr) (vc : Nat), e = .returned (.slice va out.length vc) ∧ w'.ownsRow w.heap.size 34 4 (.slice va out.length vc) out.length (out.flatMap IT.d) ∧ out.Perm its ∧ (out.Pairwise fun a b => a.r ≤ b.r) ∧ Below w.heap.size w w' := by
  have c1 := cell_at (bufQ_blk h) 1
  simp at c1
  have HC := Lib.hid (cqClone_any 0 fa fc its w h.row (by omega))
  have HWF := Lib.hid hwf
  have HH := Lib.hid hh
  clear h hwf hh
  go_enter Tryz.func8, Tryz.ntmps8
  go_wp2_with fail
  refine HC.out.mono ?_
  rintro e w2 ⟨va, vc, rfl, hown, hb2⟩
  have HDR := Lib.hid (drain_any va vc its w2 (own_low hown (Nat.zero_le _)) HWF.out HH.out hl)
  have HF2 : Hid (∀ q, (Value.slice va its.length vc).ownBlock = some q → w.heap.size ≤ q) := Lib.hid fun q hq => own_base hown hq
  have HB2 := Lib.hid hb2
  clear hown hb2 c1 HC
  go_wp2_with fail
  refine HDR.out.mono ?_
  rintro e w3 ⟨out, oa, oc, rfl, hown3, hp, hs, ho3⟩
  have HB3 := Lib.hid (below_out HB2.out ho3 HB2.out.size HF2.out)
  have HO3 := Lib.hid (own_low hown3 (show w.heap.size ≤ w2.heap.size + 1 by have := HB2.out.size; omega))
  have HP := Lib.hid hp
  have HS := Lib.hid hs
  clear hown3 hp hs ho3 HDR HF2 HB2
  obtain ⟨n, hn⟩ : ∃ n, out.length = n := ⟨_, rfl⟩
  have hnl : n ≤ 100 := by have := HP.out.length_eq; omega
  rw [hn] at HO3 ⊢
  have HN := Lib.hid hn
  clear hn
  go_wp2_with fail
  go_loopw [15] (fun i wr => ∃ k : Nat, i = .int .i64 (k : Int) ∧ k ≤ n ∧ wr.ownsRow w.heap.size 34 4 (.slice oa n oc) n (out.flatMap IT.d) ∧ Below w.heap.size w wr) (fun i _ => n - (intOf i).toNat)
  case atStart => exact ⟨0, rfl, Nat.zero_le _, HO3.out, HB3.out⟩
  case round =>
    obtain ⟨k, rfl, hk, hown, hb⟩ := hrel
    by_cases h1 : k < n
    · have hlt : k < out.length := by have := HN.out; omega
      have h3 := cmds_at out k out[k] (List.getElem?_eq_getElem hlt) 3 _ rfl
      obtain ⟨q, hq, hrow2, hfz, hqb, hql, hcap, _⟩ := ownsRow_setS (j := k * 4 + 3) (.slice none 0 0) hown (by omega)
      obtain ⟨q', hq', _, _, hcl⟩ := row_block hown (by omega)
      have : q' = q := by rw [hq] at hq'; cases hq'; rfl
      subst this
      have x3 := hcl (k * 4 + 3) _ h3
      rw [set_self h3] at hrow2
      have hb2 : Below w.heap.size w (wr.setCell ⟨q', k * 4 + 3, none⟩ (.slice none 0 0)) := hb.setCell (show w.heap.size ≤ q' from hqb) _
      have g0 : (0 : Int) ≤ (k : Int) := by omega
      have g1 : decide ((k : Int) < (n : Int)) = true := decide_eq_true (by omega)
      have g2 : (k : Int) < (n : Int) := by omega
      rw [hq] at hrow2
      have HR2 := Lib.hid hrow2
      have HB2 := Lib.hid hb2
      have HQ := Lib.hid hq
      rw [hq]
      clear hown hb h3 hrow2 hq hq' hcl hb2
      go_wp2_with fail
      refine (cmdClone_nil _).mono ?_
      rintro e w5 ⟨rfl, rfl⟩
      go_wp2_with fail
      go_roundw
      case rel => exact ⟨k + 1, by go_num, by omega, HR2.out, HB2.out⟩
      case measure => simp [intOf]; omega
    · have g1 : decide ((k : Int) < (n : Int)) = false := decide_eq_false (by omega)
      have HF := Lib.hid hown
      have HB := Lib.hid hb
      clear hown hb
      go_wp2_with fail
      go_returns
      exact ⟨out, oa, oc, by rw [HN.out]; rfl, by rw [HN.out]; exact HF.out, HP.out, HS.out, HB.out⟩
end Go.Proofs.YtnhlnnehpmjeiaaGreatDoor
namespace Go.Proofs.YtnhlnnehpmjeiaaGreatDoor
open Go.RowKit
set_option linter.unusedVariables false
theorem wmethod_spawn (a : Addr) (w : World) : (method 411 52 (.pointer (some a)) "Spawn").run Tryz.prog w = .ok (134, .pointer (some a)) w := by kernel_rfl
theorem wmethod_despawn (a : Addr) (w : World) : (method 411 52 (.pointer (some a)) "Despawn").run Tryz.prog w = .ok (131, .pointer (some a)) w := by kernel_rfl
section
variable {wb : Nat} {w : World} {ent comp : Int} {P : Int → World → Prop}
theorem cmdDo_spawn (h : ∀ W, Below w.heap.size w W → Calls Tryz.prog 134 #[.pointer (some ⟨wb, 0, none⟩), .slice none 0 0] W fun e w' => ∃ en er : Int, e = .returned (.tuple #[.int .u64 en, .int .i64 er]) ∧ P er w') :
    Calls Tryz.prog 59 #[.iface 52 (.pointer (some ⟨wb, 0, none⟩)), .agg #[.int .i64 1, .int .u64 ent, .int .i64 comp, .slice none 0 0]] w fun e w' => ∃ er : Int, e = .returned (.int .i64 er) ∧ P er w' := by
  have H := Lib.hid (h (w.alloc (.cells #[.int .i64 1, .int .u64 ent, .int .i64 comp, .slice none 0 0] 34)) (by go_grown))
  have hM := wmethod_spawn ⟨wb, 0, none⟩ (w.alloc (.cells #[.int .i64 1, .int .u64 ent, .int .i64 comp, .slice none 0 0] 34))
  clear h
  go_enter Tryz.func59, Tryz.ntmps59
  go_wp2_with fail
  refine H.out.mono ?_
  rintro e w2 ⟨en, er, rfl, hp⟩
  have HP := Lib.hid hp
  clear hp
  go_wp2_with fail
  go_returns
  exact ⟨er, rfl, HP.out⟩
theorem cmdDo_despawn (h : ∀ W, Below w.heap.size w W → Calls Tryz.prog 131 #[.pointer (some ⟨wb, 0, none⟩), .int .u64 ent] W fun e w' => ∃ er : Int, e = .returned (.int .i64 er) ∧ P er w') :
    Calls Tryz.prog 59 #[.iface 52 (.pointer (some ⟨wb, 0, none⟩)), .agg #[.int .i64 2, .int .u64 ent, .int .i64 comp, .slice none 0 0]] w fun e w' => ∃ er : Int, e = .returned (.int .i64 er) ∧ P er w' := by
  have H := Lib.hid (h (w.alloc (.cells #[.int .i64 2, .int .u64 ent, .int .i64 comp, .slice none 0 0] 34)) (by go_grown))
  have hM := wmethod_despawn ⟨wb, 0, none⟩ (w.alloc (.cells #[.int .i64 2, .int .u64 ent, .int .i64 comp, .slice none 0 0] 34))
  clear h
  go_enter Tryz.func59, Tryz.ntmps59
  go_wp2_with fail
  refine H.out.mono ?_
  rintro e w2 ⟨er, rfl, hp⟩
  have HP := Lib.hid hp
  clear hp
  go_wp2_with fail
  go_returns
  exact ⟨er, rfl, HP.out⟩
theorem cmdWorld_any (k n : Int) (h : ∀ W, Below w.heap.size w W → Calls Tryz.prog 59 #[.iface 52 (.pointer (some ⟨wb, 0, none⟩)), .agg #[.int .i64 k, .int .u64 ent, .int .i64 n, .slice none 0 0]] W fun e w' => ∃ er : Int, e = .returned (.int .i64 er) ∧ P er w') :
    Calls Tryz.prog 38 #[.pointer (some ⟨wb, 0, none⟩), .agg #[.int .i64 k, .int .u64 ent, .int .i64 n, .slice none 0 0]] w fun e w' => ∃ er : Int, e = .returned (.int .i64 er) ∧ P er w' := by
  have H := Lib.hid (h (w.alloc (.cells #[.int .i64 k, .int .u64 ent, .int .i64 n, .slice none 0 0] 34)) (by go_grown))
  clear h
  go_enter Tryz.func38, Tryz.ntmps38
  go_wp2_with fail
  refine H.out.mono ?_
  rintro e w2 ⟨er, rfl, hp⟩
  have HP := Lib.hid hp
  clear hp
  go_wp2_with fail
  go_returns
  exact ⟨er, rfl, HP.out⟩
end
end Go.Proofs.YtnhlnnehpmjeiaaGreatDoor
namespace Go.Proofs.YtnhlnnehpmjeiaaGreatDoor
set_option linter.unusedVariables false
/-- A place: a table's, a row's; no row: awaited. -/
structure Pl where
  tab : Nat
  row : Option Nat
  deriving DecidableEq
structure PT where
  set : Int
  ents : List Int
  kept : Nat
  vals : List (List (List WI))
structure PS where
  tabs : List PT
  pl : Int → Option Pl
def updP (f : Int → Option Pl) (e : Int) (p : Option Pl) : Int → Option Pl := fun x => if x = e then p else f x
theorem updP_same (f : Int → Option Pl) (e : Int) (p : Option Pl) : updP f e p e = p := if_pos rfl
theorem updP_ne {f : Int → Option Pl} {e x : Int} {p : Option Pl} (h : x ≠ e) : updP f e p x = f x := if_neg h
theorem updP_back {f : Int → Option Pl} {e : Int} (p q : Option Pl) : updP (updP f e p) e q = updP f e q := by
  funext x; unfold updP; split <;> rfl
/-- Somebody: their set; their values, if they are not awaited. -/
structure Who where
  set : Int
  row : Option (List (List WI))
def PS.who (P : PS) (e : Int) : Option Who :=
  match P.pl e with
  | none => none
  | some p => match P.tabs[p.tab]? with
    | none => none
    | some t => match p.row with
      | none => some ⟨t.set, none⟩
      | some r => some ⟨t.set, some (t.vals.getD r [])⟩
structure PS.Ok (P : PS) (L : List Int) : Prop where
  nd : L.Nodup
  dom : ∀ e, (P.pl e).isSome = true ↔ e ∈ L
  row : ∀ e i r, P.pl e = some ⟨i, some r⟩ ↔ ∃ t, P.tabs[i]? = some t ∧ t.ents[r]? = some e
  tab : ∀ e p, P.pl e = some p → p.tab < P.tabs.length
  kept : ∀ i t, P.tabs[i]? = some t → t.kept = L.countP (fun e => decide (P.pl e = some ⟨i, none⟩))
  len : ∀ t ∈ P.tabs, t.vals.length = t.ents.length
  sets : (P.tabs.map (·.set)).Nodup
theorem PS.Ok.noPl {P : PS} {L : List Int} (h : P.Ok L) {e : Int} (he : e ∉ L) : P.pl e = none := by
  cases hp : P.pl e with
  | none => rfl
  | some p => exact absurd ((h.dom e).1 (by rw [hp]; rfl)) he
theorem PS.Ok.isIn {P : PS} {L : List Int} (h : P.Ok L) {e : Int} {p : Pl} (hp : P.pl e = some p) : e ∈ L := (h.dom e).1 (by rw [hp]; rfl)
theorem PS.Ok.at {P : PS} {L : List Int} (h : P.Ok L) {e : Int} (he : e ∈ L) : ∃ p t, P.pl e = some p ∧ P.tabs[p.tab]? = some t := by
  obtain ⟨p, hp⟩ := Option.isSome_iff_exists.1 ((h.dom e).2 he)
  exact ⟨p, _, hp, List.getElem?_eq_getElem (h.tab e p hp)⟩
theorem who_kept {P : PS} {e : Int} {i : Nat} {t : PT} (hp : P.pl e = some ⟨i, none⟩) (ht : P.tabs[i]? = some t) : P.who e = some ⟨t.set, none⟩ := by
  unfold PS.who; rw [hp]; simp only [ht]
theorem who_row {P : PS} {e : Int} {i r : Nat} {t : PT} (hp : P.pl e = some ⟨i, some r⟩) (ht : P.tabs[i]? = some t) : P.who e = some ⟨t.set, some (t.vals.getD r [])⟩ := by
  unfold PS.who; rw [hp]; simp only [ht]
theorem who_none {P : PS} {e : Int} (hp : P.pl e = none) : P.who e = none := by unfold PS.who; rw [hp]
theorem setsOf_set {l : List PT} {i : Nat} {t t' : PT} (ht : l[i]? = some t) (hs : t'.set = t.set) : (l.set i t').map (·.set) = l.map (·.set) := by
  apply List.ext_getElem?
  intro j
  rw [List.getElem?_map, List.getElem?_map, List.getElem?_set]
  split
  · rename_i e; subst e
    rw [ht]
    have := (List.getElem?_eq_some_iff.1 ht).1
    simp [this, hs]
  · rfl
theorem set_some {α : Type} {l : List α} {i j : Nat} {t' u : α} (h : (l.set i t')[j]? = some u) : (j = i ∧ u = t' ∧ i < l.length) ∨ (j ≠ i ∧ l[j]? = some u) := by
  rw [List.getElem?_set] at h
  split at h
  · rename_i e; subst e
    split at h
    · cases h; exact .inl ⟨rfl, rfl, ‹_›⟩
    · cases h
  · rename_i e; exact .inr ⟨fun x => e x.symm, h⟩
theorem set_same {α : Type} {l : List α} {i : Nat} {t t' : α} (ht : l[i]? = some t) : (l.set i t')[i]? = some t' := by
  rw [List.getElem?_set, if_pos rfl, if_pos (List.getElem?_eq_some_iff.1 ht).1]
theorem set_other {α : Type} {l : List α} {i j : Nat} {t' : α} (h : j ≠ i) : (l.set i t')[j]? = l[j]? := by
  rw [List.getElem?_set, if_neg (fun e => h e.symm)]
theorem countP_perm {l m : List Int} (h : l.Perm m) (p : Int → Bool) : l.countP p = m.countP p := h.countP_eq p
theorem countP_same {l : List Int} {p q : Int → Bool} (h : ∀ e ∈ l, p e = q e) : l.countP p = l.countP q := by
  apply List.countP_congr
  intro e he
  rw [h e he]
/-- A row more. -/
def PS.add (P : PS) (i : Nat) (t : PT) (e : Int) (v : List (List WI)) : PS :=
  ⟨P.tabs.set i { t with ents := t.ents ++ [e], vals := t.vals ++ [v] }, updP P.pl e (some ⟨i, some t.ents.length⟩)⟩
theorem PS.Ok.add {P : PS} {L L' : List Int} (h : P.Ok L) {i : Nat} {t : PT} (ht : P.tabs[i]? = some t) {e : Int} (he : e ∉ L) (hL : L'.Perm (e :: L)) (v : List (List WI)) : (P.add i t e v).Ok L' := by
  have hnd : (e :: L).Nodup := List.nodup_cons.2 ⟨he, h.nd⟩
  refine ⟨hL.symm.nodup hnd, fun x => ?_, fun x j r => ?_, fun x p hp => ?_, fun j u hu => ?_, fun u hu => ?_, ?_⟩
  · rw [hL.mem_iff, List.mem_cons, ← h.dom x]
    by_cases hx : x = e
    · subst hx; simp [PS.add, updP_same]
    · simp [PS.add, updP_ne hx, hx]
  · by_cases hx : x = e
    · subst hx
      simp only [PS.add, updP_same]
      constructor
      · intro hh
        cases hh
        exact ⟨_, set_same ht, by simp⟩
      · rintro ⟨u, hu, hr⟩
        rcases set_some hu with ⟨rfl, rfl, _⟩ | ⟨hj, hu⟩
        · rw [List.getElem?_append] at hr
          split at hr
          · exact absurd (h.isIn ((h.row x j r).2 ⟨t, ht, hr⟩)) he
          · rename_i hge
            rw [List.getElem?_cons] at hr
            split at hr
            · congr 3; omega
            · simp at hr
        · exact absurd (h.isIn ((h.row x j r).2 ⟨u, hu, hr⟩)) he
    · simp only [PS.add, updP_ne hx]
      rw [h.row x j r]
      constructor
      · rintro ⟨u, hu, hr⟩
        by_cases hj : j = i
        · subst hj
          rw [ht] at hu; cases hu
          exact ⟨_, set_same ht, by rw [List.getElem?_append_left (List.getElem?_eq_some_iff.1 hr).1]; exact hr⟩
        · exact ⟨u, by rw [set_other hj]; exact hu, hr⟩
      · rintro ⟨u, hu, hr⟩
        rcases set_some hu with ⟨rfl, rfl, _⟩ | ⟨hj, hu⟩
        · refine ⟨t, ht, ?_⟩
          rw [List.getElem?_append] at hr
          split at hr
          · exact hr
          · rw [List.getElem?_cons] at hr
            split at hr
            · cases hr; exact absurd rfl hx
            · simp at hr
        · exact ⟨u, hu, hr⟩
  · have hil := (List.getElem?_eq_some_iff.1 ht).1
    by_cases hx : x = e
    · subst hx
      simp only [PS.add, updP_same, Option.some.injEq] at hp
      subst hp
      simpa [PS.add] using hil
    · simp only [PS.add, updP_ne hx] at hp
      simpa [PS.add] using h.tab x p hp
  · have hc : ∀ j, L'.countP (fun x => decide ((P.add i t e v).pl x = some ⟨j, none⟩)) = L.countP (fun x => decide (P.pl x = some ⟨j, none⟩)) := by
      intro j
      rw [countP_perm hL, List.countP_cons]
      have h1 : decide ((P.add i t e v).pl e = some ⟨j, none⟩) = false := by simp [PS.add, updP_same]
      rw [h1]
      refine countP_same fun x hx => ?_
      have hxe : x ≠ e := fun e' => he (e' ▸ hx)
      simp only [PS.add, updP_ne hxe]
    rw [hc]
    rcases set_some hu with ⟨rfl, rfl, _⟩ | ⟨hj, hu⟩
    · exact h.kept j t ht
    · exact h.kept j u hu
  · rcases List.mem_or_eq_of_mem_set hu with hu | rfl
    · exact h.len u hu
    · have := h.len t (List.mem_of_getElem? ht)
      simp [this]
  · rw [show (P.add i t e v).tabs = P.tabs.set i _ from rfl, setsOf_set ht (by rfl)]
    exact h.sets
theorem PS.Ok.add_who {P : PS} {L : List Int} (h : P.Ok L) {i : Nat} {t : PT} (ht : P.tabs[i]? = some t) {e : Int} (v : List (List WI)) (x : Int) : (P.add i t e v).who x = if x = e then some ⟨t.set, some v⟩ else P.who x := by
  by_cases hx : x = e
  · subst hx
    rw [if_pos rfl, who_row (i := i) (r := t.ents.length) (by simp [PS.add, updP_same]) (set_same ht)]
    have := h.len t (List.mem_of_getElem? ht)
    simp [List.getD_eq_getElem?_getD, ← this]
  · rw [if_neg hx]
    have hp : (P.add i t e v).pl x = P.pl x := updP_ne hx
    cases hq : P.pl x with
    | none => rw [who_none hq, who_none (by rw [hp]; exact hq)]
    | some p =>
      obtain ⟨j, r⟩ := p
      obtain ⟨u, hu⟩ : ∃ u : PT, P.tabs[j]? = some u := ⟨_, List.getElem?_eq_getElem (h.tab x _ hq)⟩
      by_cases hj : j = i
      · subst hj
        rw [ht] at hu; cases hu
        cases r with
        | none => rw [who_kept hq ht, who_kept (by rw [hp]; exact hq) (set_same ht)]
        | some r =>
          rw [who_row hq ht, who_row (by rw [hp]; exact hq) (set_same ht)]
          obtain ⟨u, hu, hr⟩ := (h.row x j r).1 hq
          rw [ht] at hu; cases hu
          have h1 := (List.getElem?_eq_some_iff.1 hr).1
          have h2 := h.len t (List.mem_of_getElem? ht)
          simp only [List.getD_eq_getElem?_getD]
          rw [List.getElem?_append_left (by omega)]
      · have hu' : (P.add i t e v).tabs[j]? = some u := by rw [show (P.add i t e v).tabs = P.tabs.set i _ from rfl, set_other hj]; exact hu
        cases r with
        | none => rw [who_kept hq hu, who_kept (by rw [hp]; exact hq) hu']
        | some r => rw [who_row hq hu, who_row (by rw [hp]; exact hq) hu']
/-- Somebody more is awaited. -/
def PS.keep (P : PS) (i : Nat) (t : PT) (e : Int) : PS := ⟨P.tabs.set i { t with kept := t.kept + 1 }, updP P.pl e (some ⟨i, none⟩)⟩
theorem PS.Ok.keep {P : PS} {L L' : List Int} (h : P.Ok L) {i : Nat} {t : PT} (ht : P.tabs[i]? = some t) {e : Int} (he : e ∉ L) (hL : L'.Perm (e :: L)) : (P.keep i t e).Ok L' := by
  have hnd : (e :: L).Nodup := List.nodup_cons.2 ⟨he, h.nd⟩
  have hrow : ∀ (j r : Nat) (x : Int), (∃ u : PT, (P.keep i t e).tabs[j]? = some u ∧ u.ents[r]? = some x) ↔ ∃ u : PT, P.tabs[j]? = some u ∧ u.ents[r]? = some x := by
    intro j r x
    constructor
    · rintro ⟨u, hu, hr⟩
      rcases set_some hu with ⟨rfl, rfl, _⟩ | ⟨hj, hu⟩
      · exact ⟨t, ht, hr⟩
      · exact ⟨u, hu, hr⟩
    · rintro ⟨u, hu, hr⟩
      by_cases hj : j = i
      · subst hj
        rw [ht] at hu; cases hu
        exact ⟨_, set_same ht, hr⟩
      · exact ⟨u, (set_other hj).trans hu, hr⟩
  refine ⟨hL.symm.nodup hnd, fun x => ?_, fun x j r => ?_, fun x p hp => ?_, fun j u hu => ?_, fun u hu => ?_, ?_⟩
  · rw [hL.mem_iff, List.mem_cons, ← h.dom x]
    by_cases hx : x = e
    · subst hx; simp [PS.keep, updP_same]
    · simp [PS.keep, updP_ne hx, hx]
  · rw [hrow, ← h.row x j r]
    by_cases hx : x = e
    · subst hx
      simp [PS.keep, updP_same, h.noPl he]
    · simp only [PS.keep, updP_ne hx]
  · have hil := (List.getElem?_eq_some_iff.1 ht).1
    by_cases hx : x = e
    · subst hx
      simp only [PS.keep, updP_same, Option.some.injEq] at hp
      subst hp
      simpa [PS.keep] using hil
    · simp only [PS.keep, updP_ne hx] at hp
      simpa [PS.keep] using h.tab x p hp
  · have hc : L'.countP (fun x => decide ((P.keep i t e).pl x = some ⟨j, none⟩)) = L.countP (fun x => decide (P.pl x = some ⟨j, none⟩)) + if i = j then 1 else 0 := by
      rw [countP_perm hL, List.countP_cons]
      have h1 : decide ((P.keep i t e).pl e = some ⟨j, none⟩) = decide (i = j) := by simp [PS.keep, updP_same]
      rw [h1, countP_same (q := fun x => decide (P.pl x = some ⟨j, none⟩)) fun x hx => ?_]
      · simp
      · have hxe : x ≠ e := fun e' => he (e' ▸ hx)
        simp only [PS.keep, updP_ne hxe]
    rw [hc]
    rcases set_some hu with ⟨rfl, rfl, _⟩ | ⟨hj, hu⟩
    · rw [if_pos rfl, ← h.kept j t ht]
    · rw [if_neg (fun e => hj e.symm)]; exact h.kept j u hu
  · rcases List.mem_or_eq_of_mem_set hu with hu | rfl
    · exact h.len u hu
    · exact h.len t (List.mem_of_getElem? ht)
  · rw [show (P.keep i t e).tabs = P.tabs.set i _ from rfl, setsOf_set ht (by rfl)]
    exact h.sets
theorem who_eq {P Q : PS} {x : Int} (hp : Q.pl x = P.pl x) (ht : ∀ p t, P.pl x = some p → P.tabs[p.tab]? = some t → ∃ u, Q.tabs[p.tab]? = some u ∧ u.set = t.set ∧ ∀ r, p.row = some r → u.vals.getD r [] = t.vals.getD r []) (hn : ∀ p, P.pl x = some p → p.tab < P.tabs.length) : Q.who x = P.who x := by
  cases hq : P.pl x with
  | none => rw [who_none hq, who_none (hp.trans hq)]
  | some p =>
    obtain ⟨j, r⟩ := p
    obtain ⟨t, h1⟩ : ∃ t, P.tabs[j]? = some t := ⟨_, List.getElem?_eq_getElem (hn _ hq)⟩
    obtain ⟨u, h2, h3, h4⟩ := ht _ t hq h1
    cases r with
    | none => rw [who_kept hq h1, who_kept (hp.trans hq) h2, h3]
    | some r => rw [who_row hq h1, who_row (hp.trans hq) h2, h3, h4 r rfl]
end Go.Proofs.YtnhlnnehpmjeiaaGreatDoor
