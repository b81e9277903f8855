/- TableMoves: what the law's rounds keep. · The rows of the reference's table, as they lie. · Contract of the reference's Get. -/
import Derived.Test.YtoadihebdaooaaaGreatE34
import Derived.Test.YtoadihebdaooaaaGreatE21
import Derived.Test.YtoadihebdaooaaaGreatE33
namespace Go.Proofs.YtoadihebdaooaaaGreat
open Go.RowKit
open Go.Maps (Keyed int_keyed keyOf_int_mk)
set_option linter.unusedVariables false
/-- The map of what the entities of a table have. -/
structure HaveAt (w : World) (mb : Nat) (t : TD) (V : List (List (List WI))) (F : Lit → Option Value) : Prop where
  map : MapV Tryz.prog w 61 mb t.ents.length F
  none_ : ∀ e : Int, e ∉ t.ents → F (.int .u64 e) = none
  some_ : ∀ (k : Nat) (e : Int) (r : List (List WI)), t.ents[k]? = some e → V[k]? = some r → ∃ a c ps, F (.int .u64 e) = some (.slice a (rowCv t r).length c) ∧ PO 0 w a (rowCv t r).length c ps ∧ cv ps = rowCv t r
theorem HaveAt.out {w w' : World} {mb : Nat} {t : TD} {V : List (List (List WI))} {F : Lit → Option Value} {G : Nat → Prop} (h : HaveAt w mb t V F) (ho : Out G w w') (hm : ¬ G mb) (hM : ∀ b, G b → MutP w b) : HaveAt w' mb t V F :=
  ⟨h.map.out ho hm, h.none_, fun k e r he hr => by
    obtain ⟨a, c, ps, h1, h2, h3⟩ := h.some_ k e r he hr
    exact ⟨a, c, ps, h1, h2.out ho hM, h3⟩⟩
theorem mutP_map {w : World} {b : Nat} (h : ∃ es c, w.heap[b]? = some (.map es c)) : MutP w b := by
  obtain ⟨es, c, h⟩ := h
  intro cs t fr h'
  rw [h] at h'
  cases h'
theorem TabIn.foot_mutP {B : Nat} {w : World} {t : TD} (h : TabIn B w t) {b : Nat} (hb : t.foot b) : MutP w b := by
  rcases hb with rfl | hb | ⟨d, hd, hb⟩
  · intro cs ty fr h'
    rw [h.blk] at h'
    cases h'
    exact ⟨by decide, by decide⟩
  · obtain ⟨cur, hh⟩ := row_type h.entsR hb
    intro cs ty fr h'
    rw [hh] at h'
    cases h'
    exact ⟨by decide, by decide⟩
  · obtain ⟨cs, ty, fr, hh, ht⟩ := (h.colsA d hd).foot_ty hb
    intro cs' ty' fr' h'
    rw [hh] at h'
    cases h'
    rcases ht with rfl | rfl | rfl <;> exact ⟨by decide, by decide⟩
theorem TabIn.foot_map {B : Nat} {w : World} {t : TD} (h : TabIn B w t) {b : Nat} (hb : ∃ es c, w.heap[b]? = some (.map es c)) : ¬ t.foot b := by
  obtain ⟨es, c, hm⟩ := hb
  rintro (rfl | hb | ⟨d, hd, hb⟩)
  · rw [h.blk] at hm; cases hm
  · obtain ⟨cur, hh⟩ := row_type h.entsR hb
    rw [hh] at hm; cases hm
  · obtain ⟨cs, ty, fr, hh, ht⟩ := (h.colsA d hd).foot_ty hb
    rw [hh] at hm; cases hm
/-- A table with its values, and the map (of the table t0 with values V0). -/
structure MvS (w0 : World) (TB mb : Nat) (t : TD) (V : List (List (List WI))) (t0 : TD) (V0 : List (List (List WI))) (F : Lit → Option Value) (w : World) : Prop where
  tab : TabIn TB w t
  tb : t.tb = TB
  vals : Vals t V
  have_ : HaveAt w mb t0 V0 F
  bel : Below w0.heap.size w0 w
  le : w0.heap.size ≤ TB
  lm : w0.heap.size ≤ mb
section
variable {w0 w : World} {TB mb : Nat} {t t0 : TD} {V V0 : List (List (List WI))} {F : Lit → Option Value}
theorem MvS.next (h : MvS w0 TB mb t V t0 V0 F w) {w' : World} {t' : TD} {V' : List (List (List WI))} (ho : Out t.foot w w') (ht : TabIn TB w' t') (h1 : t'.tb = t.tb) (hv : Vals t' V') : MvS w0 TB mb t' V' t0 V0 F w' :=
  ⟨ht, h1.trans h.tb, hv, h.have_.out ho (h.tab.foot_map h.have_.map.obj) (fun b hb => h.tab.foot_mutP hb), h.bel.trans (ho.below (fun b hb => Nat.le_trans h.le (h.tab.foot_ge hb).1) h.bel.size), h.le, h.lm⟩
theorem MvS.below (h : MvS w0 TB mb t V t0 V0 F w) {w' : World} (hb : Below w.heap.size w w') : MvS w0 TB mb t V t0 V0 F w' := h.next (Out.of hb) (h.tab.below hb) rfl h.vals
theorem MvS.parts (h : MvS w0 TB mb t V t0 V0 F w) {pa : Option Addr} {pl pc : Nat} {ps : List PW} (hp : PartsAt w0.heap.size w0 pa pl pc ps) : ∀ w', Out t.cfoot w w' → PartsAt w'.heap.size w' pa pl pc ps := by
  intro w' ho
  have hb : Below w0.heap.size w w' := ho.below (fun b hb => Nat.le_trans h.le (h.tab.foot_ge (TabIn.cfoot_foot hb)).1) h.bel.size
  have := h.bel.trans hb
  exact (hp.below this).mono this.size
/-- The map is stored into. -/
theorem MvS.stored (h : MvS w0 TB mb t V t0 V0 F w) {w' : World} (hg : w.grownBy w' (some mb)) {t1 : TD} {V1 : List (List (List WI))} {F1 : Lit → Option Value} (hh : HaveAt w' mb t1 V1 F1) : MvS w0 TB mb t V t1 V1 F1 w' := by
  have ho : Out (fun b => b = mb) w w' := ⟨hg.os, hg.tape, hg.output, hg.size, fun k hk hn => hg.block k hk (fun e => hn (by cases e; rfl))⟩
  have hnf := h.tab.foot_map h.have_.map.obj
  obtain ⟨es, c, hm⟩ := h.have_.map.obj
  refine ⟨h.tab.out ho (fun b hb hbm => hnf (by cases hbm; exact hb)) (fun b hb => by
    cases hb
    intro cs ty fr h'
    rw [hm] at h'
    cases h'), h.tb, h.vals, hh, h.bel.trans (ho.below (fun b hb => by cases hb; exact h.lm) h.bel.size), h.le, h.lm⟩
end
theorem Out.one {w w' : World} {mb : Nat} (hg : w.grownBy w' (some mb)) : Out (fun b => b = mb) w w' := ⟨hg.os, hg.tape, hg.output, hg.size, fun k hk hn => hg.block k hk (fun e => hn (by cases e; rfl))⟩
theorem po_stored {B : Nat} {w w' : World} {mb : Nat} {a : Option Addr} {n c : Nat} {ps : List PW} (h : PO B w a n c ps) (hg : w.grownBy w' (some mb)) (hm : ∃ es c, w.heap[mb]? = some (.map es c)) : PO B w' a n c ps :=
  h.out (Out.one hg) (fun b hb => by cases hb; exact mutP_map hm)
/-- A row more. -/
theorem HaveAt.add {w w' : World} {mb : Nat} {t t' : TD} {V : List (List (List WI))} {F : Lit → Option Value} (h : HaveAt w mb t V F) (hvl : V.length = t.ents.length) {e : Int} {r : List (List WI)} {a : Option Addr} {c : Nat} {ps : List PW} (h1 : t'.ents = t.ents ++ [e]) (h2 : t'.cps = t.cps) (hn : e ∉ t.ents)
    (hm : MapV Tryz.prog w' 61 mb (if (F (.int .u64 e)).isSome then t.ents.length else t.ents.length + 1) (putV F (.int .u64 e) (.slice a (rowCv t' r).length c))) (hg : w.grownBy w' (some mb)) (hp : PO 0 w' a (rowCv t' r).length c ps) (hcv : cv ps = rowCv t' r) :
    HaveAt w' mb t' (V ++ [r]) (putV F (.int .u64 e) (.slice a (rowCv t' r).length c)) := by
  have hr : ∀ q, rowCv t' q = rowCv t q := fun q => by unfold rowCv; rw [h2]
  refine ⟨?_, fun x hx => ?_, fun k x q hk hq => ?_⟩
  · rw [h.none_ e hn] at hm
    rw [h1]
    simpa using hm
  · rw [h1] at hx
    simp only [List.mem_append, List.mem_singleton, not_or] at hx
    rw [putV_ne (fun he => hx.2 (by cases he; rfl))]
    exact h.none_ x hx.1
  · rw [h1] at hk
    rcases Nat.lt_or_ge k t.ents.length with hlt | hge
    · rw [List.getElem?_append_left hlt] at hk
      rw [List.getElem?_append_left (by omega)] at hq
      obtain ⟨a', c', ps', g1, g2, g3⟩ := h.some_ k x q hk hq
      have hxe : x ≠ e := fun he => hn (he ▸ List.mem_of_getElem? hk)
      rw [putV_ne (fun he => hxe (by cases he; rfl)), hr]
      exact ⟨a', c', ps', g1, po_stored g2 hg h.map.obj, g3⟩
    · have hkl := (List.getElem?_eq_some_iff.1 hk).1
      simp at hkl
      obtain rfl : k = t.ents.length := by omega
      rw [List.getElem?_append_right (Nat.le_refl _), Nat.sub_self] at hk
      rw [List.getElem?_append_right (by omega), hvl, Nat.sub_self] at hq
      simp at hk hq
      subst hk hq
      rw [putV_same]
      exact ⟨a, c, ps, rfl, hp, hcv⟩
/-- A row less. -/
theorem HaveAt.drop {w w' : World} {mb : Nat} {t t' : TD} {V : List (List (List WI))} {F : Lit → Option Value} (h : HaveAt w mb t V F) {r m : Nat} {x y : Int} {vl : List (List WI)} (hrm : r ≤ m) (hm : t.ents.length = m + 1) (hx : t.ents[r]? = some x) (hy : t.ents[m]? = some y) (hl : V[m]? = some vl) (hnd : t.ents.Nodup)
    (h1 : t'.ents = (t.ents.set r y).take m) (h2 : t'.cps = t.cps) (hmap : MapV Tryz.prog w' 61 mb (if (F (.int .u64 x)).isSome then t.ents.length - 1 else t.ents.length) (delV F (.int .u64 x))) (hg : w.grownBy w' (some mb)) (hrl : V[r]?.isSome) :
    HaveAt w' mb t' ((V.set r vl).take m) (delV F (.int .u64 x)) := by
  have hr : ∀ q, rowCv t' q = rowCv t q := fun q => by unfold rowCv; rw [h2]
  have hpair : ∀ (i j : Nat) (z : Int), t.ents[i]? = some z → t.ents[j]? = some z → i = j := by
    intro i j z hi hj
    have hil := (List.getElem?_eq_some_iff.1 hi).1
    exact (List.getElem?_inj hil hnd).1 (hi.trans hj.symm)
  have hxs : (F (.int .u64 x)).isSome = true := by
    obtain ⟨q, hq⟩ := Option.isSome_iff_exists.1 hrl
    obtain ⟨a, c, ps, g1, _⟩ := h.some_ r x q hx hq
    rw [g1]; rfl
  have hent : ∀ (k : Nat) (z : Int), t'.ents[k]? = some z → k < m ∧ ∃ j : Nat, t.ents[j]? = some z ∧ z ≠ x ∧ ∀ q, ((V.set r vl).take m)[k]? = some q → V[j]? = some q := by
    intro k z hz
    rw [h1] at hz
    obtain ⟨hkm, hc⟩ := set_take_at hz
    refine ⟨hkm, ?_⟩
    rcases hc with ⟨rfl, rfl⟩ | ⟨hne, hk⟩
    · refine ⟨m, hy, fun he => ?_, fun q hq => ?_⟩
      · subst he
        have := hpair _ _ _ hx hy
        omega
      · obtain ⟨_, ⟨_, rfl⟩ | ⟨h3, _⟩⟩ := set_take_at hq
        · exact hl
        · exact absurd rfl h3
    · refine ⟨k, hk, fun he => ?_, fun q hq => ?_⟩
      · subst he
        exact hne (hpair _ _ _ hk hx)
      · obtain ⟨_, ⟨h3, _⟩ | ⟨_, h3⟩⟩ := set_take_at hq
        · exact absurd h3 hne
        · exact h3
  refine ⟨?_, fun z hz => ?_, fun k z q hk hq => ?_⟩
  · rw [if_pos hxs] at hmap
    rw [h1]
    rw [List.length_take, List.length_set, hm]
    rw [hm] at hmap
    simpa using hmap
  · by_cases he : z = x
    · subst he
      exact delV_same _ _
    · rw [delV_ne (fun e => he (by cases e; rfl))]
      refine h.none_ z (fun hmem => hz ?_)
      obtain ⟨j, hj⟩ := List.getElem?_of_mem hmem
      rw [h1]
      have hjl := (List.getElem?_eq_some_iff.1 hj).1
      by_cases hjm : j = m
      · subst hjm
        obtain rfl : z = y := by rw [hy] at hj; cases hj; rfl
        have hrj : r ≠ j := fun e => he (by subst e; rw [hx] at hj; cases hj; rfl)
        exact List.mem_of_getElem? (i := r) (by rw [List.getElem?_take, if_pos (by omega), List.getElem?_set, if_pos rfl, if_pos (by omega)])
      · have hrj : r ≠ j := fun e => he (by subst e; rw [hx] at hj; cases hj; rfl)
        exact List.mem_of_getElem? (i := j) (by rw [List.getElem?_take, if_pos (by omega), List.getElem?_set, if_neg hrj]; exact hj)
  · obtain ⟨hkm, j, hj, hne, hv⟩ := hent k z hk
    obtain ⟨a', c', ps', g1, g2, g3⟩ := h.some_ j z q hj (hv q hq)
    rw [delV_ne (fun e => hne (by cases e; rfl)), hr]
    exact ⟨a', c', ps', g1, po_stored g2 hg h.map.obj, g3⟩
/-- Another row. -/
theorem HaveAt.put {w w' : World} {mb : Nat} {t t' : TD} {V : List (List (List WI))} {F : Lit → Option Value} (h : HaveAt w mb t V F) {k : Nat} {x : Int} {r : List (List WI)} {a : Option Addr} {c : Nat} {ps : List PW} (hx : t.ents[k]? = some x) (hk : V[k]?.isSome) (hnd : t.ents.Nodup) (h1 : t'.ents = t.ents) (h2 : t'.cps = t.cps)
    (hm : MapV Tryz.prog w' 61 mb (if (F (.int .u64 x)).isSome then t.ents.length else t.ents.length + 1) (putV F (.int .u64 x) (.slice a (rowCv t' r).length c))) (hg : w.grownBy w' (some mb)) (hp : PO 0 w' a (rowCv t' r).length c ps) (hcv : cv ps = rowCv t' r) :
    HaveAt w' mb t' (V.set k r) (putV F (.int .u64 x) (.slice a (rowCv t' r).length c)) := by
  have hr : ∀ q, rowCv t' q = rowCv t q := fun q => by unfold rowCv; rw [h2]
  have hxs : (F (.int .u64 x)).isSome = true := by
    obtain ⟨q, hq⟩ := Option.isSome_iff_exists.1 hk
    obtain ⟨a, c, ps, g1, _⟩ := h.some_ k x q hx hq
    rw [g1]; rfl
  refine ⟨?_, fun z hz => ?_, fun j z q hj hq => ?_⟩
  · rw [if_pos hxs] at hm
    rw [h1]
    exact hm
  · rw [h1] at hz
    rw [putV_ne (fun e => hz (by cases e; exact List.mem_of_getElem? hx))]
    exact h.none_ z hz
  · rw [h1] at hj
    rcases set_at hq with ⟨rfl, rfl⟩ | ⟨hne, hq⟩
    · obtain rfl : z = x := by rw [hx] at hj; cases hj; rfl
      rw [putV_same]
      exact ⟨a, c, ps, rfl, hp, hcv⟩
    · have hzx : z ≠ x := fun e => hne (by
        subst e
        have hil := (List.getElem?_eq_some_iff.1 hj).1
        exact (List.getElem?_inj hil hnd).1 (hj.trans hx.symm))
      obtain ⟨a', c', ps', g1, g2, g3⟩ := h.some_ j z q hj hq
      rw [putV_ne (fun e => hzx (by cases e; rfl)), hr]
      exact ⟨a', c', ps', g1, po_stored g2 hg h.map.obj, g3⟩
end Go.Proofs.YtoadihebdaooaaaGreat
namespace Go.Proofs.YtoadihebdaooaaaGreat
open Go.RowKit
set_option linter.unusedVariables false
structure URow where
  e : Int
  pa : Option Addr
  pn : Nat
  pc : Nat
  ps : List PW
def urowL (r : URow) : List Value := [.int .u64 r.e, .slice r.pa r.pn r.pc]
theorem urowL_at : ∀ (l : List URow) (i : Nat) (r : URow), l[i]? = some r → (l.flatMap urowL)[i * 2]? = some (.int .u64 r.e) ∧ (l.flatMap urowL)[i * 2 + 1]? = some (.slice r.pa r.pn r.pc)
  | [], _, _, h => by simp at h
  | y :: l, 0, r, h => by
    simp at h
    subst h
    exact ⟨rfl, rfl⟩
  | y :: l, i + 1, r, h => by
    obtain ⟨h1, h2⟩ := urowL_at l i r (by simpa using h)
    rw [show (i + 1) * 2 = i * 2 + 2 by omega]
    exact ⟨h1, h2⟩
/-- Rows with all their memory, at or above block B. -/
structure RU (B : Nat) (w : World) (a : Option Addr) (n c : Nat) (rs : List URow) : Prop where
  row : w.ownsRow B 173 2 (.slice a n c) n (rs.flatMap urowL)
  parts : ∀ r ∈ rs, PO B w r.pa r.pn r.pc r.ps
  len : rs.length = n
theorem RU.below {B : Nat} {w w' : World} {a : Option Addr} {n c : Nat} {rs : List URow} (h : RU B w a n c rs) (hb : Below w.heap.size w w') : RU B w' a n c rs :=
  ⟨ownsRow_below h.row hb, fun r hr => (h.parts r hr).below hb, h.len⟩
theorem RU.mono {B B' : Nat} {w : World} {a : Option Addr} {n c : Nat} {rs : List URow} (h : RU B w a n c rs) (hb : B' ≤ B) : RU B' w a n c rs :=
  ⟨ownsRow_mono h.row hb, fun r hr => (h.parts r hr).mono hb, h.len⟩
/-- Blocks that aren't of such rows. -/
def MutU (w : World) (b : Nat) : Prop := ∀ cs t fr, w.heap[b]? = some (.cells cs t fr) → t ≠ 85 ∧ t ≠ 148 ∧ t ≠ 173
theorem RU.out {B : Nat} {w w' : World} {F : Nat → Prop} {a : Option Addr} {n c : Nat} {rs : List URow} (h : RU B w a n c rs) (ho : Out F w w') (hM : ∀ b, F b → MutU w b) : RU B w' a n c rs := by
  refine ⟨ownsRow_out h.row ho (fun x hx hF => ?_), fun r hr => (h.parts r hr).out ho (fun b hb cs t fr h' => ⟨(hM b hb cs t fr h').1, (hM b hb cs t fr h').2.1⟩), h.len⟩
  obtain ⟨cur, hc⟩ := row_type h.row hx
  exact (hM x hF _ _ _ hc).2.2 rfl
theorem TabIn.foot_mutU {B : Nat} {w : World} {t : TD} (h : TabIn B w t) {b : Nat} (hb : t.foot b) : MutU w b := by
  rcases hb with rfl | hb | ⟨d, hd, hb⟩
  · intro cs ty fr h'
    rw [h.blk] at h'
    cases h'
    exact ⟨by decide, by decide, by decide⟩
  · obtain ⟨cur, hh⟩ := row_type h.entsR hb
    intro cs ty fr h'
    rw [hh] at h'
    cases h'
    exact ⟨by decide, by decide, by decide⟩
  · obtain ⟨cs, ty, fr, hh, ht⟩ := (h.colsA d hd).foot_ty hb
    intro cs' ty' fr' h'
    rw [hh] at h'
    cases h'
    rcases ht with rfl | rfl | rfl <;> exact ⟨by decide, by decide, by decide⟩
end Go.Proofs.YtoadihebdaooaaaGreat
namespace Go.Proofs.YtoadihebdaooaaaGreat
open Go.RowKit
set_option linter.unusedVariables false
theorem partIx_cases (id : Int) : ∀ (l : List Int) (k : Nat), partIx id k l = -1 ∨ ∃ j, j < l.length ∧ l[j]? = some id ∧ partIx id k l = ((k + j : Nat) : Int)
  | [], _ => .inl rfl
  | x :: r, k => by
    unfold partIx
    by_cases h : x = id
    · exact .inr ⟨0, by simp, by simp [h], by rw [if_pos h]; simp⟩
    · rw [if_neg h]
      rcases partIx_cases id r (k + 1) with h1 | ⟨j, h1, h2, h3⟩
      · exact .inl h1
      · exact .inr ⟨j + 1, by simp; omega, by simpa using h2, by rw [h3]; congr 1; omega⟩
section
variable {u : UD} {ids : List Int} {rs : List URow} {w : World}
set_option maxRecDepth 100000 in
theorem get16_no3 (row id : Int) (hl : u.ln ≤ 1000) (hr : ¬ (0 ≤ row ∧ row < u.ln)) : Calls Tryz.prog 52 #[u.v, .int .i64 row, .int .i64 id] w fun e w' => e = .returned (.tuple #[.slice none 0 0, .int .i64 3]) ∧ Below w.heap.size w w' := by
  obtain ⟨ver, ca, cl, cc, ia, il, ic, most, kept, la, ln, lc⟩ := u
  dsimp only [UD.v] at *
  have hb0 : Below w.heap.size w (w.alloc (.cells #[.int .i64 ver, .slice ca cl cc, .slice ia il ic, .int .i64 most, .int .i64 kept, .slice la ln lc] 99)) := by go_grown
  by_cases h0 : row < 0
  · have e1 : decide (row < 0) = true := by simp; exact h0
    clear hr h0
    go_enter Tryz.func52, Tryz.ntmps52
    go_wp2_with fail
    go_ret2
    exact ⟨rfl, hb0⟩
  · have e1 : decide (row < 0) = false := by simp; omega
    have e2 : decide ((ln : Int) ≤ row) = true := by simp; omega
    clear hr h0
    go_enter Tryz.func52, Tryz.ntmps52
    go_wp2_with fail
    go_ret2
    exact ⟨rfl, hb0⟩
set_option maxRecDepth 100000 in
theorem get16_row (row : Nat) (id : Int) (r : URow) (hi : w.ownsRow 0 3 1 (.slice u.ia u.il u.ic) u.il (ids.map (.int .i64))) (hli : ids.length = u.il) (hb : u.il ≤ 1000) (hl : u.ln ≤ 1000) (hR : RU 0 w u.la u.ln u.lc rs) (hr : rs[row]? = some r) (hrp : r.ps.length = ids.length) :
    Calls Tryz.prog 52 #[u.v, .int .i64 (row : Int), .int .i64 id] w fun e w' => Below w.heap.size w w' ∧ ((partIx id 0 ids = -1 ∧ e = .returned (.tuple #[.slice none 0 0, .int .i64 6])) ∨ ∃ (k : Nat) (p : PW), ids[k]? = some id ∧ partIx id 0 ids = k ∧ r.ps[k]? = some p ∧ e = .returned (.tuple #[.slice p.va p.vl p.vc, .int .i64 0])) := by
  have hrl : row < u.ln := by rw [← hR.len]; exact (List.getElem?_eq_some_iff.1 hr).1
  obtain ⟨ver, ca, cl, cc, ia, il, ic, most, kept, la, ln, lc⟩ := u
  dsimp only at *
  have hb0 : Below w.heap.size w (w.alloc (.cells #[.int .i64 ver, .slice ca cl cc, .slice ia il ic, .int .i64 most, .int .i64 kept, .slice la ln lc] 99)) := by go_grown
  have hU := heap_alloc_new w (.cells #[.int .i64 ver, .slice ca cl cc, .slice ia il ic, .int .i64 most, .int .i64 kept, .slice la ln lc] 99)
  have HPT := Lib.hid (fun W (hW : Below w.heap.size w W) => part16_any ⟨ver, ca, cl, cc, ia, il, ic, most, kept, la, ln, lc⟩ ids id W (ownsRow_below hi hW) hli hb)
  have HH := Lib.hid (And.intro hU (And.intro hb0 (hR.below hb0)))
  have HR := Lib.hid (And.intro hr (And.intro hrp hli))
  have e1 : decide ((row : Int) < 0) = false := by simp
  have e2 : decide ((ln : Int) ≤ (row : Int)) = false := by simp; omega
  have i1 : (0 : Int) ≤ (row : Int) := by omega
  have i2 : (row : Int) < (ln : Int) := by omega
  clear hU hb0 hi hli hR hr hrp
  dsimp only [UD.v]
  go_enter Tryz.func52, Tryz.ntmps52
  go_wp2_with fail
  have hpt := HPT.out _ HH.out.2.1
  dsimp only [UD.v] at hpt
  generalize w.alloc (.cells #[.int .i64 ver, .slice ca cl cc, .slice ia il ic, .int .i64 most, .int .i64 kept, .slice la ln lc] 99) = W at *
  refine hpt.mono ?_
  clear hpt HPT
  rintro e w1 ⟨rfl, hb1⟩
  have HB1 := Lib.hid (HH.out.2.1.trans (hb1.mono HH.out.2.1.size))
  have HU1 := Lib.hid (keep hb1 HH.out.1)
  have HR1 := Lib.hid (HH.out.2.2.below hb1)
  clear hb1
  rcases partIx_cases id ids 0 with hx | ⟨k, hk, hkx, hx⟩
  · rw [hx]
    go_wp2_with fail
    go_ret2
    exact ⟨HB1.out, .inl ⟨hx, rfl⟩⟩
  · rw [Nat.zero_add] at hx
    rw [hx]
    obtain ⟨p, hp⟩ : ∃ p, r.ps[k]? = some p := ⟨_, List.getElem?_eq_getElem (by rw [HR.out.2.1]; exact hk)⟩
    have c4 := cell_at HU1.out 5
    simp at c4
    obtain ⟨q, rfl, _, hql, hqc⟩ := row_block HR1.out.row (by omega)
    obtain ⟨g0, g1⟩ := urowL_at rs row r HR.out.1
    have z1 := hqc _ _ g1
    have hpo := HR1.out.parts r (List.mem_of_getElem? HR.out.1)
    have hpn : k < r.pn := by rw [← hpo.len, HR.out.2.1]; exact hk
    obtain ⟨q2, hq2, _, hql2, hqc2⟩ := row_block hpo.row (by omega)
    obtain ⟨k0, k1⟩ := partL_at r.ps k p hp
    have z2 := hqc2 _ _ k1
    rw [hq2] at z1
    have j1 : (0 : Int) ≤ (k : Int) := by omega
    have j2 : (k : Int) < (r.pn : Int) := by omega
    have hul := lt_some HU1.out
    have HPP := Lib.hid (And.intro hkx hp)
    have HPX := Lib.hid hx
    clear hqc g0 g1 hqc2 k0 k1 hpo hkx hp hx
    go_wp2_with fail
    go_ret2
    exact ⟨HB1.out, .inr ⟨k, p, HPP.out.1, HPX.out, HPP.out.2, rfl⟩⟩
end
end Go.Proofs.YtoadihebdaooaaaGreat
