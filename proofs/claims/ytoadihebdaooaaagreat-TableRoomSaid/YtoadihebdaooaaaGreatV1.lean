/- A table's readers, Keep, Yield, check. -/
import Derived.Test.YtoadihebdaooaaaGreatV0
namespace Go.Proofs.YtoadihebdaooaaaGreat
open Go.RowKit
set_option linter.unusedVariables false
def TD.free (t : TD) : Nat := t.most - t.ents.length - t.kept
section
variable {B : Nat} {w : World} {t : TD}
theorem TabIn.cells (h : TabIn B w t) : w.cell? ⟨t.tb, 0, none⟩ = some (.int .i64 t.ver) ∧ w.cell? ⟨t.tb, 1, none⟩ = some (.slice t.ca t.cps.length t.cc) ∧ w.cell? ⟨t.tb, 2, none⟩ = some (.int .u32 t.set) ∧ w.cell? ⟨t.tb, 3, none⟩ = some (.int .i64 (t.most : Int)) ∧ w.cell? ⟨t.tb, 4, none⟩ = some (.int .i64 (t.kept : Int)) ∧ w.cell? ⟨t.tb, 5, none⟩ = some (.slice t.ea t.ents.length t.ec) ∧ w.cell? ⟨t.tb, 6, none⟩ = some (.slice t.la t.cps.length t.lc) ∧ ∀ o, w.frozen? ⟨t.tb, o, none⟩ = false := by
  have hb := h.blk
  refine ⟨?_, ?_, ?_, ?_, ?_, ?_, ?_, fun o => free_at hb o⟩ <;> (rw [cell_at hb]; rfl)
/-- One cell of the table's own block is stored. -/
theorem TabIn.kept' (h : TabIn B w t) {k : Nat} (hk : t.ents.length + k ≤ t.most) : TabIn B (w.setCell ⟨t.tb, 4, none⟩ (.int .i64 (k : Int))) { t with kept := k } := by
  have ho := Only.at w t.tb 4 (.int .i64 (k : Int))
  have h2 : ∀ x, x ≠ t.tb → (w.setCell ⟨t.tb, 4, none⟩ (.int .i64 (k : Int))).heap[x]? = w.heap[x]? := fun x hx => ho.block x hx
  have hout : Out (fun b => b = t.tb) w (w.setCell ⟨t.tb, 4, none⟩ (.int .i64 (k : Int))) := Out.only ho rfl
  have hM : ∀ b, b = t.tb → Mut w b := fun b hb => h.foot_mut (.inl hb)
  refine ⟨by simpa using hset w t.tb 4 (.int .i64 (k : Int)) _ _ _ h.blk, ownsRow_out h.comps hout (row_mut h.comps (.inl rfl) hM), ownsRow_out h.colsR hout (row_mut h.colsR (.inr (.inl rfl)) hM), fun x hx => (h.fields x hx).out hout hM,
    ownsRow_out h.entsR hout (fun x hx e => ?_), h.hB, h.len, h.col, fun d hd => (h.colsA d hd).out hout (fun b hb e => ?_), h.apart, h.lay, h.n24, h.most1, h.most2, hk, h.set0, h.set1, h.ids⟩
  · subst e
    exact ownsRow_ne_block3 h.entsR h.blk (fun cur he => by cases he) hx.symm
  · subst e
    obtain ⟨cs, ty, fr, hh, ht⟩ := (h.colsA d hd).foot_ty hb
    have hb' : w.heap[t.tb]? = _ := h.blk
    rw [hb'] at hh
    cases hh
    rcases ht with ht | ht | ht <;> cases ht
theorem tabLen_in (h : TabIn B w t) : Calls Tryz.prog 28 #[.pointer (some ⟨t.tb, 0, none⟩)] w fun e w' => e = .returned (.int .i64 (t.ents.length : Int)) ∧ w = w' := by
  obtain ⟨_, _, _, _, _, c5, _, _⟩ := h.cells
  clear h
  go_enter Tryz.func28, Tryz.ntmps28
  go_wp2_with fail
  go_returns
  exact ⟨rfl, rfl⟩
theorem tabKept_in (h : TabIn B w t) : Calls Tryz.prog 37 #[.pointer (some ⟨t.tb, 0, none⟩)] w fun e w' => e = .returned (.int .i64 (t.kept : Int)) ∧ w = w' := by
  obtain ⟨_, _, _, _, c4, _, _, _⟩ := h.cells
  clear h
  go_enter Tryz.func37, Tryz.ntmps37
  go_wp2_with fail
  go_returns
  exact ⟨rfl, rfl⟩
theorem tabSig_in (h : TabIn B w t) : Calls Tryz.prog 27 #[.pointer (some ⟨t.tb, 0, none⟩)] w fun e w' => e = .returned (.int .u32 t.set) ∧ w = w' := by
  obtain ⟨_, _, c2, _, _, _, _, _⟩ := h.cells
  clear h
  go_enter Tryz.func27, Tryz.ntmps27
  go_wp2_with fail
  go_returns
  exact ⟨rfl, rfl⟩
set_option maxRecDepth 100000 in
theorem tabRoom_in (h : TabIn B w t) : Calls Tryz.prog 29 #[.pointer (some ⟨t.tb, 0, none⟩)] w fun e w' => e = .returned (.int .i64 (t.free : Int)) ∧ ∃ n, w' = w.drewN n := by
  obtain ⟨_, _, _, c3, c4, c5, _, _⟩ := h.cells
  have h1 := h.most2
  have h2 := h.room
  clear h
  have e1 : IntKind.i64.wrap ((t.most : Int) - (t.ents.length : Int)) = (t.most : Int) - (t.ents.length : Int) := IntWalk.i64_in _ (by omega)
  have e2 : IntKind.i64.wrap ((t.most : Int) - (t.ents.length : Int) - (t.kept : Int)) = (t.free : Int) := by rw [IntWalk.i64_in _ (by omega)]; unfold TD.free; omega
  generalize t.ents.length = n at *
  generalize t.free = f at *
  go_enter Tryz.func29, Tryz.ntmps29
  go_wp2_with fail
  go_quiet (fail)
  go_wp2_with fail
  go_returns
  exact ⟨rfl, _, rfl⟩
set_option maxRecDepth 100000 in
theorem tabKeep_in (h : TabIn B w t) : Calls Tryz.prog 35 #[.pointer (some ⟨t.tb, 0, none⟩)] w fun e w' => e = .returned (.int .i64 (if t.free = 0 then 5 else 0)) ∧ TabIn B w' (if t.free = 0 then t else { t with kept := t.kept + 1 }) ∧ Out t.foot w w' := by
  have hr := Lib.hid (tabRoom_in h)
  have h1 := h.most2
  have h2 := h.room
  by_cases h0 : t.free = 0
  · have e1 : ((t.free : Int) == 0) = true := by rw [h0]; rfl
    rw [if_pos h0, if_pos h0]
    have HH := Lib.hid h
    clear h h0
    go_enter Tryz.func35, Tryz.ntmps35
    go_wp2_with fail
    refine hr.out.mono ?_
    rintro e w1 ⟨rfl, n, rfl⟩
    go_wp2_with fail
    go_returns
    exact ⟨rfl, HH.out.drewN n, (Out.refl _ _).drewN n⟩
  · have e1 : ((t.free : Int) == 0) = false := by rw [beq_eq_false_iff_ne]; omega
    have hk : t.ents.length + (t.kept + 1) ≤ t.most := by unfold TD.free at h0; omega
    rw [if_neg h0, if_neg h0]
    have hfin : ∀ n, TabIn B ((w.drewN n).setCell ⟨t.tb, 4, none⟩ (.int .i64 ((t.kept + 1 : Nat) : Int))) { t with kept := t.kept + 1 } := fun n => (h.drewN n).kept' hk
    have HF := Lib.hid hfin
    obtain ⟨_, _, _, _, c4, _, _, f⟩ := h.cells
    have f4 := f 4
    have k1 : t.kept ≤ 256 := by omega
    clear h h0 hk hfin f
    go_enter Tryz.func35, Tryz.ntmps35
    go_wp2_with fail
    refine hr.out.mono ?_
    rintro e w1 ⟨rfl, n, rfl⟩
    go_wp2_with fail
    go_returns
    refine ⟨rfl, ?_, ?_⟩
    · have := HF.out n
      simpa using this
    · have := Out.trans (F := t.foot) (G := t.foot) ((Out.refl _ w).drewN n) (Out.only (Only.at (w.drewN n) t.tb 4 (.int .i64 ((t.kept : Int) + 1))) (.inl rfl)) (fun x h => .inl h)
      simpa using this
set_option maxRecDepth 100000 in
theorem tabYield_in (h : TabIn B w t) : Calls Tryz.prog 36 #[.pointer (some ⟨t.tb, 0, none⟩)] w fun e w' => e = .returned (.int .i64 (if t.kept = 0 then 6 else 0)) ∧ TabIn B w' (if t.kept = 0 then t else { t with kept := t.kept - 1 }) ∧ Out t.foot w w' := by
  have h1 := h.most2
  have h2 := h.room
  obtain ⟨_, _, _, _, c4, _, _, f⟩ := h.cells
  have f4 := f 4
  clear f
  by_cases h0 : t.kept = 0
  · have e1 : ((t.kept : Int) == 0) = true := by rw [h0]; rfl
    rw [if_pos h0, if_pos h0]
    have HH := Lib.hid h
    clear h h0
    go_enter Tryz.func36, Tryz.ntmps36
    go_wp2_with fail
    go_returns
    exact ⟨rfl, HH.out, Out.refl _ _⟩
  · have e1 : ((t.kept : Int) == 0) = false := by rw [beq_eq_false_iff_ne]; omega
    have hk : t.ents.length + (t.kept - 1) ≤ t.most := by omega
    have e2 : IntKind.i64.wrap ((t.kept : Int) - 1) = ((t.kept - 1 : Nat) : Int) := by rw [IntWalk.i64_in _ (by omega)]; omega
    rw [if_neg h0, if_neg h0]
    have HF := Lib.hid (h.kept' hk)
    clear h h0 hk
    go_enter Tryz.func36, Tryz.ntmps36
    go_wp2_with fail
    go_returns
    exact ⟨rfl, HF.out, Out.only (Only.at w t.tb 4 _) (.inl rfl)⟩
theorem tabAt_in (h : TabIn B w t) (i : Int) : Calls Tryz.prog 79 #[.pointer (some ⟨t.tb, 0, none⟩), .int .i64 i] w fun e w' => e = .returned (.int .i64 (if 0 ≤ i ∧ i < t.ents.length then 0 else 3)) ∧ w = w' := by
  obtain ⟨_, _, _, _, _, c5, _, _⟩ := h.cells
  clear h
  generalize t.ents.length = n at *
  by_cases h0 : 0 ≤ i
  · by_cases h1 : i < n
    · have e1 : decide (i < 0) = false := by simp; omega
      have e2 : decide ((n : Int) ≤ i) = false := by simp; omega
      rw [if_pos ⟨h0, h1⟩]
      go_enter Tryz.func79, Tryz.ntmps79
      go_wp2_with fail
      go_returns
      exact ⟨rfl, rfl⟩
    · have e1 : decide (i < 0) = false := by simp; omega
      have e2 : decide ((n : Int) ≤ i) = true := by simp; omega
      rw [if_neg (fun h => h1 h.2)]
      go_enter Tryz.func79, Tryz.ntmps79
      go_wp2_with fail
      go_returns
      exact ⟨rfl, rfl⟩
  · have e1 : decide (i < 0) = true := by simp; omega
    rw [if_neg (fun h => h0 h.1)]
    go_enter Tryz.func79, Tryz.ntmps79
    go_wp2_with fail
    go_returns
    exact ⟨rfl, rfl⟩
/-- What is wrong with a new row. -/
def addErr (t : TD) (e : Int) (ps : List PW) : Int :=
  if e = 0 then 1 else if (partsF ps).2 ≠ 0 ∨ (partsF ps).1 ≠ t.set then 4 else if cpsGo t.cs [] ps ≠ 0 then cpsGo t.cs [] ps else if t.free = 0 then 5 else 0
set_option maxRecDepth 100000 in
set_option maxHeartbeats 1000000 in
theorem tabCheck_in (h : TabIn B w t) (e : Int) (ps : List PW) (pa : Option Addr) (pl pc : Nat) (hps : PartsAt w.heap.size w pa pl pc ps) (hl : pl ≤ 100000) :
    Calls Tryz.prog 67 #[.pointer (some ⟨t.tb, 0, none⟩), .int .u64 e, .slice pa pl pc] w fun en w' => en = .returned (.int .i64 (addErr t e ps)) ∧ Below w.heap.size w w' := by
  by_cases h0 : e = 0
  · have e1 : (e == 0) = true := by simp [h0]
    have HR := Lib.hid (show (1 : Int) = addErr t e ps by unfold addErr; rw [if_pos h0])
    clear h h0 hps
    go_enter Tryz.func67, Tryz.ntmps67
    go_wp2_with fail
    go_returns
    exact ⟨ret_intk HR.out, Below.refl _ _⟩
  · have e1 : (e == 0) = false := by simp [h0]
    have HH := Lib.hid h
    have HP := Lib.hid hps
    have H0 := Lib.hid h0
    clear h hps h0
    obtain ⟨s, hs⟩ : ∃ s, (partsF ps).1 = s := ⟨_, rfl⟩
    obtain ⟨f, hf⟩ : ∃ f, (partsF ps).2 = f := ⟨_, rfl⟩
    go_enter Tryz.func67, Tryz.ntmps67
    go_wp2_with fail
    refine (sigParts_any ps _ _ _ _ HP.out hl).mono ?_
    rintro en w1 ⟨rfl, hb1⟩
    rw [hs, hf]
    have HS := Lib.hid (And.intro hs hf)
    have h1 := HH.out.below hb1
    obtain ⟨c0, c1, c2, c3, c4, c5, c6, _⟩ := h1.cells
    have H1 := Lib.hid h1
    have HB1 := Lib.hid hb1
    clear hs hf h1 hb1
    by_cases hb : f ≠ 0 ∨ s ≠ t.set
    · have HR := Lib.hid (show (4 : Int) = addErr t e ps by unfold addErr; rw [if_neg H0.out, HS.out.1, HS.out.2, if_pos hb])
      by_cases hf0 : f = 0
      · have e2 : (f != 0) = false := by simp [hf0]
        have e3 : (s != t.set) = true := by rcases hb with h | h; · contradiction
                                            · rw [bne_iff_ne]; exact h
        clear hb hf0
        go_wp2_with fail
        go_returns
        exact ⟨ret_intk HR.out, HB1.out⟩
      · have e2 : (f != 0) = true := by rw [bne_iff_ne]; exact hf0
        clear hb hf0
        go_wp2_with fail
        go_returns
        exact ⟨ret_intk HR.out, HB1.out⟩
    · have e2 : (f != 0) = false := by
        have : f = 0 := Classical.byContradiction (fun h => hb (.inl h))
        simp [this]
      have e3 : (s != t.set) = false := by
        have : s = t.set := Classical.byContradiction (fun h => hb (.inr h))
        simp [this]
      have HNB := Lib.hid hb
      clear hb
      go_wp2_with fail
      refine (checkParts_any t.ver t.cs _ _ _ ps _ _ _ _ H1.out.compsAt H1.out.fields8 ((HP.out.below HB1.out).mono HB1.out.size)).mono ?_
      rintro en w2 ⟨rfl, hb2⟩
      have HB2 := Lib.hid (HB1.out.trans (hb2.mono HB1.out.size))
      have H2 := Lib.hid (H1.out.below hb2)
      obtain ⟨r, hr⟩ : ∃ r, cpsGo t.cs [] ps = r := ⟨_, rfl⟩
      rw [hr]
      clear hb2
      by_cases hr0 : r = 0
      · have e4 : (r != 0) = false := by simp [hr0]
        have HRR := Lib.hid (And.intro hr hr0)
        clear hr hr0
        go_wp2_with fail
        refine (tabRoom_in H2.out).mono ?_
        rintro en w3 ⟨rfl, n, rfl⟩
        by_cases hfr : t.free = 0
        · have e5 : ((t.free : Int) == 0) = true := by rw [hfr]; rfl
          have HR := Lib.hid (show (5 : Int) = addErr t e ps by unfold addErr; rw [if_neg H0.out, HS.out.1, HS.out.2, if_neg HNB.out, HRR.out.1, if_neg (by simp [HRR.out.2]), if_pos hfr])
          clear hfr
          go_wp2_with fail
          go_returns
          exact ⟨ret_intk HR.out, below_drewN HB2.out _⟩
        · have e5 : ((t.free : Int) == 0) = false := by rw [beq_eq_false_iff_ne]; omega
          have HR := Lib.hid (show (0 : Int) = addErr t e ps by unfold addErr; rw [if_neg H0.out, HS.out.1, HS.out.2, if_neg HNB.out, HRR.out.1, if_neg (by simp [HRR.out.2]), if_neg hfr])
          clear hfr
          go_wp2_with fail
          go_returns
          exact ⟨ret_intk HR.out, below_drewN HB2.out _⟩
      · have e4 : (r != 0) = true := by rw [bne_iff_ne]; exact hr0
        have HR := Lib.hid (show r = addErr t e ps by unfold addErr; rw [if_neg H0.out, HS.out.1, HS.out.2, if_neg HNB.out, hr, if_pos hr0])
        clear hr hr0
        go_wp2_with fail
        go_returns
        exact ⟨ret_intk HR.out, HB2.out⟩
end
end Go.Proofs.YtoadihebdaooaaaGreat
