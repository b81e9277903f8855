/- A table's readers, Keep, Yield, check. · Plain: a row that may be added has a fitting part for each component. · What table.Add keeps, round by round. -/
import Derived.Test.YthmpknlgkflhiabGreatQ15
namespace Go.Proofs.YthmpknlgkflhiabGreat
open Go.RowKit
set_option linter.unusedVariables false
def TD.free (t : TD) : Nat := t.most - t.ents.length - t.kept
section
variable {B : Nat} {w : World} {t : TD}
theorem TabIn.cells (h : TabIn B w t) : w.cell? ⟨t.tb, 0, none⟩ = some (.int .i64 t.ver) ∧ w.cell? ⟨t.tb, 1, none⟩ = some (.slice t.ca t.cps.length t.cc) ∧ w.cell? ⟨t.tb, 2, none⟩ = some (.int .u32 t.set) ∧ w.cell? ⟨t.tb, 3, none⟩ = some (.int .i64 (t.most : Int)) ∧ w.cell? ⟨t.tb, 4, none⟩ = some (.int .i64 (t.kept : Int)) ∧ w.cell? ⟨t.tb, 5, none⟩ = some (.slice t.ea t.ents.length t.ec) ∧ w.cell? ⟨t.tb, 6, none⟩ = some (.slice t.la t.cps.length t.lc) ∧ ∀ o, w.frozen? ⟨t.tb, o, none⟩ = false := by
  have hb := h.blk
  refine ⟨?_, ?_, ?_, ?_, ?_, ?_, ?_, fun o => free_at hb o⟩ <;> (rw [cell_at hb]; rfl)
/-- One cell of the table's own block is stored. -/
theorem TabIn.kept' (h : TabIn B w t) {k : Nat} (hk : t.ents.length + k ≤ t.most) : TabIn B (w.setCell ⟨t.tb, 4, none⟩ (.int .i64 (k : Int))) { t with kept := k } := by
  have ho := Only.at w t.tb 4 (.int .i64 (k : Int))
  have h2 : ∀ x, x ≠ t.tb → (w.setCell ⟨t.tb, 4, none⟩ (.int .i64 (k : Int))).heap[x]? = w.heap[x]? := fun x hx => ho.block x hx
  have hout : Out (fun b => b = t.tb) w (w.setCell ⟨t.tb, 4, none⟩ (.int .i64 (k : Int))) := Out.only ho rfl
  have hM : ∀ b, b = t.tb → Mut w b := fun b hb => h.foot_mut (.inl hb)
  refine ⟨by simpa using hset w t.tb 4 (.int .i64 (k : Int)) _ _ _ h.blk, ownsRow_out h.comps hout (row_mut h.comps (.inl rfl) hM), ownsRow_out h.colsR hout (row_mut h.colsR (.inr (.inl rfl)) hM), fun x hx => (h.fields x hx).out hout hM,
    ownsRow_out h.entsR hout (fun x hx e => ?_), h.hB, h.len, h.col, fun d hd => (h.colsA d hd).out hout (fun b hb e => ?_), h.apart, h.lay, h.n24, h.most1, h.most2, hk, h.set0, h.set1, h.ids⟩
  · subst e
    exact ownsRow_ne_block3 h.entsR h.blk (fun cur he => by cases he) hx.symm
  · subst e
    obtain ⟨cs, ty, fr, hh, ht⟩ := (h.colsA d hd).foot_ty hb
    have hb' : w.heap[t.tb]? = _ := h.blk
    rw [hb'] at hh
    cases hh
    rcases ht with ht | ht | ht <;> cases ht
theorem tabLen_in (h : TabIn B w t) : Calls Tryz.prog 55 #[.pointer (some ⟨t.tb, 0, none⟩)] w fun e w' => e = .returned (.int .i64 (t.ents.length : Int)) ∧ w = w' := by
  obtain ⟨_, _, _, _, _, c5, _, _⟩ := h.cells
  clear h
  go_enter Tryz.func55, Tryz.ntmps55
  go_wp2_with fail
  go_returns
  exact ⟨rfl, rfl⟩
theorem tabKept_in (h : TabIn B w t) : Calls Tryz.prog 56 #[.pointer (some ⟨t.tb, 0, none⟩)] w fun e w' => e = .returned (.int .i64 (t.kept : Int)) ∧ w = w' := by
  obtain ⟨_, _, _, _, c4, _, _, _⟩ := h.cells
  clear h
  go_enter Tryz.func56, Tryz.ntmps56
  go_wp2_with fail
  go_returns
  exact ⟨rfl, rfl⟩
theorem tabSig_in (h : TabIn B w t) : Calls Tryz.prog 50 #[.pointer (some ⟨t.tb, 0, none⟩)] w fun e w' => e = .returned (.int .u32 t.set) ∧ w = w' := by
  obtain ⟨_, _, c2, _, _, _, _, _⟩ := h.cells
  clear h
  go_enter Tryz.func50, Tryz.ntmps50
  go_wp2_with fail
  go_returns
  exact ⟨rfl, rfl⟩
set_option maxRecDepth 100000 in
theorem tabRoom_in (h : TabIn B w t) : Calls Tryz.prog 77 #[.pointer (some ⟨t.tb, 0, none⟩)] w fun e w' => e = .returned (.int .i64 (t.free : Int)) ∧ ∃ n, w' = w.drewN n := by
  obtain ⟨_, _, _, c3, c4, c5, _, _⟩ := h.cells
  have h1 := h.most2
  have h2 := h.room
  clear h
  have e1 : IntKind.i64.wrap ((t.most : Int) - (t.ents.length : Int)) = (t.most : Int) - (t.ents.length : Int) := IntWalk.i64_in _ (by omega)
  have e2 : IntKind.i64.wrap ((t.most : Int) - (t.ents.length : Int) - (t.kept : Int)) = (t.free : Int) := by rw [IntWalk.i64_in _ (by omega)]; unfold TD.free; omega
  generalize t.ents.length = n at *
  generalize t.free = f at *
  go_enter Tryz.func77, Tryz.ntmps77
  go_wp2_with fail
  go_quiet (fail)
  go_wp2_with fail
  go_returns
  exact ⟨rfl, _, rfl⟩
set_option maxRecDepth 100000 in
theorem tabKeep_in (h : TabIn B w t) : Calls Tryz.prog 65 #[.pointer (some ⟨t.tb, 0, none⟩)] w fun e w' => e = .returned (.int .i64 (if t.free = 0 then 5 else 0)) ∧ TabIn B w' (if t.free = 0 then t else { t with kept := t.kept + 1 }) ∧ Out t.foot w w' := by
  have hr := Lib.hid (tabRoom_in h)
  have h1 := h.most2
  have h2 := h.room
  by_cases h0 : t.free = 0
  · have e1 : ((t.free : Int) == 0) = true := by rw [h0]; rfl
    rw [if_pos h0, if_pos h0]
    have HH := Lib.hid h
    clear h h0
    go_enter Tryz.func65, Tryz.ntmps65
    go_wp2_with fail
    refine hr.out.mono ?_
    rintro e w1 ⟨rfl, n, rfl⟩
    go_wp2_with fail
    go_returns
    exact ⟨rfl, HH.out.drewN n, (Out.refl _ _).drewN n⟩
  · have e1 : ((t.free : Int) == 0) = false := by rw [beq_eq_false_iff_ne]; omega
    have hk : t.ents.length + (t.kept + 1) ≤ t.most := by unfold TD.free at h0; omega
    rw [if_neg h0, if_neg h0]
    have hfin : ∀ n, TabIn B ((w.drewN n).setCell ⟨t.tb, 4, none⟩ (.int .i64 ((t.kept + 1 : Nat) : Int))) { t with kept := t.kept + 1 } := fun n => (h.drewN n).kept' hk
    have HF := Lib.hid hfin
    obtain ⟨_, _, _, _, c4, _, _, f⟩ := h.cells
    have f4 := f 4
    have k1 : t.kept ≤ 256 := by omega
    clear h h0 hk hfin f
    go_enter Tryz.func65, Tryz.ntmps65
    go_wp2_with fail
    refine hr.out.mono ?_
    rintro e w1 ⟨rfl, n, rfl⟩
    go_wp2_with fail
    go_returns
    refine ⟨rfl, ?_, ?_⟩
    · have := HF.out n
      simpa using this
    · have := Out.trans (F := t.foot) (G := t.foot) ((Out.refl _ w).drewN n) (Out.only (Only.at (w.drewN n) t.tb 4 (.int .i64 ((t.kept : Int) + 1))) (.inl rfl)) (fun x h => .inl h)
      simpa using this
set_option maxRecDepth 100000 in
theorem tabYield_in (h : TabIn B w t) : Calls Tryz.prog 64 #[.pointer (some ⟨t.tb, 0, none⟩)] w fun e w' => e = .returned (.int .i64 (if t.kept = 0 then 6 else 0)) ∧ TabIn B w' (if t.kept = 0 then t else { t with kept := t.kept - 1 }) ∧ Out t.foot w w' := by
  have h1 := h.most2
  have h2 := h.room
  obtain ⟨_, _, _, _, c4, _, _, f⟩ := h.cells
  have f4 := f 4
  clear f
  by_cases h0 : t.kept = 0
  · have e1 : ((t.kept : Int) == 0) = true := by rw [h0]; rfl
    rw [if_pos h0, if_pos h0]
    have HH := Lib.hid h
    clear h h0
    go_enter Tryz.func64, Tryz.ntmps64
    go_wp2_with fail
    go_returns
    exact ⟨rfl, HH.out, Out.refl _ _⟩
  · have e1 : ((t.kept : Int) == 0) = false := by rw [beq_eq_false_iff_ne]; omega
    have hk : t.ents.length + (t.kept - 1) ≤ t.most := by omega
    have e2 : IntKind.i64.wrap ((t.kept : Int) - 1) = ((t.kept - 1 : Nat) : Int) := by rw [IntWalk.i64_in _ (by omega)]; omega
    rw [if_neg h0, if_neg h0]
    have HF := Lib.hid (h.kept' hk)
    clear h h0 hk
    go_enter Tryz.func64, Tryz.ntmps64
    go_wp2_with fail
    go_returns
    exact ⟨rfl, HF.out, Out.only (Only.at w t.tb 4 _) (.inl rfl)⟩
theorem tabAt_in (h : TabIn B w t) (i : Int) : Calls Tryz.prog 71 #[.pointer (some ⟨t.tb, 0, none⟩), .int .i64 i] w fun e w' => e = .returned (.int .i64 (if 0 ≤ i ∧ i < t.ents.length then 0 else 3)) ∧ w = w' := by
  obtain ⟨_, _, _, _, _, c5, _, _⟩ := h.cells
  clear h
  generalize t.ents.length = n at *
  by_cases h0 : 0 ≤ i
  · by_cases h1 : i < n
    · have e1 : decide (i < 0) = false := by simp; omega
      have e2 : decide ((n : Int) ≤ i) = false := by simp; omega
      rw [if_pos ⟨h0, h1⟩]
      go_enter Tryz.func71, Tryz.ntmps71
      go_wp2_with fail
      go_returns
      exact ⟨rfl, rfl⟩
    · have e1 : decide (i < 0) = false := by simp; omega
      have e2 : decide ((n : Int) ≤ i) = true := by simp; omega
      rw [if_neg (fun h => h1 h.2)]
      go_enter Tryz.func71, Tryz.ntmps71
      go_wp2_with fail
      go_returns
      exact ⟨rfl, rfl⟩
  · have e1 : decide (i < 0) = true := by simp; omega
    rw [if_neg (fun h => h0 h.1)]
    go_enter Tryz.func71, Tryz.ntmps71
    go_wp2_with fail
    go_returns
    exact ⟨rfl, rfl⟩
/-- What is wrong with a new row. -/
def addErr (t : TD) (e : Int) (ps : List PW) : Int :=
  if e = 0 then 1 else if (partsF ps).2 ≠ 0 ∨ (partsF ps).1 ≠ t.set then 4 else if cpsGo t.cs [] ps ≠ 0 then cpsGo t.cs [] ps else if t.free = 0 then 5 else 0
set_option maxRecDepth 100000 in
set_option maxHeartbeats 1000000 in
theorem tabCheck_in (h : TabIn B w t) (e : Int) (ps : List PW) (pa : Option Addr) (pl pc : Nat) (hps : PartsAt w.heap.size w pa pl pc ps) (hl : pl ≤ 100000) :
    Calls Tryz.prog 79 #[.pointer (some ⟨t.tb, 0, none⟩), .int .u64 e, .slice pa pl pc] w fun en w' => en = .returned (.int .i64 (addErr t e ps)) ∧ Below w.heap.size w w' := by
  by_cases h0 : e = 0
  · have e1 : (e == 0) = true := by simp [h0]
    have HR := Lib.hid (show (1 : Int) = addErr t e ps by unfold addErr; rw [if_pos h0])
    clear h h0 hps
    go_enter Tryz.func79, Tryz.ntmps79
    go_wp2_with fail
    go_returns
    exact ⟨ret_intk HR.out, Below.refl _ _⟩
  · have e1 : (e == 0) = false := by simp [h0]
    have HH := Lib.hid h
    have HP := Lib.hid hps
    have H0 := Lib.hid h0
    clear h hps h0
    obtain ⟨s, hs⟩ : ∃ s, (partsF ps).1 = s := ⟨_, rfl⟩
    obtain ⟨f, hf⟩ : ∃ f, (partsF ps).2 = f := ⟨_, rfl⟩
    go_enter Tryz.func79, Tryz.ntmps79
    go_wp2_with fail
    refine (sigParts_any ps _ _ _ _ HP.out hl).mono ?_
    rintro en w1 ⟨rfl, hb1⟩
    rw [hs, hf]
    have HS := Lib.hid (And.intro hs hf)
    have h1 := HH.out.below hb1
    obtain ⟨c0, c1, c2, c3, c4, c5, c6, _⟩ := h1.cells
    have H1 := Lib.hid h1
    have HB1 := Lib.hid hb1
    clear hs hf h1 hb1
    by_cases hb : f ≠ 0 ∨ s ≠ t.set
    · have HR := Lib.hid (show (4 : Int) = addErr t e ps by unfold addErr; rw [if_neg H0.out, HS.out.1, HS.out.2, if_pos hb])
      by_cases hf0 : f = 0
      · have e2 : (f != 0) = false := by simp [hf0]
        have e3 : (s != t.set) = true := by rcases hb with h | h; · contradiction
                                            · rw [bne_iff_ne]; exact h
        clear hb hf0
        go_wp2_with fail
        go_returns
        exact ⟨ret_intk HR.out, HB1.out⟩
      · have e2 : (f != 0) = true := by rw [bne_iff_ne]; exact hf0
        clear hb hf0
        go_wp2_with fail
        go_returns
        exact ⟨ret_intk HR.out, HB1.out⟩
    · have e2 : (f != 0) = false := by
        have : f = 0 := Classical.byContradiction (fun h => hb (.inl h))
        simp [this]
      have e3 : (s != t.set) = false := by
        have : s = t.set := Classical.byContradiction (fun h => hb (.inr h))
        simp [this]
      have HNB := Lib.hid hb
      clear hb
      go_wp2_with fail
      refine (checkParts_any t.ver t.cs _ _ _ ps _ _ _ _ H1.out.compsAt H1.out.fields8 ((HP.out.below HB1.out).mono HB1.out.size)).mono ?_
      rintro en w2 ⟨rfl, hb2⟩
      have HB2 := Lib.hid (HB1.out.trans (hb2.mono HB1.out.size))
      have H2 := Lib.hid (H1.out.below hb2)
      obtain ⟨r, hr⟩ : ∃ r, cpsGo t.cs [] ps = r := ⟨_, rfl⟩
      rw [hr]
      clear hb2
      by_cases hr0 : r = 0
      · have e4 : (r != 0) = false := by simp [hr0]
        have HRR := Lib.hid (And.intro hr hr0)
        clear hr hr0
        go_wp2_with fail
        refine (tabRoom_in H2.out).mono ?_
        rintro en w3 ⟨rfl, n, rfl⟩
        by_cases hfr : t.free = 0
        · have e5 : ((t.free : Int) == 0) = true := by rw [hfr]; rfl
          have HR := Lib.hid (show (5 : Int) = addErr t e ps by unfold addErr; rw [if_neg H0.out, HS.out.1, HS.out.2, if_neg HNB.out, HRR.out.1, if_neg (by simp [HRR.out.2]), if_pos hfr])
          clear hfr
          go_wp2_with fail
          go_returns
          exact ⟨ret_intk HR.out, below_drewN HB2.out _⟩
        · have e5 : ((t.free : Int) == 0) = false := by rw [beq_eq_false_iff_ne]; omega
          have HR := Lib.hid (show (0 : Int) = addErr t e ps by unfold addErr; rw [if_neg H0.out, HS.out.1, HS.out.2, if_neg HNB.out, HRR.out.1, if_neg (by simp [HRR.out.2]), if_neg hfr])
          clear hfr
          go_wp2_with fail
          go_returns
          exact ⟨ret_intk HR.out, below_drewN HB2.out _⟩
      · have e4 : (r != 0) = true := by rw [bne_iff_ne]; exact hr0
        have HR := Lib.hid (show r = addErr t e ps by unfold addErr; rw [if_neg H0.out, HS.out.1, HS.out.2, if_neg HNB.out, hr, if_pos hr0])
        clear hr hr0
        go_wp2_with fail
        go_returns
        exact ⟨ret_intk HR.out, HB2.out⟩
end
end Go.Proofs.YthmpknlgkflhiabGreat
namespace Go.Proofs.YthmpknlgkflhiabGreat
open Go.RowKit
set_option linter.unusedVariables false
theorem withNat {s n : Nat} (hs : s < 4294967296) (h1 : 1 ≤ n) (h2 : n ≤ 24) : sWith (s : Int) (n : Int) = ((s ||| 2 ^ n : Nat) : Int) := by
 have hp : 2 ^ n < 4294967296 := by
  have : 2 ^ n ≤ 2 ^ 24 := Nat.pow_le_pow_right (by omega) h2
  omega
 unfold sWith
 rw [idB_true (by omega) (by omega), Int.toNat_natCast]
 have e : ((2 : Int) ^ n % 4294967296) = ((2 ^ n : Nat) : Int) := by
  have : ((2 : Int) ^ n) = ((2 ^ n : Nat) : Int) := by simp
  have hq : ((2 ^ n : Nat) : Int) < 4294967296 := by have := Int.ofNat_lt.2 hp; exact this
  rw [this]; exact Int.emod_eq_of_lt (Int.natCast_nonneg _) hq
 rw [e]
 simp only [if_true]
 exact u32_or_nat _ _ hs hp
theorem idNat {c : Int} (h : idB c = true) : ∃ n : Nat, c = n ∧ 1 ≤ n ∧ n ≤ 24 := by
 simp [idB] at h
 exact ⟨c.toNat, by omega, by omega, by omega⟩
theorem has_with {s c n : Int} (h0 : 0 ≤ s) (h1 : s ≤ 4294967295) (hc : idB c = true) (hn : idB n = true) : hasB (sWith s c) n = (decide (n = c) || hasB s n) := by
 obtain ⟨x, rfl⟩ := Int.eq_ofNat_of_zero_le h0
 obtain ⟨c, rfl, c1, c2⟩ := idNat hc
 obtain ⟨n, rfl, n1, n2⟩ := idNat hn
 have hx : x < 4294967296 := by omega
 have hp : 2 ^ c < 4294967296 := by
  have : 2 ^ c ≤ 2 ^ 24 := Nat.pow_le_pow_right (by omega) c2
  omega
 rw [withNat hx c1 c2, hasBit (Nat.or_lt_two_pow (n := 32) hx hp) n1 n2, hasBit hx n1 n2, Nat.testBit_or, Nat.testBit_two_pow, Bool.or_comm]
 congr 1
 by_cases h : c = n
 ·simp [h]
 ·simp [h]; omega
theorem has_zero (n : Int) : hasB 0 n = false := by
 cases h : idB n with
 | false => unfold hasB; rw [h]; rfl
 | true =>
  obtain ⟨n, rfl, n1, n2⟩ := idNat h
  have := hasBit (s := 0) (by decide) n1 n2
  rw [show ((0 : Nat) : Int) = 0 from rfl] at this
  rw [this]; simp
theorem has_fold {n : Int} (hn : idB n = true) : ∀ (ids : List Int), ids.all idB = true → hasB (foldS ids) n = decide (n ∈ ids) := by
 intro ids
 have : ∀ (m : Nat), m ≤ ids.length → ids.all idB = true → hasB (foldS (ids.take m)) n = decide (n ∈ ids.take m) := by
  intro m
  induction m with
  | zero => intro _ _; simp [foldS, has_zero]
  | succ m ih =>
   intro hm hall
   obtain ⟨x, hx⟩ : ∃ x, ids[m]? = some x := ⟨_, List.getElem?_eq_getElem (by omega)⟩
   obtain ⟨b0, b1⟩ := foldS_bd (ids.take m)
   have hxi : idB x = true := by rw [List.all_eq_true] at hall; exact hall x (List.mem_of_getElem? hx)
   rw [take_snoc hx, foldS_snoc, has_with b0 b1 hxi hn, ih (by omega) hall]
   by_cases h1 : n = x <;> by_cases h2 : n ∈ ids.take m <;> simp [h1, h2]
 intro hall
 have := this ids.length (Nat.le_refl _) hall
 rw [List.take_length] at this
 exact this
theorem idsTo_mem {s i : Int} (h : i ∈ idsTo s 24) : hasB s i = true ∧ idB i = true := by
 unfold idsTo at h
 rw [List.mem_filter] at h
 refine ⟨h.2, ?_⟩
 obtain ⟨j, hj, rfl⟩ := List.mem_map.1 h.1
 have := List.mem_range.1 hj
 exact idB_true (by omega) (by omega)
theorem idsTo_nodup (s : Int) (m : Nat) : (idsTo s m).Nodup := by
 unfold idsTo
 have h : (((List.range m).map fun (j : Nat) => (j : Int) + 1)).Nodup := by
  unfold List.Nodup
  rw [List.pairwise_map]
  have hr : List.Pairwise (fun a b => a ≠ b) (List.range m) := List.nodup_range
  exact hr.imp (fun {a b} h => by omega)
 exact h.sublist List.filter_sublist
theorem cpsGo_zero (cs : List Cmp) : ∀ (ps seen : List PW), cpsGo cs seen ps = 0 → ∀ p ∈ ps, cpF cs p = 0
 | [], _, _, p, h => by cases h
 | q :: r, seen, h, p, hp => by
  unfold cpsGo at h
  split at h
  ·cases h
  ·split at h
   ·rename_i h1; exact absurd h h1
   ·rename_i h1
    rcases List.mem_cons.1 hp with rfl | hp
    ·exact Classical.byContradiction h1
    ·exact cpsGo_zero cs r _ h p hp
theorem find_id {cps : List CV} (hn : (cps.map (·.c.id)).Nodup) {x : CV} (hx : x ∈ cps) : findC x.c.id (cps.map (·.c)) = some x.c := by
 unfold findC
 induction cps with
 | nil => cases hx
 | cons y r ih =>
  rw [List.map_cons, List.nodup_cons] at hn
  rw [List.map_cons, List.find?_cons]
  rcases List.mem_cons.1 hx with rfl | hx
  ·simp
  ·have : ¬ y.c.id = x.c.id := fun e => hn.1 (by rw [e]; exact List.mem_map_of_mem (f := (·.c.id)) hx)
   simp only [this, decide_false]
   exact ih hn.2 hx
def partOf (ps : List PW) (id : Int) : Option PW := ps.find? fun c => decide (c.comp = id)
def rowOf (ps : List PW) (x : CV) : List UInt8 := packF x.c.fields (match partOf ps x.c.id with | some p => p.val | none => [])
theorem add_ok {t : TD} {e : Int} {ps : List PW} (hids : t.cps.map (·.c.id) = idsTo t.set 24) (h : addErr t e ps = 0) : t.free ≠ 0 ∧ ∀ x ∈ t.cps, ∃ p, partOf ps x.c.id = some p ∧ p ∈ ps ∧ p.comp = x.c.id ∧ fitF x.c.fields p.val = 0 ∧ rowOf ps x = packF x.c.fields p.val := by
 unfold addErr at h
 split at h
 ·cases h
 ·split at h
  ·cases h
  ·rename_i _ h1
   split at h
   ·rename_i h2; exact absurd h h2
   ·rename_i h2
    split at h
    ·cases h
    ·rename_i h3
     refine ⟨h3, fun x hx => ?_⟩
     have hp2 : (partsF ps).2 = 0 := Classical.byContradiction (fun hh => h1 (.inl hh))
     have hp1 : (partsF ps).1 = t.set := Classical.byContradiction (fun hh => h1 (.inr hh))
     have h2' : cpsGo t.cs [] ps = 0 := Classical.byContradiction h2
     have hmem : x.c.id ∈ idsTo t.set 24 := by rw [← hids]; exact List.mem_map_of_mem (f := (·.c.id)) hx
     obtain ⟨hb, hi⟩ := idsTo_mem hmem
     have hall : (comps ps).all idB = true := by
      unfold partsF at hp2
      split at hp2
      ·rename_i hh; exact hh
      ·cases hp2
     have hfold : foldS (comps ps) = t.set := by
      unfold partsF at hp1 hp2
      rw [if_pos hall] at hp1 hp2
      split at hp1
      ·exact hp1
      ·rename_i hh; rw [if_neg hh] at hp2; cases hp2
     have hin : x.c.id ∈ comps ps := by
      have := has_fold hi (comps ps) hall
      rw [hfold, hb] at this
      simpa using this.symm
     unfold comps at hin
     obtain ⟨q, hq, hqc⟩ := List.mem_map.1 hin
     have hs : (partOf ps x.c.id).isSome = true := by
      unfold partOf
      rw [List.find?_isSome]
      exact ⟨q, hq, by simp [hqc]⟩
     obtain ⟨p, hp⟩ := Option.isSome_iff_exists.1 hs
     have hpm : p ∈ ps := List.mem_of_find?_eq_some hp
     have hpc : p.comp = x.c.id := by have := List.find?_some hp; simpa using this
     refine ⟨p, hp, hpm, hpc, ?_, by unfold rowOf; rw [hp]⟩
     have hcp := cpsGo_zero t.cs ps [] h2' p hpm
     unfold cpF at hcp
     rw [hpc] at hcp
     have := find_id (by rw [hids]; exact idsTo_nodup _ _) hx
     unfold TD.cs at hcp
     rw [this] at hcp
     exact hcp
end Go.Proofs.YthmpknlgkflhiabGreat
namespace Go.Proofs.YthmpknlgkflhiabGreat
open Go.RowKit
set_option linter.unusedVariables false
theorem colL_at (l : List CV) {k : Nat} {y : CV} (h : l[k]? = some y) : (l.flatMap colL)[k * 4]? = some (.int .i64 y.c.id) ∧ (l.flatMap colL)[k * 4 + 1]? = some (.string y.c.name) ∧ (l.flatMap colL)[k * 4 + 2]? = some (.slice y.fa y.fl y.fc) ∧ (l.flatMap colL)[k * 4 + 3]? = some (.pointer (some ⟨y.cb, 0, none⟩)) := by
 induction l generalizing k with
 | nil => cases h
 | cons x r ih =>
  cases k with
  | zero => cases h; simp [colL]
  | succ k =>
   have hr := ih (k := k) (by simpa using h)
   have e : ((x :: r).flatMap colL) = colL x ++ r.flatMap colL := by simp
   have hl : (colL x).length = 4 := rfl
   rw [e]
   refine ⟨?_, ?_, ?_, ?_⟩
   ·rw [List.getElem?_append_right (by omega), hl, show (k + 1) * 4 - 4 = k * 4 by omega]; exact hr.1
   ·rw [List.getElem?_append_right (by omega), hl, show (k + 1) * 4 + 1 - 4 = k * 4 + 1 by omega]; exact hr.2.1
   ·rw [List.getElem?_append_right (by omega), hl, show (k + 1) * 4 + 2 - 4 = k * 4 + 2 by omega]; exact hr.2.2.1
   ·rw [List.getElem?_append_right (by omega), hl, show (k + 1) * 4 + 3 - 4 = k * 4 + 3 by omega]; exact hr.2.2.2
def TD.cfoot (t : TD) (b : Nat) : Prop := ∃ d ∈ t.cols, d.foot b
structure ColsS (B : Nat) (w0 : World) (t : TD) (G : Nat → CD → CD → Prop) (k : Nat) (D : List CD) (w : World) : Prop where
 len : D.length = t.cols.length
 done : ∀ (i : Nat) (d : CD), i < k → t.cols[i]? = some d → ∃ d', D[i]? = some d' ∧ G i d d'
 rest : ∀ i, k ≤ i → D[i]? = t.cols[i]?
 colsA : ∀ (i : Nat) (d : CD), D[i]? = some d → ColAt B w d
 apart : ∀ (i j : Nat) (d e : CD), i ≠ j → D[i]? = some d → D[j]? = some e → ∀ b, d.foot b → ¬ e.foot b
 foot : ∀ (i : Nat) (d : CD), D[i]? = some d → ∀ b, d.foot b → t.cfoot b ∨ w0.heap.size ≤ b
 out : Out t.cfoot w0 w
theorem ColsS.start {B : Nat} {w : World} {t : TD} (h : TabIn B w t) (G : Nat → CD → CD → Prop) : ColsS B w t G 0 t.cols w :=
 ⟨rfl, fun i d hi => absurd hi (Nat.not_lt_zero _), fun i _ => rfl, fun i d hd => h.colsA d (List.mem_of_getElem? hd), h.apart, fun i d hd b hb => .inl ⟨d, List.mem_of_getElem? hd, hb⟩, Out.refl _ _⟩
theorem ColsS.below {B : Nat} {w0 w w1 : World} {t : TD} {G : Nat → CD → CD → Prop} {k : Nat} {D : List CD} (h : ColsS B w0 t G k D w) (hb : Below w.heap.size w w1) : ColsS B w0 t G k D w1 :=
 ⟨h.len, h.done, h.rest, fun i d hd => (h.colsA i d hd).out (F := fun _ => False) (Out.of hb) (fun _ _ => id), h.apart, h.foot, h.out.trans (Out.of (F := fun _ => False) hb) (fun _ => False.elim)⟩
theorem ColsS.step {B : Nat} {w0 w w2 : World} {t : TD} {G : Nat → CD → CD → Prop} {k : Nat} {D : List CD} (h : ColsS B w0 t G k D w) {d d' : CD} (hk : t.cols[k]? = some d) (hc : ColAt B w2 d') (ho : Out d.foot w w2) (hf : ∀ b, d'.foot b → d.foot b ∨ w.heap.size ≤ b) (hG : G k d d') : ColsS B w0 t G (k + 1) (D.set k d') w2 := by
 have hDk : D[k]? = some d := (h.rest k (Nat.le_refl _)).trans hk
 have hkl : k < D.length := (List.getElem?_eq_some_iff.1 hDk).1
 have hself : (D.set k d')[k]? = some d' := by rw [List.getElem?_set_self hkl]
 have hne : ∀ j, j ≠ k → (D.set k d')[j]? = D[j]? := fun j hj => List.getElem?_set_ne (Ne.symm hj)
 have hdc : ∀ b, d.foot b → t.cfoot b := fun b hb => ⟨d, List.mem_of_getElem? hk, hb⟩
 refine ⟨by rw [List.length_set]; exact h.len, fun i x hi hx => ?_, fun i hi => ?_, fun i x hx => ?_, fun i j x y hij hx hy b hb hb' => ?_, fun i x hx b hb => ?_, ?_⟩
 ·by_cases e : i = k
  ·subst e
   rw [hk] at hx; cases hx
   exact ⟨d', hself, hG⟩
  ·rw [hne i e]
   exact h.done i x (by omega) hx
 ·rw [hne i (by omega)]; exact h.rest i (by omega)
 ·by_cases e : i = k
  ·subst e
   rw [hself] at hx; cases hx
   exact hc
  ·rw [hne i e] at hx
   exact (h.colsA i x hx).out ho (h.apart i k x d e hx hDk)
 ·by_cases e1 : i = k
  ·subst e1
   rw [hself] at hx; cases hx
   rw [hne j (Ne.symm hij)] at hy
   rcases hf b hb with h1 | h1
   ·exact h.apart i j d y hij hDk hy b h1 hb'
   ·have := ((h.colsA j y hy).foot_ge hb').2; omega
  ·rw [hne i e1] at hx
   by_cases e2 : j = k
   ·subst e2
    rw [hself] at hy; cases hy
    rcases hf b hb' with h1 | h1
    ·exact h.apart i j x d hij hx hDk b hb h1
    ·have := ((h.colsA i x hx).foot_ge hb).2; omega
   ·rw [hne j e2] at hy
    exact h.apart i j x y hij hx hy b hb hb'
 ·by_cases e : i = k
  ·subst e
   rw [hself] at hx; cases hx
   rcases hf b hb with h1 | h1
   ·exact .inl (hdc b h1)
   ·exact .inr (by have := h.out.size; omega)
  ·rw [hne i e] at hx
   exact h.foot i x hx b hb
 ·exact h.out.trans ho (fun b hb => .inl (hdc b hb))
theorem TabIn.cfoot_ne {B : Nat} {w : World} {t : TD} (h : TabIn B w t) : ¬ t.cfoot t.tb ∧ ∀ x, (Value.slice t.ea t.ents.length t.ec).ownBlock = some x → ¬ t.cfoot x := by
 refine ⟨?_, fun x hx => ?_⟩
 ·rintro ⟨d, hd, hb⟩
  obtain ⟨cs, ty, fr, hh, ht⟩ := (h.colsA d hd).foot_ty hb
  rw [h.blk] at hh; cases hh
  rcases ht with ht | ht | ht <;> cases ht
 ·rintro ⟨d, hd, hb⟩
  obtain ⟨cs, ty, fr, hh, ht⟩ := (h.colsA d hd).foot_ty hb
  obtain ⟨cur, h2⟩ := row_type h.entsR hx
  rw [h2] at hh; cases hh
  rcases ht with ht | ht | ht <;> cases ht
theorem TabIn.cfoot_foot {t : TD} {b : Nat} (h : t.cfoot b) : t.foot b := .inr (.inr h)
theorem ColsS.fin {B : Nat} {w0 w w2 : World} {t : TD} {G : Nat → CD → CD → Prop} {k : Nat} {D : List CD} (h : ColsS B w0 t G k D w) (ht : TabIn B w0 t) (hk : k = t.cols.length) (ents : List Int) (ea : Option Addr) (ec : Nat)
  (hb : w2.heap[t.tb]? = some (.cells #[.int .i64 t.ver, .slice t.ca t.cps.length t.cc, .int .u32 t.set, .int .i64 (t.most : Int), .int .i64 (t.kept : Int), .slice ea ents.length ec, .slice t.la t.cps.length t.lc] 143 (0, 0)))
  (he : w2.ownsRow B 38 1 (.slice ea ents.length ec) ents.length (ents.map (.int .u64)))
  (ho : Out (fun b => b = t.tb ∨ (Value.slice t.ea t.ents.length t.ec).ownBlock = some b) w w2) (hea : ∀ b, (Value.slice ea ents.length ec).ownBlock = some b → (Value.slice t.ea t.ents.length t.ec).ownBlock = some b ∨ w0.heap.size ≤ b)
  (hG : ∀ (i : Nat) (d d' : CD), t.cols[i]? = some d → G i d d' → d'.cb = d.cb ∧ d'.size = d.size ∧ d'.cap = d.cap ∧ d'.rows.length = ents.length) (hroom : ents.length + t.kept ≤ t.most) :
  TabIn B w2 { t with ents := ents, ea := ea, ec := ec, cols := D } ∧ Out t.foot w0 w2 ∧ ∀ b, TD.foot { t with ents := ents, ea := ea, ec := ec, cols := D } b → t.foot b ∨ w0.heap.size ≤ b := by
 have hF : Out t.foot w0 w2 := (h.out.mono (fun x hx => .inl (TabIn.cfoot_foot hx))).trans ho (fun b hb => by
  rcases hb with hb | hb
  ·exact .inl (.inl hb)
  ·exact .inl (.inr (.inl hb)))
 have hM : ∀ b, t.foot b → Mut w0 b := fun b hb => ht.foot_mut hb
 have hw1 : w.heap[t.tb]? = _ := h.out.keep ht.blk ht.cfoot_ne.1
 have hw2 : w.ownsRow B 38 1 (.slice t.ea t.ents.length t.ec) t.ents.length (t.ents.map (.int .u64)) := ownsRow_out ht.entsR h.out ht.cfoot_ne.2
 refine ⟨⟨hb, ownsRow_out ht.comps hF (row_mut ht.comps (.inl rfl) hM), ownsRow_out ht.colsR hF (row_mut ht.colsR (.inr (.inl rfl)) hM), fun x hx => (ht.fields x hx).out hF hM, he, ht.hB, h.len.trans ht.len, fun i x d' hx hd' => ?_, fun d hd => ?_, h.apart, ht.lay, ht.n24, ht.most1, ht.most2, hroom, ht.set0, ht.set1, ht.ids⟩, hF, fun b hb => ?_⟩
 ·have hd3 : D[i]? = some d' := hd'
  have hi : i < t.cols.length := by have := (List.getElem?_eq_some_iff.1 hd3).1; have := h.len; omega
  obtain ⟨d0, hd0⟩ : ∃ d, t.cols[i]? = some d := ⟨_, List.getElem?_eq_getElem hi⟩
  obtain ⟨d'', h1, h2⟩ := h.done i d0 (by omega) hd0
  have hd2 : D[i]? = some d' := hd'
  rw [h1] at hd2
  cases hd2
  obtain ⟨g1, g2, g3, g4⟩ := hG i d0 d' hd0 h2
  obtain ⟨k1, k2, k3, k4⟩ := ht.col i x d0 hx hd0
  exact ⟨g1.trans k1, g2.trans k2, g3.trans k3, g4⟩
 ·obtain ⟨i, hi⟩ := List.getElem?_of_mem hd
  have hc := h.colsA i d hi
  refine hc.out ho (fun b hb hb' => ?_)
  obtain ⟨cs, ty, fr, hh, hty⟩ := hc.foot_ty hb
  rcases hb' with rfl | hb'
  ·rw [hw1] at hh; cases hh
   rcases hty with ht | ht | ht <;> cases ht
  ·obtain ⟨cur, h2⟩ := row_type hw2 hb'
   rw [h2] at hh; cases hh
   rcases hty with ht | ht | ht <;> cases ht
 ·rcases hb with rfl | hb | ⟨d, hd, hb⟩
  ·exact .inl (.inl rfl)
  ·rcases hea b hb with h1 | h1
   ·exact .inl (.inr (.inl h1))
   ·exact .inr h1
  ·obtain ⟨i, hi⟩ := List.getElem?_of_mem hd
   rcases h.foot i d hi b hb with h1 | h1
   ·exact .inl (.inr (.inr h1))
   ·exact .inr h1
end Go.Proofs.YthmpknlgkflhiabGreat
