/- Contract of the reference's Drop. Printed by mkZK.py. · Plain: packing element by element. -/
import Derived.Test.YtoadihebdaooaaaGreatE38
import Derived.Test.YtoadihebdaooaaaGreatE30
import Derived.Test.YtoadihebdaooaaaGreatE28
namespace Go.Proofs.YtoadihebdaooaaaGreat
open Go.RowKit
set_option linter.unusedVariables false
theorem ownsRow_shrinkS {w : World} {b : Nat} {e : TypeId} {s : Nat} {va : Option Addr} {n vc m : Nat} {xs : List Value} (h : w.ownsRow b e s (.slice va n vc) n xs) (hm : m ≤ n) (h0 : 0 < n) : w.ownsRow b e s (.slice va m vc) m (xs.take (m * s)) := by
  obtain ⟨h1, h2⟩ := h
  have hms : m * s ≤ n * s := Nat.mul_le_mul_right _ hm
  refine ⟨by rw [List.length_take]; omega, ?_⟩
  rcases h2 with ⟨_, h3⟩ | ⟨g, cap, cur, hv, hg, hh, hc1, hc2, hc3, hc4⟩
  · omega
  · cases hv
    exact .inr ⟨g, vc, cur, rfl, hg, hh, by omega, hc2, hc3, by rw [← hc4, List.take_take, Nat.min_eq_left hms]⟩
theorem urowL_set : ∀ (rs : List URow) (r : Nat) (x : URow), r < rs.length → ((rs.flatMap urowL).set (r * 2) (.int .u64 x.e)).set (r * 2 + 1) (.slice x.pa x.pn x.pc) = (rs.set r x).flatMap urowL
  | [], _, _, h => by simp at h
  | y :: l, 0, x, _ => by simp [urowL]
  | y :: l, r + 1, x, h => by
    have ih := urowL_set l r x (by simpa using h)
    rw [List.set_cons_succ, List.flatMap_cons, List.flatMap_cons, ← ih]
    have hl : (urowL y).length = 2 := rfl
    have e1 : (r + 1) * 2 = (urowL y).length + r * 2 := by rw [hl]; omega
    have e2 : (r + 1) * 2 + 1 = (urowL y).length + (r * 2 + 1) := by rw [hl]; omega
    rw [e2, e1, set_append_len, set_append_len]
theorem urowL_take (rs : List URow) (m : Nat) : (rs.flatMap urowL).take (m * 2) = (rs.take m).flatMap urowL := by
  induction rs generalizing m with
  | nil => simp
  | cons y l ih =>
    cases m with
    | zero => simp
    | succ m =>
      have hl : (urowL y).length = 2 := rfl
      rw [List.take_succ_cons, List.flatMap_cons, List.flatMap_cons, List.take_append, hl, show (m + 1) * 2 - 2 = m * 2 by omega, ih, List.take_of_length_le (by rw [hl]; omega)]
theorem mutU_row {w : World} {b : Nat} {cs : Array Value} {fr : Nat × Nat} (h : w.heap[b]? = some (.cells cs 173 fr)) : ∀ cs' t fr', w.heap[b]? = some (.cells cs' t fr') → t ≠ 85 ∧ t ≠ 148 := by
  intro cs' t' fr' h'
  rw [h] at h'
  cases h'
  exact ⟨by decide, by decide⟩
/-- A row is laid over another one. -/
theorem RU.setRow {B : Nat} {w : World} {va : Option Addr} {n c : Nat} {rs : List URow} (h : RU B w va n c rs) {r m : Nat} {x : URow} (hr : r < n) (hx : rs[m]? = some x) :
    ∃ q, va = some ⟨q, 0, none⟩ ∧ RU B ((w.setCell ⟨q, r * 2, none⟩ (.int .u64 x.e)).setCell ⟨q, r * 2 + 1, none⟩ (.slice x.pa x.pn x.pc)) va n c (rs.set r x) ∧ w.frozen? ⟨q, r * 2, none⟩ = false ∧ w.frozen? ⟨q, r * 2 + 1, none⟩ = false ∧ B ≤ q ∧ q < w.heap.size ∧ (∃ y, w.cell? ⟨q, r * 2, none⟩ = some y) ∧ (∃ y, w.cell? ⟨q, r * 2 + 1, none⟩ = some y) := by
  obtain ⟨q, hq, h1, h2, h3, h4, h5, h6⟩ := ownsRow_setS (j := r * 2) (.int .u64 x.e) h.row (by omega)
  obtain ⟨q', hq', g1, g2, g3, g4, g5, g6⟩ := ownsRow_setS (j := r * 2 + 1) (.slice x.pa x.pn x.pc) h1 (by omega)
  obtain ⟨q'', hq'', _, k2, _, _, _, k6⟩ := ownsRow_setS (j := r * 2 + 1) (.slice x.pa x.pn x.pc) h.row (by omega)
  rw [hq] at hq' hq''
  cases hq'
  cases hq''
  rw [urowL_set rs r x (by rw [h.len]; exact hr)] at g1
  refine ⟨q, hq, ⟨g1, fun y hy => ?_, by rw [List.length_set]; exact h.len⟩, h2, k2, h3, h4, h6, k6⟩
  have hym : y ∈ rs := by
    rcases List.mem_or_eq_of_mem_set hy with hy | rfl
    · exact hy
    · exact List.mem_of_getElem? hx
  obtain ⟨cur, hb⟩ := row_type h.row (b := q) (by rw [hq]; rfl)
  have o1 : Out (fun b => b = q) w ((w.setCell ⟨q, r * 2, none⟩ (.int .u64 x.e)).setCell ⟨q, r * 2 + 1, none⟩ (.slice x.pa x.pn x.pc)) := (Out.only (F := fun b => b = q) (Only.at w q _ _) rfl).trans (Out.only (F := fun b => b = q) (Only.at _ q _ _) rfl) (fun x h => .inl h)
  exact (h.parts y hym).out o1 (fun b hb' => by subst hb'; exact mutU_row hb)
theorem RU.shrink {B : Nat} {w : World} {va : Option Addr} {n c m : Nat} {rs : List URow} (h : RU B w va n c rs) (hm : m ≤ n) (h0 : 0 < n) : RU B w va m c (rs.take m) :=
  ⟨by rw [← urowL_take]; exact ownsRow_shrinkS h.row hm h0, fun x hx => h.parts x (List.mem_of_mem_take hx), by rw [List.length_take, h.len]; omega⟩
theorem UF.setQ {w0 : World} {u : UD} {w : World} (h : UF w0 u w) {q k : Nat} {v : Value} (hq : w0.heap.size + 2 ≤ q) : UF w0 u (w.setCell ⟨q, k, none⟩ v) := by
  obtain ⟨cs, h1, h2⟩ := h.z
  exact ⟨by rw [hset_ne _ _ _ _ (by show w0.heap.size ≠ q; omega)]; exact h.u, ⟨cs, h1, by rw [hset_ne _ _ _ _ (by show w0.heap.size + 1 ≠ q; omega)]; exact h2⟩, h.b.setCell (by show w0.heap.size ≤ q; omega) _⟩
theorem UF.size2 {w0 : World} {u : UD} {w : World} (h : UF w0 u w) : w0.heap.size + 2 ≤ w.heap.size := by
  obtain ⟨cs, _, h2⟩ := h.z
  exact lt_some h2
set_option maxRecDepth 100000 in
set_option maxHeartbeats 1000000 in
theorem drop16_no (u : UD) (row : Int) (w : World) (h4 : u.ln ≤ 256) (hr : ¬ (0 ≤ row ∧ row < u.ln)) : Calls Tryz.prog 49 #[u.v, .int .i64 row] w fun en w' => Below w.heap.size w w' ∧ en = .returned (.tuple #[u.v, .int .u64 0, .int .i64 3]) := by
  have hst := UF.start w u
  obtain ⟨ver, ca, cl, cc, ia, il, ic, most, kept, la, ln, lc⟩ := u
  dsimp only [UD.v, UD.cs, u0cs] at *
  have HF := Lib.hid hst
  clear hst
  by_cases h0 : row < 0
  · have e1 : decide (row < 0) = true := by simp; exact h0
    clear hr h0
    go_enter Tryz.func49, Tryz.ntmps49
    go_upto_region 2 with (fail)
    generalize hW : World.alloc (World.alloc w _) _ = W at *
    clear hW
    obtain ⟨c0, c1, c2, c3, c4, c5, hul⟩ := HF.out.cells
    dsimp only at c0 c1 c2 c3 c4 c5
    obtain ⟨f0, y0, x0⟩ := HF.out.zfree 0 (by decide)
    obtain ⟨f1, y1, x1⟩ := HF.out.zfree 1 (by decide)
    obtain ⟨f2, y2, x2⟩ := HF.out.zfree 2 (by decide)
    obtain ⟨f3, y3, x3⟩ := HF.out.zfree 3 (by decide)
    obtain ⟨f4, y4, x4⟩ := HF.out.zfree 4 (by decide)
    obtain ⟨f5, y5, x5⟩ := HF.out.zfree 5 (by decide)
    go_wp2_with fail
    obtain ⟨cs0, hc6, hz⟩ := HF.out.z
    have hs := setU_cells ⟨ver, ca, cl, cc, ia, il, ic, most, kept, la, ln, lc⟩ hz hc6
    have hbs := setU_below (u := ⟨ver, ca, cl, cc, ia, il, ic, most, kept, la, ln, lc⟩) HF.out.b (Nat.le_succ _)
    unfold setU at *
    dsimp only [UD.cs] at hs hbs
    generalize World.setCell _ _ _ = W2 at hs hbs ⊢
    have a0 := cell_at hs 0
    have a1 := cell_at hs 1
    have a2 := cell_at hs 2
    have a3 := cell_at hs 3
    have a4 := cell_at hs 4
    have a5 := cell_at hs 5
    simp at a0 a1 a2 a3 a4 a5
    refine bodyPost_ret (v := .tuple #[.agg #[.int .i64 ver, .slice ca cl cc, .slice ia il ic, .int .i64 most, .int .i64 kept, .slice la ln lc], .int .u64 0, .int .i64 3]) (by simp [results, Tryz.results49, go_sem, a0, a1, a2, a3, a4, a5]) rfl ?_
    exact ⟨hbs, rfl⟩
  · have e1 : decide (row < 0) = false := by simp; omega
    have e2 : decide ((ln : Int) ≤ row) = true := by simp; omega
    clear hr h0
    go_enter Tryz.func49, Tryz.ntmps49
    go_upto_region 2 with (fail)
    generalize hW : World.alloc (World.alloc w _) _ = W at *
    clear hW
    obtain ⟨c0, c1, c2, c3, c4, c5, hul⟩ := HF.out.cells
    dsimp only at c0 c1 c2 c3 c4 c5
    obtain ⟨f0, y0, x0⟩ := HF.out.zfree 0 (by decide)
    obtain ⟨f1, y1, x1⟩ := HF.out.zfree 1 (by decide)
    obtain ⟨f2, y2, x2⟩ := HF.out.zfree 2 (by decide)
    obtain ⟨f3, y3, x3⟩ := HF.out.zfree 3 (by decide)
    obtain ⟨f4, y4, x4⟩ := HF.out.zfree 4 (by decide)
    obtain ⟨f5, y5, x5⟩ := HF.out.zfree 5 (by decide)
    go_wp2_with fail
    obtain ⟨cs0, hc6, hz⟩ := HF.out.z
    have hs := setU_cells ⟨ver, ca, cl, cc, ia, il, ic, most, kept, la, ln, lc⟩ hz hc6
    have hbs := setU_below (u := ⟨ver, ca, cl, cc, ia, il, ic, most, kept, la, ln, lc⟩) HF.out.b (Nat.le_succ _)
    unfold setU at *
    dsimp only [UD.cs] at hs hbs
    generalize World.setCell _ _ _ = W2 at hs hbs ⊢
    have a0 := cell_at hs 0
    have a1 := cell_at hs 1
    have a2 := cell_at hs 2
    have a3 := cell_at hs 3
    have a4 := cell_at hs 4
    have a5 := cell_at hs 5
    simp at a0 a1 a2 a3 a4 a5
    refine bodyPost_ret (v := .tuple #[.agg #[.int .i64 ver, .slice ca cl cc, .slice ia il ic, .int .i64 most, .int .i64 kept, .slice la ln lc], .int .u64 0, .int .i64 3]) (by simp [results, Tryz.results49, go_sem, a0, a1, a2, a3, a4, a5]) rfl ?_
    exact ⟨hbs, rfl⟩
set_option maxRecDepth 100000 in
set_option maxHeartbeats 2000000 in
theorem drop16_ok (u : UD) (rs : List URow) (r m : Nat) (x : URow) (w : World) (hR : RU 0 w u.la u.ln u.lc rs) (h4 : u.ln ≤ 256) (hr : r ≤ m) (hm : u.ln = m + 1) (hx : rs[m]? = some x) :
    Calls Tryz.prog 49 #[u.v, .int .i64 (r : Int)] w fun en w' => Below w.heap.size w w' ∧ ∃ la lc, en = .returned (.tuple #[UD.v { u with la := la, ln := m, lc := lc }, .int .u64 (if r = m then 0 else x.e), .int .i64 0]) ∧ RU 0 w' la m lc ((rs.set r x).take m) := by
  obtain ⟨i0, hi0, hz0, hz1, hz2⟩ := info_parts Tryz.infoURow16
  have hst := UF.start w u
  obtain ⟨ver, ca, cl, cc, ia, il, ic, most, kept, la, ln, lc⟩ := u
  dsimp only [UD.v, UD.cs, u0cs] at *
  subst hm
  have HF := Lib.hid hst
  have HRU := Lib.hid hR
  have HX := Lib.hid hx
  have e1 : decide ((r : Int) < 0) = false := by simp
  have e2 : decide (((m + 1 : Nat) : Int) ≤ (r : Int)) = false := by simp; omega
  have e2' : decide ((m : Int) + 1 ≤ (r : Int)) = false := by simp; omega
  clear hst hR hx
  go_enter Tryz.func49, Tryz.ntmps49
  go_upto_region 3 with (fail)
  generalize hW : World.alloc (World.alloc w _) _ = W at *
  clear hW
  obtain ⟨c0, c1, c2, c3, c4, c5, hul⟩ := HF.out.cells
  dsimp only at c0 c1 c2 c3 c4 c5
  have hbA : Below W.heap.size W (W.alloc (.cells #[] 173)) := by go_grown
  have HRW := Lib.hid (HRU.out.below (HF.out.b.trans (hbA.mono HF.out.b.size)))
  have HEM := Lib.hid (World.ownsRow_made W (e := 173) (size := 2) #[] 0 (Nat.le_refl _) (by simp) (by simp))
  have HFA := Lib.hid (HF.out.below hbA)
  clear hbA
  go_wp2_with (at_builtin; go_loud (refine wpList_append_fresh rfl (.tmp 20) (.tmp 22) 97 rfl 173 i0 (.agg #[.int .u64 0, .slice none 0 0]) 2 32 Tryz.underlying97 hi0 hz0 hz1 hz2 rfl (by decide) W.heap.size W.heap.size rfl HEM.out la (m + 1) lc (rs.flatMap urowL) rfl (SrcAt.row HRW.out.row urowL_one) (by unfold maxLen; omega) (by omega) (by simp) ?_))
  intro va vc w4 hown4 hb4'
  have hb4 : Below (W.alloc (.cells #[] 173)).heap.size (W.alloc (.cells #[] 173)) w4 := by rw [World.size_alloc]; exact hb4'
  have HF4 := Lib.hid (HFA.out.below hb4)
  have HRW4 := Lib.hid (show RU 0 w4 va (m + 1) vc rs from ⟨ownsRow_mono hown4 (Nat.zero_le _), fun y hy => (HRW.out.below hb4).parts y hy, HRW.out.len⟩)
  obtain ⟨q, hq, hqc⟩ : ∃ q, va = some ⟨q, 0, none⟩ ∧ W.heap.size ≤ q ∧ q < w4.heap.size := by
    obtain ⟨q, hq, _, hql, _⟩ := row_block hown4 (by omega)
    exact ⟨q, hq, (hown4.lt q (by rw [hq]; rfl)).1, hql⟩
  subst hq
  have hs2 := HF.out.size2
  clear hown4 hb4 hb4' c0 c1 c2 c3 c4 c5 HEM HRW HFA
  obtain ⟨b0, hb0, _, hbl, hbc⟩ := row_block HRW4.out.row (by omega)
  cases hb0
  obtain ⟨g0, g1⟩ := urowL_at rs m x HX.out
  have z0 := hbc _ _ g0
  have z1 := hbc _ _ g1
  have i1 : (0 : Int) ≤ (m : Int) := by omega
  have i2 : (m : Int) < (m : Int) + 1 := by omega
  have i3 : (0 : Int) ≤ (r : Int) := by omega
  have i4 : (r : Int) < (m : Int) + 1 := by omega
  have hlc := (own_max HRW4.out.row).1
  have i5 : (m : Int) ≤ (vc : Int) := by omega
  have f5 := free_at HF4.out.u 5
  have d5 := cell_at HF4.out.u 5
  have hl5 := lt_some HF4.out.u
  simp [UD.cs] at d5
  clear hbc g0 g1
  by_cases hrm : r = m
  · subst hrm
    have e3 : ((r : Int) != (r : Int)) = false := by simp
    have HR5 := Lib.hid (show RU 0 w4 (some ⟨q, 0, none⟩) r vc ((rs.set r x).take r) from by
      have : (rs.set r x).take r = rs.take r := by rw [List.take_set_of_le (Nat.le_refl _)]
      rw [this]
      exact HRW4.out.shrink (by omega) (by omega))
    go_upto_region 10 with (fail)
    have HF6 := Lib.hid (HF4.out.set5 (some ⟨q, 0, none⟩) r vc)
    have HR6 := Lib.hid (HR5.out.out (F := fun b => b = w.heap.size) (Out.only (Only.at _ w.heap.size 5 (.slice (some ⟨q, 0, none⟩) r vc)) rfl) (fun b hb => by subst hb; exact mutU_box HF4.out.u))
    dsimp only at HF6
    generalize hW6 : World.setCell _ ⟨w.heap.size, 5, none⟩ _ = W6 at *
    clear f5 hl5 d5 HR5 z0 z1 hW6 HRW4
    obtain ⟨c0, c1, c2, c3, c4, c5, hul⟩ := HF6.out.cells
    dsimp only at c0 c1 c2 c3 c4 c5
    obtain ⟨f0, y0, x0⟩ := HF6.out.zfree 0 (by decide)
    obtain ⟨f1, y1, x1⟩ := HF6.out.zfree 1 (by decide)
    obtain ⟨f2, y2, x2⟩ := HF6.out.zfree 2 (by decide)
    obtain ⟨f3, y3, x3⟩ := HF6.out.zfree 3 (by decide)
    obtain ⟨f4, y4, x4⟩ := HF6.out.zfree 4 (by decide)
    obtain ⟨f5, y5, x5⟩ := HF6.out.zfree 5 (by decide)
    go_wp2_with fail
    obtain ⟨cs0, hc6, hz⟩ := HF6.out.z
    have hs := setU_cells ⟨ver, ca, cl, cc, ia, il, ic, most, kept, some ⟨q, 0, none⟩, r, vc⟩ hz hc6
    have hbs := setU_below (u := ⟨ver, ca, cl, cc, ia, il, ic, most, kept, some ⟨q, 0, none⟩, r, vc⟩) HF6.out.b (Nat.le_succ _)
    have hr7 := HR6.out.out (setU_out W6 (w.heap.size + 1) ⟨ver, ca, cl, cc, ia, il, ic, most, kept, some ⟨q, 0, none⟩ , r, vc⟩) (fun b hb => by subst hb; exact mutU_box hz)
    unfold setU at *
    dsimp only [UD.cs] at hs hbs
    generalize World.setCell _ _ _ = W2 at *
    have a0 := cell_at hs 0
    have a1 := cell_at hs 1
    have a2 := cell_at hs 2
    have a3 := cell_at hs 3
    have a4 := cell_at hs 4
    have a5 := cell_at hs 5
    simp at a0 a1 a2 a3 a4 a5
    refine bodyPost_ret (v := .tuple #[.agg #[.int .i64 ver, .slice ca cl cc, .slice ia il ic, .int .i64 most, .int .i64 kept, .slice (some ⟨q, 0, none⟩) r vc], .int .u64 0, .int .i64 0]) (by simp [results, Tryz.results49, go_sem, a0, a1, a2, a3, a4, a5]) rfl ?_
    exact ⟨hbs, _, _, rfl, hr7⟩
  · have e3 : ((r : Int) != (m : Int)) = true := by rw [bne_iff_ne]; omega
    obtain ⟨q', hq', hrs, f0, f1, _, _, ⟨y0, x0⟩, ⟨y1, x1⟩⟩ := HRW4.out.setRow (r := r) (by omega) HX.out
    cases hq'
    have HR5 := Lib.hid (hrs.shrink (m := m) (by omega) (by omega))
    have HF5 := Lib.hid ((HF4.out.setQ (q := q) (k := r * 2) (v := .int .u64 x.e) (by omega)).setQ (q := q) (k := r * 2 + 1) (v := .slice x.pa x.pn x.pc) (by omega))
    clear hrs
    go_upto_region 10 with (fail)
    have HF6 := Lib.hid (HF5.out.set5 (some ⟨q, 0, none⟩) m vc)
    have HR6 := Lib.hid (HR5.out.out (F := fun b => b = w.heap.size) (Out.only (Only.at _ w.heap.size 5 (.slice (some ⟨q, 0, none⟩) m vc)) rfl) (fun b hb => by subst hb; exact mutU_box HF5.out.u))
    dsimp only at HF6
    generalize hW6 : World.setCell _ ⟨w.heap.size, 5, none⟩ _ = W6 at *
    clear f5 hl5 d5 HR5 z0 z1 hW6 f0 f1 x0 x1 HF4 HRW4
    obtain ⟨c0, c1, c2, c3, c4, c5, hul⟩ := HF6.out.cells
    dsimp only at c0 c1 c2 c3 c4 c5
    obtain ⟨f0, y0, x0⟩ := HF6.out.zfree 0 (by decide)
    obtain ⟨f1, y1, x1⟩ := HF6.out.zfree 1 (by decide)
    obtain ⟨f2, y2, x2⟩ := HF6.out.zfree 2 (by decide)
    obtain ⟨f3, y3, x3⟩ := HF6.out.zfree 3 (by decide)
    obtain ⟨f4, y4, x4⟩ := HF6.out.zfree 4 (by decide)
    obtain ⟨f5, y5, x5⟩ := HF6.out.zfree 5 (by decide)
    go_wp2_with fail
    obtain ⟨cs0, hc6, hz⟩ := HF6.out.z
    have hs := setU_cells ⟨ver, ca, cl, cc, ia, il, ic, most, kept, some ⟨q, 0, none⟩, m, vc⟩ hz hc6
    have hbs := setU_below (u := ⟨ver, ca, cl, cc, ia, il, ic, most, kept, some ⟨q, 0, none⟩, m, vc⟩) HF6.out.b (Nat.le_succ _)
    have hr7 := HR6.out.out (setU_out W6 (w.heap.size + 1) ⟨ver, ca, cl, cc, ia, il, ic, most, kept, some ⟨q, 0, none⟩, m, vc⟩) (fun b hb => by subst hb; exact mutU_box hz)
    unfold setU at *
    dsimp only [UD.cs] at hs hbs
    generalize World.setCell _ _ _ = W2 at *
    have a0 := cell_at hs 0
    have a1 := cell_at hs 1
    have a2 := cell_at hs 2
    have a3 := cell_at hs 3
    have a4 := cell_at hs 4
    have a5 := cell_at hs 5
    simp at a0 a1 a2 a3 a4 a5
    refine bodyPost_ret (v := .tuple #[.agg #[.int .i64 ver, .slice ca cl cc, .slice ia il ic, .int .i64 most, .int .i64 kept, .slice (some ⟨q, 0, none⟩) m vc], .int .u64 x.e, .int .i64 0]) (by simp [results, Tryz.results49, go_sem, a0, a1, a2, a3, a4, a5]) rfl ?_
    exact ⟨hbs, _, _, rfl, hr7⟩
end Go.Proofs.YtoadihebdaooaaaGreat
namespace Go.Proofs.YtoadihebdaooaaaGreat
open Go.RowKit
set_option linter.unusedVariables false
/-- The elements, a field at a time. -/
def els : List Int × Int × Int → List Fld → List (Int × Int)
  | _, [] => []
  | p, f :: r => elsOf f (upF p.2.1 (kSize f.kind)) f.count.toNat ++ els (planStep p f) r
theorem elFold_els : ∀ (fs : List Fld) (q : (List Int × Int × Int) × List (Int × Int)), (fs.foldl elStep q).2 = q.2 ++ els q.1 fs
  | [], q => by simp [els]
  | f :: r, q => by
    rw [List.foldl_cons, elFold_els r (elStep q f)]
    simp [elStep, els]
theorem elems_els (fs : List Fld) : elems fs = els ([], 0, 1) fs := by
  unfold elems elPlan
  rw [elFold_els]
  simp
/-- The row, element by element. -/
def packE : List (Int × Int) → List WI → List UInt8 → List UInt8
  | [], _, s => s
  | _ :: _, [], s => s
  | e :: r, x :: v, s => packE r v (padB s e.2.toNat ++ putB e.1 x)
/-- Elements lie one behind the other, from n to z. -/
def goodE : List (Int × Int) → Nat → Nat → Prop
  | [], n, z => n ≤ z
  | e :: r, n, z => (n : Int) ≤ e.2 ∧ goodE r (e.2.toNat + (kSize e.1).toNat) z
theorem goodE_le : ∀ (l : List (Int × Int)) (n z : Nat), goodE l n z → n ≤ z
  | [], _, _, h => h
  | e :: r, n, z, h => by
    have := goodE_le r _ z h.2
    have := h.1
    omega
theorem padB_id {l : List UInt8} {n : Nat} (h : n ≤ l.length) : padB l n = l := by
  unfold padB
  rw [show n - l.length = 0 by omega]
  simp
theorem elsOf_cons (f : Fld) (s : Int) (m : Nat) : elsOf f s (m + 1) = (f.kind, s) :: elsOf f (s + kSize f.kind) m := by
  unfold elsOf
  rw [List.range_succ_eq_map, List.map_cons, List.map_map]
  simp only [Int.natCast_zero, Int.zero_mul, Int.add_zero, List.cons.injEq, true_and]
  apply List.map_congr_left
  intro j _
  simp only [Function.comp, Prod.mk.injEq, true_and]
  rw [show ((j.succ : Nat) : Int) = (j : Int) + 1 from rfl, Int.add_mul]
  omega
theorem packE_of (f : Fld) (hk : 0 ≤ kSize f.kind) (r : List (Int × Int)) : ∀ (m : Nat) (st : Nat) (v : List WI) (s : List UInt8), m ≤ v.length → s.length = st →
    packE (elsOf f st m ++ r) v s = packE r (v.drop m) (s ++ (v.take m).flatMap (putB f.kind))
  | 0, st, v, s, _, _ => by simp [elsOf]
  | m + 1, st, [], s, h, _ => by simp at h
  | m + 1, st, x :: v, s, h, hs => by
    rw [elsOf_cons, List.cons_append, packE, Int.toNat_natCast, padB_id (by omega)]
    have := packE_of f hk r m (st + (kSize f.kind).toNat) v (s ++ putB f.kind x) (by simpa using h) (by rw [List.length_append, putB_len, hs])
    rw [show ((st : Int) + kSize f.kind) = ((st + (kSize f.kind).toNat : Nat) : Int) by omega, this]
    simp
theorem goodE_of (f : Fld) (hk : 0 ≤ kSize f.kind) (r : List (Int × Int)) (z : Nat) : ∀ (m : Nat) (st n : Nat), n ≤ st → goodE r (st + m * (kSize f.kind).toNat) z → (m = 0 → n = st) → goodE (elsOf f st m ++ r) n z
  | 0, st, n, _, h, h0 => by
    rw [h0 rfl]
    simpa [elsOf] using h
  | m + 1, st, n, hn, h, _ => by
    rw [elsOf_cons, List.cons_append, goodE]
    refine ⟨by omega, ?_⟩
    rw [show ((st : Int) + kSize f.kind) = ((st + (kSize f.kind).toNat : Nat) : Int) by omega]
    refine goodE_of f hk r z m _ _ (by simp) ?_ (fun _ => by simp)
    rw [Nat.succ_mul] at h
    rw [show st + (kSize f.kind).toNat + m * (kSize f.kind).toNat = st + (m * (kSize f.kind).toNat + (kSize f.kind).toNat) by omega]
    exact h
theorem els_pack : ∀ (fs : List Fld) (p : List Int × Int × Int) (v : List WI) (s : List UInt8) (B : Int), fs.all fldOk = true → 0 ≤ p.2.1 → p.2.1 + 71 * fs.length ≤ 9000 → 1 ≤ p.2.2 → p.2.2 ≤ 8 → cnt fs ≤ v.length → s.length = p.2.1.toNat →
    packE (els p fs) v s = (fs.foldl packStep (p, s, v)).2.1
  | [], p, v, s, B, _, _, _, _, _, _, _ => rfl
  | f :: r, p, v, s, B, ha, h0, h1, h2, h3, hv, hs => by
    rw [List.all_cons, Bool.and_eq_true] at ha
    rw [List.length_cons] at h1
    obtain ⟨k1, k2, c1, c2⟩ := fldOk_bd ha.1
    obtain ⟨s1, s2, s3, s4, s5⟩ := planStep_bd ha.1 h0 (by omega) h2 h3
    obtain ⟨u1, u2, u3⟩ := upF_eq h0 (by omega) k1 k2
    rw [cnt_cons] at hv
    obtain ⟨u, hu⟩ : ∃ u : Nat, upF p.2.1 (kSize f.kind) = (u : Int) := ⟨(upF p.2.1 (kSize f.kind)).toNat, by omega⟩
    obtain ⟨c, hc⟩ : ∃ c, f.count.toNat = c + 1 := ⟨f.count.toNat - 1, by omega⟩
    rw [List.foldl_cons, els]
    obtain ⟨x, v', rfl⟩ : ∃ x v', v = x :: v' := by
      cases v with
      | nil => simp at hv; omega
      | cons x v' => exact ⟨x, v', rfl⟩
    have hpl : (padB s u).length = u := padB_len (by omega)
    have e1 : packE (elsOf f (u : Int) (c + 1) ++ els (planStep p f) r) (x :: v') s = packE (elsOf f (u : Int) (c + 1) ++ els (planStep p f) r) (x :: v') (padB s u) := by
      rw [elsOf_cons, List.cons_append, packE, packE, Int.toNat_natCast, padB_id (l := padB s u) (by omega)]
    rw [hu, hc, e1, packE_of f (by omega) _ (c + 1) u (x :: v') _ (by omega) hpl]
    have hlen : (padB s u ++ ((x :: v').take (c + 1)).flatMap (putB f.kind)).length = (planStep p f).2.1.toNat := by
      rw [List.length_append, hpl, flat_len, List.length_take, Nat.min_eq_left (by omega), s1, hu]
      have : (kSize f.kind * f.count).toNat = (c + 1) * (kSize f.kind).toNat := by rw [Int.toNat_mul (by omega) (by omega), hc, Nat.mul_comm]
      have h0' : 0 ≤ kSize f.kind * f.count := Int.mul_nonneg (by omega) (by omega)
      omega
    rw [els_pack r (planStep p f) _ _ B ha.2 s2 (by omega) s4 s5 (by rw [List.length_drop]; omega) hlen]
    simp only [packStep, hu, hc, Int.toNat_natCast]
theorem els_good (Z : Nat) : ∀ (fs : List Fld) (p : List Int × Int × Int), fs.all fldOk = true → 0 ≤ p.2.1 → p.2.1 + 71 * fs.length ≤ 9000 → 1 ≤ p.2.2 → p.2.2 ≤ 8 → (fs.foldl planStep p).2.1 ≤ (Z : Int) →
    goodE (els p fs) p.2.1.toNat Z
  | [], p, _, h0, _, _, _, hZ => by
    simp only [List.foldl_nil] at hZ
    simp only [els, goodE]
    omega
  | f :: r, p, ha, h0, h1, h2, h3, hZ => by
    rw [List.all_cons, Bool.and_eq_true] at ha
    rw [List.length_cons] at h1
    rw [List.foldl_cons] at hZ
    obtain ⟨k1, k2, c1, c2⟩ := fldOk_bd ha.1
    obtain ⟨s1, s2, s3, s4, s5⟩ := planStep_bd ha.1 h0 (by omega) h2 h3
    obtain ⟨u1, u2, u3⟩ := upF_eq h0 (by omega) k1 k2
    obtain ⟨u, hu⟩ : ∃ u : Nat, upF p.2.1 (kSize f.kind) = (u : Int) := ⟨(upF p.2.1 (kSize f.kind)).toNat, by omega⟩
    have ih := els_good Z r (planStep p f) ha.2 s2 (by omega) s4 s5 hZ
    rw [els, hu]
    refine goodE_of f (by omega) _ Z _ u _ (by omega) ?_ (fun h => by omega)
    have h0' : (kSize f.kind * f.count).toNat = f.count.toNat * (kSize f.kind).toNat := by rw [Int.toNat_mul (by omega) (by omega), Nat.mul_comm]
    have h1' : 0 ≤ kSize f.kind * f.count := Int.mul_nonneg (by omega) (by omega)
    rw [s1, hu] at ih
    rw [show u + f.count.toNat * (kSize f.kind).toNat = ((u : Int) + kSize f.kind * f.count).toNat by omega]
    exact ih
/-- What Pack makes of the elements. -/
theorem packE_packF {fs : List Fld} {val : List WI} (h : layCheck fs = 0) (hv : cnt fs ≤ val.length) : padB (packE (elems fs) val []) (planSize fs).toNat = packF fs val ∧ goodE (elems fs) 0 (planSize fs).toNat ∧ 0 ≤ planSize fs ∧ planSize fs ≤ 256 := by
  obtain ⟨h8, ha, h256⟩ := layCheck_zero h
  obtain ⟨b0, b1, b2, b3⟩ := plan_bd h8 ha
  obtain ⟨u1, u2, u3⟩ := upF_eq b0 (by omega) b2 b3
  have hz : (planF fs).2.1 ≤ planSize fs := by unfold planSize; omega
  refine ⟨?_, ?_, by omega, h256⟩
  · rw [elems_els, els_pack fs ([], 0, 1) val [] 0 ha (by simp) (by simp; omega) (by simp) (by simp) hv (by simp)]
    rfl
  · rw [elems_els]
    exact els_good _ fs ([], 0, 1) ha (by simp) (by simp; omega) (by simp) (by simp) (by show (planF fs).2.1 ≤ _; omega)
theorem set_pad {s : List UInt8} {y : UInt8} {z : Nat} (h : s.length < z) : (padB s z).set s.length y = padB (s ++ [y]) z := by
  unfold padB
  rw [List.set_append_right _ _ (Nat.le_refl _), Nat.sub_self]
  obtain ⟨c, hc⟩ : ∃ c, z - s.length = c + 1 := ⟨z - s.length - 1, by omega⟩
  rw [hc, List.replicate_succ, List.set_cons_zero]
  simp
  omega
end Go.Proofs.YtoadihebdaooaaaGreat
