/- Contract of table.Drop. -/
import Derived.Test.YtoadihebdaooaaaGreatV4
namespace Go.Proofs.YtoadihebdaooaaaGreat
open Go.RowKit
set_option linter.unusedVariables false
theorem ret_ui {a b c d : Int} (h1 : a = c) (h2 : b = d) : Ending.returned (.tuple #[.int .u64 a, .int .i64 b]) = .returned (.tuple #[.int .u64 c, .int .i64 d]) := by rw [h1, h2]
theorem ownsRow_set {w : World} {b : Nat} {e : TypeId} {va : Option Addr} {n vc r : Nat} {xs : List Value} (u : Value) (h : w.ownsRow b e 1 (.slice va n vc) n xs) (hr : r < n) :
    ∃ q, va = some ⟨q, 0, none⟩ ∧ (w.setCell ⟨q, r, none⟩ u).ownsRow b e 1 (.slice va n vc) n (xs.set r u) ∧ w.frozen? ⟨q, r, none⟩ = false ∧ q < w.heap.size ∧ n ≤ vc := by
  obtain ⟨h1, h2⟩ := h
  rcases h2 with ⟨_, h3⟩ | ⟨g, cap, cur, hv, hg, hh, hc1, hc2, hc3, hc4⟩
  · omega
  · cases hv
    refine ⟨g, rfl, ⟨by rw [List.length_set]; exact h1, .inr ⟨g, vc, cur.setIfInBounds r u, rfl, hg, hset w g r u _ _ _ hh, hc1, hc2, by rw [Array.size_setIfInBounds]; exact hc3, ?_⟩⟩, free_at hh r, lt_some hh, hc1⟩
    rw [Array.toList_setIfInBounds, ← hc4, List.take_set]
def DropG (r m : Nat) (i : Nat) (d d' : CD) : Prop := ∀ l, d.rows[m]? = some l → d'.rows = (d.rows.set r l).take m ∧ d'.cb = d.cb ∧ d'.size = d.size ∧ d'.cap = d.cap
/-- The table with a row less. -/
def Dropped (B : Nat) (t : TD) (r m : Nat) (x : Int) (w w' : World) : Prop :=
  ∃ D, TabIn B w' { t with ents := (t.ents.set r x).take m, cols := D } ∧ (∀ (i : Nat) (d d' : CD), t.cols[i]? = some d → D[i]? = some d' → DropG r m i d d') ∧ Out t.foot w w' ∧
    ∀ b, TD.foot { t with ents := (t.ents.set r x).take m, cols := D } b → t.foot b ∨ w.heap.size ≤ b
section
variable {B : Nat} {w : World} {t : TD}
set_option maxRecDepth 100000 in
theorem tabDrop_no (h : TabIn B w t) (i : Int) (hi : ¬ (0 ≤ i ∧ i < t.ents.length)) : Calls Tryz.prog 34 #[.pointer (some ⟨t.tb, 0, none⟩), .int .i64 i] w fun en w' => en = .returned (.tuple #[.int .u64 0, .int .i64 3]) ∧ w = w' := by
  have hc := tabAt_in h i
  rw [if_neg hi] at hc
  have HC := Lib.hid hc
  clear hc h hi
  go_enter Tryz.func34, Tryz.ntmps34
  go_wp2_with fail
  refine HC.out.mono ?_
  rintro en w1 ⟨rfl, rfl⟩
  go_wp2_with fail
  go_ret2
  exact ⟨rfl, rfl⟩
set_option maxRecDepth 100000 in
set_option maxHeartbeats 4000000 in
theorem tabDrop_ok (h : TabIn B w t) (r m : Nat) (hr : r ≤ m) (hm : t.ents.length = m + 1) (x : Int) (hx : t.ents[m]? = some x) :
    Calls Tryz.prog 34 #[.pointer (some ⟨t.tb, 0, none⟩), .int .i64 (r : Int)] w fun en w' => en = .returned (.tuple #[.int .u64 (if r = m then 0 else x), .int .i64 0]) ∧ Dropped B t r m x w w' := by
  have hc := tabAt_in h (r : Int)
  rw [if_pos ⟨by omega, by omega⟩] at hc
  have hroom := h.room
  have hm2 := h.most2
  have hn24 := h.n24
  have hlen := h.len
  have hmb : m < 256 := by omega
  have HC := Lib.hid hc
  have HH := Lib.hid h
  have HLEN := Lib.hid hlen
  have HM := Lib.hid hm
  have HXX := Lib.hid hx
  obtain ⟨c0, c1, c2, c3, c4, c5, c6, fz⟩ := h.cells
  rw [hm] at c5
  clear h hc hlen hm hx fz
  go_enter Tryz.func34, Tryz.ntmps34
  go_wp2_with fail
  refine HC.out.mono ?_
  rintro en w1 ⟨rfl, rfl⟩
  go_wp2_with fail
  clear c0 c1 c2 c3 c4 c5 c6
  obtain ⟨n, hn⟩ : ∃ n, t.cps.length = n := ⟨_, rfl⟩
  rw [hn] at hn24 ⊢
  have HN := Lib.hid hn
  clear hn
  go_loopw [28] (fun i wr => ∃ (k : Nat) (D : List CD), k ≤ n ∧ i = .int .i64 (k : Int) ∧ ColsS B w t (DropG r m) k D wr) (fun i _ => n - (intOf i).toNat)
  case atStart => exact ⟨0, t.cols, Nat.zero_le _, rfl, ColsS.start HH.out _⟩
  case round =>
    obtain ⟨k, D, hk, rfl, hst⟩ := hrel
    have HST := Lib.hid hst
    clear hst
    by_cases hlt : k < n
    · obtain ⟨x, hx⟩ : ∃ x, t.cps[k]? = some x := ⟨_, List.getElem?_eq_getElem (by have := HN.out; omega)⟩
      obtain ⟨d, hd⟩ : ∃ d, t.cols[k]? = some d := ⟨_, List.getElem?_eq_getElem (by have := HN.out; have := HLEN.out; omega)⟩
      obtain ⟨k1, k2, k3, k4⟩ := HH.out.col k x d hx hd
      obtain ⟨l, hl⟩ : ∃ l, d.rows[m]? = some l := ⟨_, List.getElem?_eq_getElem (by have := HM.out; omega)⟩
      have hM : ∀ b, t.cfoot b → Mut w b := fun b hb => HH.out.foot_mut (TabIn.cfoot_foot hb)
      have hcr := ownsRow_out HH.out.colsR HST.out.out (row_mut HH.out.colsR (.inr (.inl rfl)) hM)
      rw [HN.out] at hcr
      obtain ⟨q, hq, _, hql, hqc⟩ := row_block hcr (by omega)
      obtain ⟨g0, g1, g2, g3⟩ := colL_at t.cps hx
      have z0 := hqc _ _ g0
      have z1 := hqc _ _ g1
      have z2 := hqc _ _ g2
      have z3 := hqc _ _ g3
      rw [hq]
      have i1 : (0 : Int) ≤ (k : Int) := by omega
      have i2 : (k : Int) < (n : Int) := by omega
      have hsA := HST.out.below ((Below.refl _ wr).alloc (Nat.le_refl _) (.cells #[.int .i64 x.c.id, .string x.c.name, .slice x.fa x.fl x.fc, .pointer (some ⟨x.cb, 0, none⟩)] 142))
      have hcd := hsA.colsA k d ((hsA.rest k (Nat.le_refl _)).trans hd)
      have hsw := colSwap_any B _ d r m l hcd hr (by rw [k4, HM.out]) hl
      rw [k1] at hsw
      have HSW := Lib.hid hsw
      have HSA := Lib.hid hsA
      have HD := Lib.hid (And.intro hd (And.intro hl k1))
      clear hx hd k1 k2 k3 k4 hl hM hcr hqc g0 g1 g2 g3 hsA hcd hsw hq
      go_wp2_with fail
      refine HSW.out.mono ?_
      rintro en w8 ⟨rfl, gs8, hcol, hout, hfoot⟩
      have hst8 := HSA.out.step HD.out.1 hcol hout (fun b hb => .inl (hfoot b hb)) (show DropG r m k d _ from fun l' hl' => by
        rw [HD.out.2.1] at hl'
        cases hl'
        exact ⟨rfl, HD.out.2.2.symm, rfl, rfl⟩)
      have HST8 := Lib.hid hst8
      clear hcol hout hfoot hst8 HSW z0 z1 z2 z3
      go_wp2_with fail
      go_roundw
      case rel => exact ⟨k + 1, _, by omega, by go_num, HST8.out⟩
      case measure => simp [intOf]; omega
    · obtain rfl : k = n := by omega
      have hb0 := HST.out.out.keep HH.out.blk HH.out.cfoot_ne.1
      have he0 := ownsRow_out HH.out.entsR HST.out.out HH.out.cfoot_ne.2
      have c5 := cell_at hb0 5
      have f5 := free_at hb0 5
      simp at c5
      rw [HM.out] at c5 he0
      obtain ⟨q, hq, hset0, hfr, hql, hcap⟩ := ownsRow_set (r := r) (.int .u64 x) he0 (by omega)
      obtain ⟨q', hq', _, _, hqc⟩ := row_block he0 (by omega)
      have : q' = q := by rw [hq] at hq'; cases hq'; rfl
      subst this
      have z0 := hqc m (.int .u64 x) (by rw [List.getElem?_map, HXX.out]; rfl)
      rw [hq] at c5
      have i1 : (0 : Int) ≤ (m : Int) := by omega
      have i2 : (m : Int) < (m : Int) + 1 := by omega
      have i3 : (0 : Int) ≤ (r : Int) := by omega
      have i4 : (r : Int) < (m : Int) + 1 := by omega
      have i5 : (m : Int) ≤ (t.ec : Int) := by omega
      have hne : t.tb ≠ q' := fun e => by
        have h1 := ownsRow_ne_block3 he0 hb0 (fun cur he => by cases he)
        rw [hq] at h1
        exact h1 (by rw [e]; rfl)
      have hcr : ∃ y, wr.cell? ⟨q', r, none⟩ = some y := by
        obtain ⟨y, hy⟩ : ∃ y, t.ents[r]? = some y := ⟨_, List.getElem?_eq_getElem (by have := HM.out; omega)⟩
        exact ⟨_, hqc r (.int .u64 y) (by rw [List.getElem?_map, hy]; rfl)⟩
      obtain ⟨y, hy⟩ := hcr
      have hb1 := keepO (Only.at wr q' r (.int .u64 x)) hb0 hne
      have d5 := cell_at hb1 5
      have g5 := free_at hb1 5
      simp at d5
      rw [HM.out, hq] at d5
      have hzr := HST.out.out.size
      have hbt := lt_some hb0
      have HB0 := Lib.hid hb0
      have HB1 := Lib.hid hb1
      have HE0 := Lib.hid he0
      have HSET := Lib.hid hset0
      have HQ := Lib.hid hq
      have hlm : ((t.ents.set r x).take m).length = m := by rw [List.length_take, List.length_set]; have := HM.out; omega
      have hset1 := ownsRow_shrink hset0 (show m ≤ m + 1 by omega) (by omega)
      have hset2 := ownsRow_out hset1 (Out.only (F := fun b => b = t.tb) (Only.at (wr.setCell ⟨q', r, none⟩ (.int .u64 x)) t.tb 5 (.slice t.ea m t.ec)) rfl) (fun z hz he => by
        subst he
        exact ownsRow_ne_block3 hset1 hb1 (fun cur he => by cases he) hz.symm)
      have hblk2 := hset (wr.setCell ⟨q', r, none⟩ (.int .u64 x)) t.tb 5 (.slice t.ea m t.ec) _ _ _ hb1
      have hfin := HST.out.fin HH.out (by rw [HLEN.out, HN.out]) ((t.ents.set r x).take m) t.ea t.ec (w2 := (wr.setCell ⟨q', r, none⟩ (.int .u64 x)).setCell ⟨t.tb, 5, none⟩ (.slice t.ea m t.ec)) (by rw [hlm]; simpa using hblk2) (by rw [hlm, List.map_take, List.map_set]; exact hset2)
        ((Out.only (Only.at wr q' r (.int .u64 x)) (.inr (by rw [hq]; rfl))).trans (Out.only (F := fun b => b = t.tb) (Only.at (wr.setCell ⟨q', r, none⟩ (.int .u64 x)) t.tb 5 _) rfl) (fun z hz => .inl (.inl hz)))
        (fun b hb => .inl (by rw [hq] at hb ⊢; exact hb)) (fun i d d' hd hG => by
          have hxi : i < t.cps.length := by rw [← HLEN.out]; exact (List.getElem?_eq_some_iff.1 hd).1
          obtain ⟨x', hx'⟩ : ∃ x, t.cps[i]? = some x := ⟨_, List.getElem?_eq_getElem hxi⟩
          obtain ⟨k1, k2, k3, k4⟩ := HH.out.col i x' d hx' hd
          obtain ⟨l, hl⟩ : ∃ l, d.rows[m]? = some l := ⟨_, List.getElem?_eq_getElem (by have := HM.out; omega)⟩
          obtain ⟨g1, g2, g3, g4⟩ := hG l hl
          exact ⟨g2, g3, g4, by rw [g1, hlm, List.length_take, List.length_set, k4, HM.out]; omega⟩) (by rw [hlm]; have := HM.out; omega)
      have hput : ∀ (i : Nat) (d d' : CD), t.cols[i]? = some d → D[i]? = some d' → DropG r m i d d' := by
        intro i d d' hd hd'
        obtain ⟨d'', h1, h2⟩ := HST.out.done i d (by have := (List.getElem?_eq_some_iff.1 hd).1; have := HLEN.out; have := HN.out; omega) hd
        rw [h1] at hd'
        cases hd'
        exact h2
      have hdrop : Dropped B t r m x w ((wr.setCell ⟨q', r, none⟩ (.int .u64 x)).setCell ⟨t.tb, 5, none⟩ (.slice t.ea m t.ec)) := ⟨D, hfin.1, hput, hfin.2.1, hfin.2.2⟩
      rw [hq] at hdrop
      have HDROP := Lib.hid hdrop
      clear hb0 hb1 he0 hset0 hqc hq hq' hlm hset1 hset2 hblk2 hfin hput hdrop
      by_cases hrm : r = m
      · have e1 : ((r : Int) == (m : Int)) = true := by rw [hrm]; simp
        have HRM := Lib.hid hrm
        clear hrm
        go_wp2_with fail
        go_ret2
        have hd := HDROP.out
        rw [HRM.out] at hd
        exact ⟨ret_ui (by first | rfl | rw [if_pos HRM.out]) rfl, hd⟩
      · have e1 : ((r : Int) == (m : Int)) = false := by rw [beq_eq_false_iff_ne]; omega
        have HRM := Lib.hid hrm
        clear hrm
        go_wp2_with fail
        go_ret2
        exact ⟨ret_ui (by first | rfl | rw [if_neg HRM.out]) rfl, HDROP.out⟩
end
end Go.Proofs.YtoadihebdaooaaaGreat
