/- Contract of (*Graph).Step: the walk. · Contract of graph.New. · column.Clone with rows. · table.Clone with rows. -/
import Derived.Test.YthmpknlgkflhiabGreatQ22
import Derived.Laws.BitsAllLaws
import Derived.Test.YthmpknlgkflhiabGreatQ12
import Derived.Test.YthmpknlgkflhiabGreatQ14
import Derived.Test.YthmpknlgkflhiabGreatQ3
import Derived.Test.YthmpknlgkflhiabGreatQ18
namespace Go.Proofs.YthmpknlgkflhiabGreat
open Go.RowKit
open Go.Maps (Keyed int_keyed keyOf_int_mk)
set_option linter.unusedVariables false
theorem bits_u32 (op : BinOp) (x y : Int) : 0 ≤ bits op .u32 x y ∧ bits op .u32 x y ≤ 4294967295 := by
 unfold bits
 cases op <;> simp [IntKind.wrap, IntKind.bits, IntKind.signed] <;> omega
theorem sWith_bd {s n : Int} (h0 : 0 ≤ s) (h1 : s ≤ 4294967295) : 0 ≤ sWith s n ∧ sWith s n ≤ 4294967295 := by
 unfold sWith; split
 ·exact bits_u32 _ _ _
 ·exact ⟨h0, h1⟩
theorem sWithout_bd {s n : Int} (h0 : 0 ≤ s) (h1 : s ≤ 4294967295) : 0 ≤ sWithout s n ∧ sWithout s n ≤ 4294967295 := by
 unfold sWithout; split
 ·exact bits_u32 _ _ _
 ·exact ⟨h0, h1⟩
theorem stepG_chk {g : GS} {i c : Int} {b : Bool} (h : chkF g i c b ≠ 0) (tb : Nat) : stepG g i c b tb = (g, 0, chkF g i c b) := by unfold stepG; rw [if_pos h]
theorem stepG_has {g : GS} {i c : Int} {b : Bool} (h : chkF g i c b = 0) {n : Nat} (hw : g.ways (i, c, b) = some n) (tb : Nat) : stepG g i c b tb = (g, (n : Int), 0) := by unfold stepG; rw [if_neg (by omega), hw]
theorem stepG_err {g : GS} {i c : Int} {b : Bool} (h : chkF g i c b = 0) (hw : g.ways (i, c, b) = none) (tb : Nat) (he : (makeG g (stepSet g i c b) tb).2.2 ≠ 0) : stepG g i c b tb = (g, 0, (makeG g (stepSet g i c b) tb).2.2) := by
 unfold stepG; rw [if_neg (by omega), hw]; simp only; rw [if_pos he]
theorem stepG_new {g : GS} {i c : Int} {b : Bool} (h : chkF g i c b = 0) (hw : g.ways (i, c, b) = none) (tb : Nat) (he : (makeG g (stepSet g i c b) tb).2.2 = 0) : stepG g i c b tb =
   ({ (makeG g (stepSet g i c b) tb).1 with
     ways := putW (putW g.ways (i, c, b) (makeG g (stepSet g i c b) tb).2.1.toNat) ((makeG g (stepSet g i c b) tb).2.1, c, !b) i.toNat
     nw := g.nw + 1 + if (g.ways ((makeG g (stepSet g i c b) tb).2.1, c, !b)).isSome then 0 else 1 }, (makeG g (stepSet g i c b) tb).2.1, 0) := by
 unfold stepG; rw [if_neg (by omega), hw]; simp only; rw [if_neg (by omega)]
theorem step_gs {g : GS} {M : GS × Int × Int} {n k : Nat} {c : Int} {b nb : Bool} (h1 : M.2.1 = n) (h3 : M.1.ways = g.ways) (h4 : M.1.nw = g.nw) (hb : nb = !b) :
  ({ M.1 with ways := putW (putW g.ways ((k : Int), c, b) M.2.1.toNat) (M.2.1, c, !b) (k : Int).toNat, nw := g.nw + 1 + if (g.ways (M.2.1, c, !b)).isSome = true then 0 else 1 } : GS) =
  { { M.1 with ways := putW M.1.ways ((k : Int), c, b) n, nw := M.1.nw + 1 } with ways := putW (putW M.1.ways ((k : Int), c, b) n) ((n : Int), c, nb) k, nw := if (g.ways ((n : Int), c, nb)).isSome = true then M.1.nw + 1 else M.1.nw + 1 + 1 } := by
 subst hb
 rw [h1, h3, h4, Int.toNat_natCast, Int.toNat_natCast]
 cases (g.ways ((n : Int), c, !b)).isSome <;> rfl
theorem cntw_le {c : Bool} {a N : Nat} (h : a + 1 ≤ N) : (if c = true then a else a + 1) ≤ N := by split <;> omega
set_option maxRecDepth 100000 in
set_option maxHeartbeats 4000000 in
theorem step_any (B1 gb : Nat) (g : GS) (i c : Int) (b : Bool) (w : World) {mb wb : Nat} {ta : Option Addr} {tc : Nat} (hG : Graph B1 gb g mb wb ta tc w) (hi : I64 i) (hc : I64 c) (hnw : g.nw ≤ 999990) : Calls Tryz.prog 92 #[.pointer (some ⟨gb, 0, none⟩), .int .i64 i, .int .i64 c, .bool b] w (IsStep B1 gb g mb wb ta i c b w) := by
 have HG := Lib.hid hG
 clear hG
 have hBw : B1 ≤ w.heap.size := by obtain ⟨ca, cl, cc, bs, ws, h⟩ := HG.out; exact h.wf.2.2.2.2.2.1
 have hbX : Below w.heap.size w (w.alloc (.cells #[.int .i64 i, .int .i64 c, .bool b] 212)) := (Below.refl _ _).alloc (Nat.le_refl _) _
 have hX : (w.alloc (.cells #[.int .i64 i, .int .i64 c, .bool b] 212)).heap[w.heap.size]? = some (.cells #[.int .i64 i, .int .i64 c, .bool b] 212 (0, 0)) := heap_alloc_new w _
 have hzX := World.size_alloc w (.cells #[.int .i64 i, .int .i64 c, .bool b] 212)
 have HGX := Lib.hid (HG.out.below hbX)
 go_enter Tryz.func92, Tryz.ntmps92
 go_wp2_with fail
 refine (check_any B1 gb g i c b _ HGX.out).mono ?_
 rintro e w1 ⟨rfl, hb1⟩
 have hbe : Below w.heap.size w w1 := hbX.trans (hb1.mono (by omega))
 have hX1 := keep hb1 hX
 have HG1 := Lib.hid (HG.out.below hbe)
 clear hb1 hX hbX
 by_cases hk : chkF g i c b = 0
 ·have HK := Lib.hid hk
  have e1 : (chkF g i c b != 0) = false := by simp [hk]
  clear hk
  obtain ⟨ca, cl, cc, bs, ws, h⟩ := HG1.out
  have hlen : g.ts.length ≤ 64 := by have := h.wf; omega
  have c6 := cell_at h.blk 6
  have x0 := cell_at hX1 0
  have x1 := cell_at hX1 1
  have x2 := cell_at hX1 2
  simp at c6 x0 x1 x2
  have hl : ∀ nq, (Instr.lookup 135 (.map (some wb)) (.agg #[.int .i64 i, .int .i64 c, .bool b]) true).run Tryz.prog (w1.drewN nq) = .ok (.tuple #[.int .i64 (posI (g.ways (i, c, b))), .bool (g.ways (i, c, b)).isSome]) (w1.drewN nq) := by
   intro nq
   have hl := (h.below (below_drewN (Below.refl _ _) nq)).byWay.look_ok_int Tryz.law212 Tryz.underlying135 Tryz.underlying3 Tryz.zero3 (way_key i c b hi hc)
   rw [show ws (.string (keyBytes [.int .i64 i, .int .i64 c, .bool b])) = _ from h.hws (i, c, b) ⟨hi, hc⟩, intAt_litN, some_litN] at hl
   exact hl
  have hrange : 0 ≤ i ∧ i < g.ts.length := by
   have := HK.out
   unfold chkF at this
   split at this
   ·cases this
   ·omega
  obtain ⟨k, rfl⟩ := Int.eq_ofNat_of_zero_le hrange.1
  have H := Lib.hid h
  clear h
  go_wp2_with fail
  go_quiet (fail)
  clear hl
  cases hw : g.ways ((k : Int), c, b) with
  | some n =>
   have HP := Lib.hid (stepG_has HK.out hw 0)
   clear hw
   go_wp2_with fail
   go_returns
   exact ⟨0, _, _, by rw [HP.out]; rfl, by rw [HP.out]; exact HG1.out.below (below_drewN (Below.refl _ _) _), (Turned.of_below (below_drewN hbe _) hBw), GOut.of_below (below_drewN hbe _), newStep_old (by rw [HP.out])⟩
  | none =>
   have HW := Lib.hid hw
   clear hw c6 x0 x1 x2
   have hb2 : Below w1.heap.size w1 (w1.drewN nq) := below_drewN (Below.refl _ _) nq
   have HG2 := Lib.hid (H.out.below hb2)
   have hX2 := keep hb2 hX1
   have hbe2 : Below w.heap.size w (w1.drewN nq) := below_drewN hbe nq
   clear hb2
   generalize w1.drewN nq = W at HG2 hX2 hbe2 ⊢
   clear hX1 hbe H HG1
   obtain ⟨t, ht⟩ : ∃ t, g.ts[k]? = some t := ⟨_, List.getElem?_eq_getElem (by omega)⟩
   obtain ⟨q, rfl, hq⟩ := HG2.out.cell ht
   obtain ⟨htab, ht0, ht1⟩ := HG2.out.tab t (List.mem_of_getElem? ht)
   have HT := Lib.hid htab
   have c4 := cell_at HG2.out.blk 4
   simp at c4
   have hso := sWithout_bd (n := c) ht0 ht1
   have hsw := sWith_bd (s := sWithout t.2 c) (n := c) hso.1 hso.2
   have HSIG : Hid (g.sigs.getD (k : Int).toNat 0 = t.2) := Lib.hid (by rw [Int.toNat_natCast, List.getD_eq_getElem?_getD, sigs_get ht]; rfl)
   clear htab ht hi
   have HGW : Hid (Graph B1 gb g mb wb (some ⟨q, 0, none⟩) tc W) := Lib.hid ⟨_, _, _, _, _, HG2.out⟩
   clear HG2
   cases b
   ·have HSET : Hid (sWithout t.2 c = stepSet g k c false) := Lib.hid (by unfold stepSet; rw [HSIG.out]; rfl)
    go_wp2_with fail
    refine (tsig_any _ _ _ HT.out).mono ?_
    rintro e w' ⟨rfl, rfl⟩
    go_wp2_with fail
    refine (without_any _ _ _ ht0 ht1).mono ?_
    rintro e w' ⟨rfl, rfl⟩
    rw [HSET.out]
    rw [HSET.out] at hso
    clear hsw hq c4
    go_wp2_with fail
    refine (make_any B1 gb g _ _ HGW.out hso.1 hso.2).mono ?_
    rintro e w4 ⟨tb, ta4, tc4, rfl, hG4, hT4, hO4, hN4⟩
    have HNT := Lib.hid (fun (hm : (makeG g (stepSet g k c false) tb).1.ts = g.ts ++ [(tb, stepSet g k c false)]) => hN4 hm)
    have HSZ := Lib.hid hbe2.size
    have HO4 := Lib.hid ((GOut.of_below hbe2).trans hO4)
    clear hN4 hO4
    have hX4 := hT4.2 _ _ _ _ hX2 (by decide) (by decide)
    have hTw : Turned B1 w w4 := (Turned.of_below hbe2 hBw).trans hT4
    by_cases he : (makeG g (stepSet g k c false) tb).2.2 = 0
    ·have HP := Lib.hid (stepG_new HK.out HW.out tb he)
     obtain ⟨n, hn1, hn2, hn3, hn4, _, _, hn7⟩ := makeG_ok he
     have HN := Lib.hid hn1
     have HN3 := Lib.hid hn3
     have HN4 := Lib.hid hn4
     rw [hn1, he]
     clear hn1 hn3 hn4 he hT4
     generalize makeG g (stepSet g k c false) tb = M at hG4 hn2 HN HN3 HN4 HP hn7 HNT
     obtain ⟨ca, cl, cc, bs, ws, h⟩ := hG4
     have hlen4 : M.1.ts.length ≤ 64 := by have := h.wf; omega
     have hin : I64 (n : Int) := ⟨by omega, by omega⟩
     have hik : I64 (k : Int) := ⟨by omega, by omega⟩
     have hk1 : (putW M.1.ways (k, c, false) n) (n, c, true) = g.ways (n, c, true) := by
      unfold putW; rw [if_neg (by simp), HN3.out]
     obtain ⟨w5, hup, hM5, hg5, hz5, _⟩ := (show MapIs Tryz.prog w4.drew 212 3 wb M.1.nw ws from h.byWay).store Tryz.law212 Tryz.underlying135 (by have := HN4.out; unfold maxLen; omega) (way_key k c false hik hc) (plainElem_int Tryz.underlying3 (wf_i64 hin))
     rw [show ws (.string (keyBytes [.int .i64 k, .int .i64 c, .bool false])) = _ from h.hws (k, c, false) ⟨hik, hc⟩, HN3.out, HW.out] at hM5
     have hM5' : MapIs Tryz.prog w5 212 3 wb (M.1.nw + 1) _ := hM5
     clear hM5
     obtain ⟨h5, hT5, hO5⟩ := way_put h (x := (k, c, false)) ⟨hik, hc⟩ hn2 (by have := HN4.out; omega) hM5' (undrewG hg5)
     obtain ⟨w6, hup2, hM6, hg6, hz6, _⟩ := h5.byWay.store Tryz.law212 Tryz.underlying135 (by have := HN4.out; unfold maxLen; show M.1.nw + 1 < _; omega) (way_key n c true hin hc) (plainElem_int Tryz.underlying3 (wf_i64 hik))
     have hws2 := h5.hws (n, c, true) ⟨hin, hc⟩
     rw [show (putF ws (wayK (k, c, false)) (.int .i64 n)) (.string (keyBytes [.int .i64 n, .int .i64 c, .bool true])) = litN (g.ways (n, c, true)) from hws2.trans (congrArg litN hk1), some_litN] at hM6
     obtain ⟨h6, hT6, hO6⟩ := way_put h5 (x := (n, c, true)) ⟨hin, hc⟩ (show k < M.1.ts.length by omega) (cntw_le (by have := HN4.out; show M.1.nw + 1 + 1 ≤ 1000000; omega)) hM6 hg6
     have c6 := cell_at h.blk 6
     have c65 := cell_at h5.blk 6
     have x0 := cell_at hX4 0
     have x1 := cell_at hX4 1
     have x2 := cell_at hX4 2
     simp at c6 c65 x0 x1 x2
     have HF := Lib.hid (And.intro h6 (And.intro (hTw.trans (hT5.trans hT6)) (And.intro (HO4.out.trans (hO5.trans hO6)) (hT5.trans hT6))))
     clear h h5 hM5' hM6 hws2 h6 hT5 hT6 hO5 hO6 hTw hg5 hg6 hX4 hX2 hk1
     go_wp2_with fail
     go_region
     go_wp2_with fail
     go_returns
     refine ⟨tb, ta4, tc4, by rw [HP.out, HN.out]; rfl, ?_, HF.out.2.1, HF.out.2.2.1, fun hn => ?_⟩
     rotate_left
     ·have hm : M.1.ts = g.ts ++ [(tb, stepSet g k c false)] := by rw [HP.out] at hn; exact hn
      obtain ⟨n1, n2, n3, n4⟩ := HNT.out hm
      exact ⟨HF.out.2.2.2.new n1, Nat.le_trans HSZ.out n2, n3, n4⟩
     rw [HP.out]
     exact (step_gs HN.out HN3.out HN4.out rfl) ▸ ⟨_, _, _, _, _, HF.out.1⟩
    ·have HP := Lib.hid (stepG_err HK.out HW.out tb he)
     have e2 : ((makeG g (stepSet g k c false) tb).2.2 != 0) = true := by simp [he]
     rw [makeG_err he] at hG4
     have HG4 := Lib.hid hG4
     clear he hG4
     go_wp2_with fail
     go_returns
     exact ⟨tb, _, _, by rw [HP.out]; rfl, by rw [HP.out]; exact HG4.out, hTw, HO4.out, newStep_old (by rw [HP.out])⟩
   ·have HSET : Hid (sWith (sWithout t.2 c) c = stepSet g k c true) := Lib.hid (by unfold stepSet; rw [HSIG.out]; rfl)
    go_wp2_with fail
    refine (tsig_any _ _ _ HT.out).mono ?_
    rintro e w' ⟨rfl, rfl⟩
    go_wp2_with fail
    refine (without_any _ _ _ ht0 ht1).mono ?_
    rintro e w' ⟨rfl, rfl⟩
    go_wp2_with fail
    refine (with_any _ _ _ hso.1 hso.2).mono ?_
    rintro e w' ⟨rfl, rfl⟩
    rw [HSET.out]
    rw [HSET.out] at hsw
    clear hso hq c4
    go_wp2_with fail
    refine (make_any B1 gb g _ _ HGW.out hsw.1 hsw.2).mono ?_
    rintro e w4 ⟨tb, ta4, tc4, rfl, hG4, hT4, hO4, hN4⟩
    have HNT := Lib.hid (fun (hm : (makeG g (stepSet g k c true) tb).1.ts = g.ts ++ [(tb, stepSet g k c true)]) => hN4 hm)
    have HSZ := Lib.hid hbe2.size
    have HO4 := Lib.hid ((GOut.of_below hbe2).trans hO4)
    clear hN4 hO4
    have hX4 := hT4.2 _ _ _ _ hX2 (by decide) (by decide)
    have hTw : Turned B1 w w4 := (Turned.of_below hbe2 hBw).trans hT4
    by_cases he : (makeG g (stepSet g k c true) tb).2.2 = 0
    ·have HP := Lib.hid (stepG_new HK.out HW.out tb he)
     obtain ⟨n, hn1, hn2, hn3, hn4, _, _, hn7⟩ := makeG_ok he
     have HN := Lib.hid hn1
     have HN3 := Lib.hid hn3
     have HN4 := Lib.hid hn4
     rw [hn1, he]
     clear hn1 hn3 hn4 he hT4
     generalize makeG g (stepSet g k c true) tb = M at hG4 hn2 HN HN3 HN4 HP hn7 HNT
     obtain ⟨ca, cl, cc, bs, ws, h⟩ := hG4
     have hlen4 : M.1.ts.length ≤ 64 := by have := h.wf; omega
     have hin : I64 (n : Int) := ⟨by omega, by omega⟩
     have hik : I64 (k : Int) := ⟨by omega, by omega⟩
     have hk1 : (putW M.1.ways (k, c, true) n) (n, c, false) = g.ways (n, c, false) := by
      unfold putW; rw [if_neg (by simp), HN3.out]
     obtain ⟨w5, hup, hM5, hg5, hz5, _⟩ := (show MapIs Tryz.prog w4.drew 212 3 wb M.1.nw ws from h.byWay).store Tryz.law212 Tryz.underlying135 (by have := HN4.out; unfold maxLen; omega) (way_key k c true hik hc) (plainElem_int Tryz.underlying3 (wf_i64 hin))
     rw [show ws (.string (keyBytes [.int .i64 k, .int .i64 c, .bool true])) = _ from h.hws (k, c, true) ⟨hik, hc⟩, HN3.out, HW.out] at hM5
     have hM5' : MapIs Tryz.prog w5 212 3 wb (M.1.nw + 1) _ := hM5
     clear hM5
     obtain ⟨h5, hT5, hO5⟩ := way_put h (x := (k, c, true)) ⟨hik, hc⟩ hn2 (by have := HN4.out; omega) hM5' (undrewG hg5)
     obtain ⟨w6, hup2, hM6, hg6, hz6, _⟩ := h5.byWay.store Tryz.law212 Tryz.underlying135 (by have := HN4.out; unfold maxLen; show M.1.nw + 1 < _; omega) (way_key n c false hin hc) (plainElem_int Tryz.underlying3 (wf_i64 hik))
     have hws2 := h5.hws (n, c, false) ⟨hin, hc⟩
     rw [show (putF ws (wayK (k, c, true)) (.int .i64 n)) (.string (keyBytes [.int .i64 n, .int .i64 c, .bool false])) = litN (g.ways (n, c, false)) from hws2.trans (congrArg litN hk1), some_litN] at hM6
     obtain ⟨h6, hT6, hO6⟩ := way_put h5 (x := (n, c, false)) ⟨hin, hc⟩ (show k < M.1.ts.length by omega) (cntw_le (by have := HN4.out; show M.1.nw + 1 + 1 ≤ 1000000; omega)) hM6 hg6
     have c6 := cell_at h.blk 6
     have c65 := cell_at h5.blk 6
     have x0 := cell_at hX4 0
     have x1 := cell_at hX4 1
     have x2 := cell_at hX4 2
     simp at c6 c65 x0 x1 x2
     have HF := Lib.hid (And.intro h6 (And.intro (hTw.trans (hT5.trans hT6)) (And.intro (HO4.out.trans (hO5.trans hO6)) (hT5.trans hT6))))
     clear h h5 hM5' hM6 hws2 h6 hT5 hT6 hO5 hO6 hTw hg5 hg6 hX4 hX2 hk1
     go_wp2_with fail
     go_region
     go_wp2_with fail
     go_returns
     refine ⟨tb, ta4, tc4, by rw [HP.out, HN.out]; rfl, ?_, HF.out.2.1, HF.out.2.2.1, fun hn => ?_⟩
     rotate_left
     ·have hm : M.1.ts = g.ts ++ [(tb, stepSet g k c true)] := by rw [HP.out] at hn; exact hn
      obtain ⟨n1, n2, n3, n4⟩ := HNT.out hm
      exact ⟨HF.out.2.2.2.new n1, Nat.le_trans HSZ.out n2, n3, n4⟩
     rw [HP.out]
     exact (step_gs HN.out HN3.out HN4.out rfl) ▸ ⟨_, _, _, _, _, HF.out.1⟩
    ·have HP := Lib.hid (stepG_err HK.out HW.out tb he)
     have e2 : ((makeG g (stepSet g k c true) tb).2.2 != 0) = true := by simp [he]
     rw [makeG_err he] at hG4
     have HG4 := Lib.hid hG4
     clear he hG4
     go_wp2_with fail
     go_returns
     exact ⟨tb, _, _, by rw [HP.out]; rfl, by rw [HP.out]; exact HG4.out, hTw, HO4.out, newStep_old (by rw [HP.out])⟩
 ·have HP := Lib.hid (stepG_chk hk 0)
  have e1 : (chkF g i c b != 0) = true := by simp [hk]
  clear hk
  go_wp2_with fail
  go_returns
  exact ⟨0, _, _, by rw [HP.out]; rfl, by rw [HP.out]; exact HG1.out, Turned.of_below hbe hBw, GOut.of_below hbe, newStep_old (by rw [HP.out])⟩
end Go.Proofs.YthmpknlgkflhiabGreat
namespace Go.Proofs.YthmpknlgkflhiabGreat
open Go.RowKit
set_option linter.unusedVariables false
def newOk (ver : Int) (cs : List Cmp) (archs rows : Int) : Bool := (schemaCheck ver cs == 0) && decide (1 ≤ archs) && decide (archs ≤ 64) && decide (1 ≤ rows) && decide (rows ≤ 256)
def GS0 (ver : Int) (cs : List Cmp) (archs rows : Int) : GS := { ver := ver, archs := archs, rows := rows, cs := cs, ts := [], ways := fun _ => none, nw := 0 }
def IsNew (ver : Int) (cs : List Cmp) (archs rows : Int) (w : World) (e : Ending) (w' : World) : Prop :=
 Below w.heap.size w w' ∧ if newOk ver cs archs rows then ∃ B1 gb mb wb ta tc, e = .returned (.pointer (some ⟨gb, 0, none⟩)) ∧ w.heap.size ≤ B1 ∧ Graph B1 gb (GS0 ver cs archs rows) mb wb ta tc w' ∧ ∀ b, gfoot gb mb wb ta b → w.heap.size ≤ b else e = .returned (.pointer none)
set_option maxRecDepth 100000 in
set_option maxHeartbeats 2000000 in
theorem graphNew_any (ver : Int) (cs : List Cmp) (a : Option Addr) (len cap : Nat) (archs rows : Int) (w : World) (hcs : CompsAt w.heap.size w a len cs) (hw : CompsWf cs) (hl : len ≤ 100000) (hf : ∀ c ∈ cs, c.fields.length ≤ 100000) (hn : a = none → len = 0 ∧ cap = 0) :
  Calls Tryz.prog 30 #[.agg #[.int .i64 ver, .slice a len cap], .int .i64 archs, .int .i64 rows] w (IsNew ver cs archs rows w) := by
 have hmm := @run_makeMap Tryz.prog
 have hbel0 : Below w.heap.size w (w.alloc (.cells #[.int .i64 ver, .slice a len cap] 24)) := by go_grown
 go_enter Tryz.func30, Tryz.ntmps30
 go_wp2_with fail
 refine (schemaCheck_any ver cs _ _ _ _ ((hcs.below hbel0).mono hbel0.size) hw).mono ?_
 rintro e w1 ⟨rfl, hb1⟩
 have hs1 := keep hb1 (heap_alloc_new w (.cells #[.int .i64 ver, .slice a len cap] 24))
 have s0 := cell_at hs1 0
 have s1 := cell_at hs1 1
 simp at s0 s1
 have hbel1 : Below w.heap.size w w1 := hbel0.trans (hb1.mono hbel0.size)
 by_cases hsc : schemaCheck ver cs = 0
 ·have e1 : (schemaCheck ver cs != 0) = false := by simp [hsc]
  have HSC := Lib.hid hsc
  clear hsc
  rcases (by omega : archs < 1 ∨ (1 ≤ archs ∧ 64 < archs) ∨ (1 ≤ archs ∧ archs ≤ 64 ∧ rows < 1) ∨ (1 ≤ archs ∧ archs ≤ 64 ∧ 1 ≤ rows ∧ 256 < rows) ∨ (1 ≤ archs ∧ archs ≤ 64 ∧ 1 ≤ rows ∧ rows ≤ 256)) with h | ⟨h, h'⟩ | ⟨h, h', h2⟩ | ⟨h, h', h2, h3⟩ | ⟨h, h', h2, h3⟩
  ·have HT : Hid (newOk ver cs archs rows = false) := Lib.hid (by simp [newOk]; omega)
   go_wp2_with fail
   go_returns
   exact ⟨hbel1, by rw [HT.out]; rfl⟩
  ·have HT : Hid (newOk ver cs archs rows = false) := Lib.hid (by simp [newOk]; omega)
   go_wp2_with fail
   go_returns
   exact ⟨hbel1, by rw [HT.out]; rfl⟩
  ·have HT : Hid (newOk ver cs archs rows = false) := Lib.hid (by simp [newOk]; omega)
   go_wp2_with fail
   go_returns
   exact ⟨hbel1, by rw [HT.out]; rfl⟩
  ·have HT : Hid (newOk ver cs archs rows = false) := Lib.hid (by simp [newOk]; omega)
   go_wp2_with fail
   go_returns
   exact ⟨hbel1, by rw [HT.out]; rfl⟩
  ·have HT : Hid (newOk ver cs archs rows = true) := Lib.hid (by simp [newOk, HSC.out]; omega)
   go_wp2_with fail
   refine (schemaClone_any ver cs _ _ _ _ ((hcs.below hbel1).mono hbel1.size) hl hf hn).mono ?_
   rintro e w2 ⟨va, vc, rfl, hcs2, hvn, hb2, hty2⟩
   have hbel2 : Below w.heap.size w w2 := hbel1.trans (hb2.mono hbel1.size)
   go_wp2_with fail
   go_returns
   refine ⟨((hbel2.alloc hbel2.size _).alloc (by have := hbel2.size; simp; omega) _).alloc (by have := hbel2.size; simp; omega) _, ?_⟩
   rw [HT.out]
   refine ⟨w2.heap.size, w2.heap.size + 2, w2.heap.size, w2.heap.size + 1, none, 0, ?_, hbel2.size, ⟨va, len, vc, fun _ => none, fun _ => none, ?_⟩, fun b hb => by have := hbel2.size; rcases hb with h | h | h | h <;> first | omega | (cases h)⟩
   ·rfl
   ·refine { bg := by omega, bm := by omega, bw := by omega, ne := by omega, blk := ?_, comps := ?_, cty := hty2.hk (KeepsTy.of_below (((Below.refl _ w2).alloc (Nat.le_refl _) _).alloc (by simp) _ |>.alloc (by simp; omega) _)), row := World.ownsRow_nil _ _ _ _, bySet := ?_, byWay := ?_, tab := (fun t ht => by cases ht), hbs := fun s => rfl, hws := fun x hx => rfl, wf := ⟨hw, hf, h, h', by simp [GS0]; omega, by simp; omega, by simp [GS0]⟩, wok := (fun x n hx => by cases hx), tlo := (fun t ht => by cases ht), cn := ⟨hvn, hl⟩ }
    ·have := heap_alloc_new ((w2.alloc (.map #[] 0)).alloc (.map #[] 0)) (.cells #[.int .i64 ver, .slice va len vc, .int .i64 archs, .int .i64 rows, .slice none 0 0, .map (some w2.heap.size), .map (some (w2.heap.size + 1))] 138)
     rw [World.size_alloc, World.size_alloc] at this
     exact this
    ·exact (hcs2.below (((Below.refl _ w2).alloc (Nat.le_refl _) _).alloc (by simp) _ |>.alloc (by simp; omega) _)).mono (by simp; omega)
    ·exact ((MapIs.made w2 Tryz.prog 57 3).alloc _).alloc _
    ·have := (MapIs.made (w2.alloc (.map #[] 0)) Tryz.prog 212 3).alloc (.cells #[.int .i64 ver, .slice va len vc, .int .i64 archs, .int .i64 rows, .slice none 0 0, .map (some w2.heap.size), .map (some (w2.heap.size + 1))] 138)
     rw [World.size_alloc] at this
     exact this
 ·have e1 : (schemaCheck ver cs != 0) = true := by simp [hsc]
  have HT : Hid (newOk ver cs archs rows = false) := Lib.hid (by simp [newOk, hsc])
  clear hsc
  go_wp2_with fail
  go_returns
  exact ⟨hbel1, by rw [HT.out]; rfl⟩
end Go.Proofs.YthmpknlgkflhiabGreat
namespace Go.Proofs.YthmpknlgkflhiabGreat
open Go.RowKit
set_option linter.unusedVariables false
structure CCl (w0 : World) (U : Nat) (d : CD) (va : Option Addr) (vc k : Nat) (gs : List Nat) (cf : Nat → Nat) (wx : World) : Prop where
 t : wx.heap[U]? = some (.cells #[.int .i64 d.size, .int .i64 d.cap, .int .i64 d.rows.length, .slice va k vc] 202 (0, 0))
 own : wx.ownsRow (U + 1) 189 1 (.slice va k vc) k (gs.map (chunkV d.size cf))
 below : Below w0.heap.size w0 wx
 len : gs.length = k
 nd : gs.Nodup
 good : ∀ (i g' : Nat), gs[i]? = some g' → U + 1 ≤ g' ∧ 16 * d.size ≤ cf g' ∧ ∃ g arr arr', d.gs[i]? = some g ∧ w0.heap[g]? = some (.cells arr 5 (0, 0)) ∧ wx.heap[g']? = some (.cells arr' 5 (0, 0)) ∧ arr'.size = cf g' ∧ (∀ u ∈ arr'.toList.take (16 * d.size), u.oneCell' = true) ∧ arr'.toList.take (16 * d.size) = arr.toList.take (16 * d.size)
section
variable {w0 : World} {U : Nat} {d : CD} {va : Option Addr} {vc k : Nat} {gs : List Nat} {cf : Nat → Nat} {wx : World}
theorem CCl.keepB (h : CCl w0 U d va vc k gs cf wx) {w' : World} (hb : Below wx.heap.size wx w') : CCl w0 U d va vc k gs cf w' :=
 ⟨keep hb h.t, ownsRow_below h.own hb, h.below.trans (hb.mono h.below.size), h.len, h.nd, fun i g' hi => by
  obtain ⟨h1, h2, g, arr, arr', h3, h4, h5, h6⟩ := h.good i g' hi
  exact ⟨h1, h2, g, arr, arr', h3, h4, keep hb h5, h6⟩⟩
theorem CCl.fin {B : Nat} (h : CCl w0 U d va vc d.gs.length gs cf wx) (hd : ColAt B w0 d) (hU : w0.heap.size ≤ U) : ColAt w0.heap.size wx { d with cb := U, va := va, vc := vc, gs := gs, cf := cf } := by
 have hlen := h.len
 refine ⟨⟨by rw [hlen]; exact h.t, by rw [hlen]; exact ownsRow_mono h.own (by omega), hU, h.nd, fun g' hg' => ?_, hd.mem.hsz, hd.mem.hn, hd.mem.hcap, by rw [hlen]; exact hd.mem.hgl, fun g' hg' => ?_⟩, by rw [hlen]; exact hd.num, fun i row hr g' hg' k x hx => ?_, hd.sz, hd.hle⟩
 ·obtain ⟨i, hi⟩ := List.getElem?_of_mem hg'
  obtain ⟨h1, h2, g, arr, arr', h3, h4, h5, h6, h7, h8⟩ := h.good i g' hi
  exact ⟨by omega, arr', h5, h6, h7⟩
 ·obtain ⟨i, hi⟩ := List.getElem?_of_mem hg'
  exact (h.good i g' hi).2.1
 ·obtain ⟨h1, h2, g, arr, arr', h3, h4, h5, h6, h7, h8⟩ := h.good (i / 16) g' hg'
  have hc := hd.cell i row hr g h3 k x hx
  have hkl := (List.getElem?_eq_some_iff.1 hx).1
  have hsz := hd.sz row (List.mem_of_getElem? hr)
  have hoff : i % 16 * d.size ≤ 15 * d.size := Nat.mul_le_mul_right _ (by omega)
  have hin : i % 16 * d.size + k < 16 * d.size := by omega
  rw [cell_at h4] at hc
  rw [cell_at h5]
  have e1 : (arr'.toList.take (16 * d.size))[i % 16 * d.size + k]? = arr'[i % 16 * d.size + k]? := by rw [List.getElem?_take, if_pos hin]; simp
  have e2 : (arr.toList.take (16 * d.size))[i % 16 * d.size + k]? = arr[i % 16 * d.size + k]? := by rw [List.getElem?_take, if_pos hin]; simp
  rw [← e1, h8, e2]
  exact hc
end
end Go.Proofs.YthmpknlgkflhiabGreat
namespace Go.Proofs.YthmpknlgkflhiabGreat
open Go.RowKit
set_option linter.unusedVariables false
def bareC (x : CV) : CV := { x with cb := 0 }
theorem bareC_eq {x y : CV} (h : bareC x = bareC y) : x.c = y.c ∧ x.fa = y.fa ∧ x.fl = y.fl ∧ x.fc = y.fc := by
 obtain ⟨a, b, c, d, e⟩ := x
 obtain ⟨a', b', c', d', e'⟩ := y
 simp only [bareC, CV.mk.injEq, and_true] at h
 exact h
theorem bareC_at {l m : List CV} (h : l.map bareC = m.map bareC) {i : Nat} {x : CV} (hx : l[i]? = some x) : ∃ y, m[i]? = some y ∧ x.c = y.c ∧ x.fa = y.fa ∧ x.fl = y.fl ∧ x.fc = y.fc := by
 have h1 := congrArg (·[i]?) h
 simp only [List.getElem?_map, hx, Option.map_some] at h1
 cases hy : m[i]? with
 | none => rw [hy] at h1; cases h1
 | some y =>
  rw [hy] at h1
  exact ⟨y, rfl, bareC_eq (Option.some.inj h1)⟩
theorem bareC_compL : ∀ {l m : List CV}, l.map bareC = m.map bareC → l.flatMap compL = m.flatMap compL
 | [], [], _ => rfl
 | [], _ :: _, h => by simp at h
 | _ :: _, [], h => by simp at h
 | x :: l, y :: m, h => by
  simp only [List.map_cons, List.cons.injEq] at h
  obtain ⟨h1, h2, h3, h4⟩ := bareC_eq h.1
  rw [List.flatMap_cons, List.flatMap_cons, bareC_compL h.2]
  unfold compL
  rw [h1, h2, h3, h4]
theorem bareC_id : ∀ {l m : List CV}, l.map bareC = m.map bareC → l.map (·.c) = m.map (·.c)
 | [], [], _ => rfl
 | [], _ :: _, h => by simp at h
 | _ :: _, [], h => by simp at h
 | x :: l, y :: m, h => by
  simp only [List.map_cons, List.cons.injEq] at h ⊢
  exact ⟨(bareC_eq h.1).1, bareC_id h.2⟩
theorem ColAt.mono {B B' : Nat} {w : World} {d : CD} (h : ColAt B w d) (hb : B' ≤ B) : ColAt B' w d :=
 ⟨⟨h.mem.blk, ownsRow_mono h.mem.own hb, Nat.le_trans hb h.mem.hcb, h.mem.nd, fun g hg => ⟨Nat.le_trans hb (h.mem.chunk g hg).1, (h.mem.chunk g hg).2⟩, h.mem.hsz, h.mem.hn, h.mem.hcap, h.mem.hgl, h.mem.hcf⟩, h.num, h.cell, h.sz, h.hle⟩
structure TCr (w0 : World) (U : Nat) (t : TD) (ea : Option Addr) (ec : Nat) (la : Option Addr) (lc k : Nat) (out : List CV) (D : List CD) (wx : World) : Prop where
 blk : wx.heap[U]? = some (.cells #[.int .i64 t.ver, .slice t.ca t.cps.length t.cc, .int .u32 t.set, .int .i64 (t.most : Int), .int .i64 (t.kept : Int), .slice ea t.ents.length ec, .slice la k lc] 143 (0, 0))
 ents : wx.ownsRow (U + 1) 38 1 (.slice ea t.ents.length ec) t.ents.length (t.ents.map (.int .u64))
 cols : wx.ownsRow (U + 1) 146 4 (.slice la k lc) k (out.flatMap colL)
 below : Below w0.heap.size w0 wx
 len : out.length = k
 lenD : D.length = k
 like : out.map bareC = (t.cps.take k).map bareC
 good : ∀ (i : Nat) (x : CV) (d : CD), out[i]? = some x → D[i]? = some d → d.cb = x.cb ∧ ColAt (U + 1) wx d ∧ ∃ d0, t.cols[i]? = some d0 ∧ d.rows = d0.rows ∧ d.size = d0.size ∧ d.cap = d0.cap
 apart : ∀ (i j : Nat) (d e : CD), i ≠ j → D[i]? = some d → D[j]? = some e → ∀ b, d.foot b → ¬ e.foot b
section
variable {w0 : World} {U : Nat} {t : TD} {ea : Option Addr} {ec : Nat} {la : Option Addr} {lc k : Nat} {out : List CV} {D : List CD} {wx : World}
theorem TCr.goodD (h : TCr w0 U t ea ec la lc k out D wx) {i : Nat} {d : CD} (hd : D[i]? = some d) : ColAt (U + 1) wx d := by
 obtain ⟨x, hx⟩ : ∃ x, out[i]? = some x := ⟨_, List.getElem?_eq_getElem (by have := (List.getElem?_eq_some_iff.1 hd).1; have := h.len; have := h.lenD; omega)⟩
 exact (h.good i x d hx hd).2.1
theorem TCr.keepB (h : TCr w0 U t ea ec la lc k out D wx) {w' : World} (hb : Below wx.heap.size wx w') : TCr w0 U t ea ec la lc k out D w' :=
 ⟨keep hb h.blk, ownsRow_below h.ents hb, ownsRow_below h.cols hb, h.below.trans (hb.mono h.below.size), h.len, h.lenD, h.like, fun i x d hx hd => by
  obtain ⟨h1, h2, h3⟩ := h.good i x d hx hd
  exact ⟨h1, h2.out (F := fun _ => False) (Out.of hb) (fun _ _ => id), h3⟩, h.apart⟩
theorem TCr.fin {B : Nat} (h : TCr w0 U t ea ec la lc t.cps.length out D wx) (ht : TabIn B w0 t) (hU : w0.heap.size ≤ U) : TabIn B wx { t with tb := U, ea := ea, ec := ec, la := la, lc := lc, cps := out, cols := D } := by
 have hB : B ≤ U := by have := ht.hB; have := lt_some ht.blk; omega
 have hlike : out.map bareC = t.cps.map bareC := by rw [h.like, List.take_length]
 have hlen := h.len
 have htx : TabIn B wx t := ht.below h.below
 refine ⟨by rw [hlen]; exact h.blk, ?_, ?_, fun x hx => ?_, ownsRow_mono h.ents (by omega), hB, by rw [h.lenD, hlen], fun i x d hx hd => ?_, fun d hd => ?_, h.apart, fun x hx => ?_, by rw [hlen]; exact ht.n24, ht.most1, ht.most2, ht.room, ht.set0, ht.set1, ?_⟩
 ·show wx.ownsRow B _ 3 (.slice t.ca out.length t.cc) out.length (out.flatMap compL)
  rw [hlen, bareC_compL hlike]
  exact htx.comps
 ·show wx.ownsRow B _ 4 (.slice la out.length lc) out.length (out.flatMap colL)
  rw [hlen]
  exact ownsRow_mono h.cols (by omega)
 ·obtain ⟨i, hi⟩ := List.getElem?_of_mem hx
  obtain ⟨y, hy, h1, h2, h3, h4⟩ := bareC_at hlike hi
  have hf := htx.fields y (List.mem_of_getElem? hy)
  exact ⟨by rw [h1, h2, h3, h4]; exact hf.row, by rw [h1, h3]; exact hf.len, by rw [h3]; exact hf.max, by rw [h2, h3, h4]; exact hf.nil⟩
 ·obtain ⟨h1, h2, d0, h3, h4, h5, h6⟩ := h.good i x d hx hd
  obtain ⟨y, hy, g1, _⟩ := bareC_at hlike hx
  obtain ⟨k1, k2, k3, k4⟩ := ht.col i y d0 hy h3
  exact ⟨h1, by rw [h5, k2, g1], by rw [h6]; exact k3, by rw [h4]; exact k4⟩
 ·obtain ⟨i, hi⟩ := List.getElem?_of_mem hd
  exact (h.goodD hi).mono (by omega)
 ·obtain ⟨i, hi⟩ := List.getElem?_of_mem hx
  obtain ⟨y, hy, h1, _⟩ := bareC_at hlike hi
  rw [h1]
  exact ht.lay y (List.mem_of_getElem? hy)
 ·show out.map (·.c.id) = _
  have := bareC_id hlike
  have e := congrArg (List.map (·.id)) this
  rw [List.map_map, List.map_map] at e
  exact e.trans ht.ids
end
end Go.Proofs.YthmpknlgkflhiabGreat
