/- Contract of (*Graph).Step: the walk. -/
import Derived.Test.YtoadihebdaooaaaGreatB7
import Derived.Laws.BitsAllLaws
namespace Go.Proofs.YtoadihebdaooaaaGreat
open Go.RowKit
open Go.Maps (Keyed int_keyed keyOf_int_mk)
set_option linter.unusedVariables false

theorem bits_u32 (op : BinOp) (x y : Int) : 0 ≤ bits op .u32 x y ∧ bits op .u32 x y ≤ 4294967295 := by
  unfold bits
  cases op <;> simp [IntKind.wrap, IntKind.bits, IntKind.signed] <;> omega
theorem sWith_bd {s n : Int} (h0 : 0 ≤ s) (h1 : s ≤ 4294967295) : 0 ≤ sWith s n ∧ sWith s n ≤ 4294967295 := by
  unfold sWith; split
  · exact bits_u32 _ _ _
  · exact ⟨h0, h1⟩
theorem sWithout_bd {s n : Int} (h0 : 0 ≤ s) (h1 : s ≤ 4294967295) : 0 ≤ sWithout s n ∧ sWithout s n ≤ 4294967295 := by
  unfold sWithout; split
  · exact bits_u32 _ _ _
  · exact ⟨h0, h1⟩
theorem stepG_chk {g : GS} {i c : Int} {b : Bool} (h : chkF g i c b ≠ 0) (tb : Nat) : stepG g i c b tb = (g, 0, chkF g i c b) := by unfold stepG; rw [if_pos h]
theorem stepG_has {g : GS} {i c : Int} {b : Bool} (h : chkF g i c b = 0) {n : Nat} (hw : g.ways (i, c, b) = some n) (tb : Nat) : stepG g i c b tb = (g, (n : Int), 0) := by unfold stepG; rw [if_neg (by omega), hw]
theorem stepG_err {g : GS} {i c : Int} {b : Bool} (h : chkF g i c b = 0) (hw : g.ways (i, c, b) = none) (tb : Nat) (he : (makeG g (stepSet g i c b) tb).2.2 ≠ 0) : stepG g i c b tb = (g, 0, (makeG g (stepSet g i c b) tb).2.2) := by
  unfold stepG; rw [if_neg (by omega), hw]; simp only; rw [if_pos he]
theorem stepG_new {g : GS} {i c : Int} {b : Bool} (h : chkF g i c b = 0) (hw : g.ways (i, c, b) = none) (tb : Nat) (he : (makeG g (stepSet g i c b) tb).2.2 = 0) : stepG g i c b tb =
      ({ (makeG g (stepSet g i c b) tb).1 with
          ways := putW (putW g.ways (i, c, b) (makeG g (stepSet g i c b) tb).2.1.toNat) ((makeG g (stepSet g i c b) tb).2.1, c, !b) i.toNat
          nw := g.nw + 1 + if (g.ways ((makeG g (stepSet g i c b) tb).2.1, c, !b)).isSome then 0 else 1 }, (makeG g (stepSet g i c b) tb).2.1, 0) := by
  unfold stepG; rw [if_neg (by omega), hw]; simp only; rw [if_neg (by omega)]

theorem step_gs {g : GS} {M : GS × Int × Int} {n k : Nat} {c : Int} {b nb : Bool} (h1 : M.2.1 = n) (h3 : M.1.ways = g.ways) (h4 : M.1.nw = g.nw) (hb : nb = !b) :
    ({ M.1 with ways := putW (putW g.ways ((k : Int), c, b) M.2.1.toNat) (M.2.1, c, !b) (k : Int).toNat, nw := g.nw + 1 + if (g.ways (M.2.1, c, !b)).isSome = true then 0 else 1 } : GS) =
    { { M.1 with ways := putW M.1.ways ((k : Int), c, b) n, nw := M.1.nw + 1 } with ways := putW (putW M.1.ways ((k : Int), c, b) n) ((n : Int), c, nb) k, nw := if (g.ways ((n : Int), c, nb)).isSome = true then M.1.nw + 1 else M.1.nw + 1 + 1 } := by
  subst hb
  rw [h1, h3, h4, Int.toNat_natCast, Int.toNat_natCast]
  cases (g.ways ((n : Int), c, !b)).isSome <;> rfl
theorem cnt_le {c : Bool} {a N : Nat} (h : a + 1 ≤ N) : (if c = true then a else a + 1) ≤ N := by split <;> omega
set_option maxRecDepth 100000 in
set_option maxHeartbeats 4000000 in
theorem step_any (B1 gb : Nat) (g : GS) (i c : Int) (b : Bool) (w : World) (hG : Graph B1 gb g w) (hi : I64 i) (hc : I64 c) (hnw : g.nw ≤ 999990) : Calls Tryz.prog 12 #[.pointer (some ⟨gb, 0, none⟩), .int .i64 i, .int .i64 c, .bool b] w (IsStep B1 gb g i c b w) := by
  have HG := Lib.hid hG
  clear hG
  have hBw : B1 ≤ w.heap.size := by obtain ⟨mb, wb, ca, cl, cc, ta, tc, bs, ws, h⟩ := HG.out; exact h.wf.2.2.2.2.2.1
  have hbX : Below w.heap.size w (w.alloc (.cells #[.int .i64 i, .int .i64 c, .bool b] 128)) := (Below.refl _ _).alloc (Nat.le_refl _) _
  have hX : (w.alloc (.cells #[.int .i64 i, .int .i64 c, .bool b] 128)).heap[w.heap.size]? = some (.cells #[.int .i64 i, .int .i64 c, .bool b] 128 (0, 0)) := heap_alloc_new w _
  have hzX := World.size_alloc w (.cells #[.int .i64 i, .int .i64 c, .bool b] 128)
  have HGX := Lib.hid (HG.out.below hbX)
  go_enter Tryz.func12, Tryz.ntmps12
  go_wp2_with fail
  refine (check_any B1 gb g i c b _ HGX.out).mono ?_
  rintro e w1 ⟨rfl, hb1⟩
  have hbe : Below w.heap.size w w1 := hbX.trans (hb1.mono (by omega))
  have hX1 := keep hb1 hX
  have HG1 := Lib.hid (HG.out.below hbe)
  clear hb1 hX hbX
  by_cases hk : chkF g i c b = 0
  · have HK := Lib.hid hk
    have e1 : (chkF g i c b != 0) = false := by simp [hk]
    clear hk
    obtain ⟨mb, wb, ca, cl, cc, ta, tc, bs, ws, h⟩ := HG1.out
    have hlen : g.ts.length ≤ 64 := by have := h.wf; omega
    have c6 := cell_at h.blk 6
    have x0 := cell_at hX1 0
    have x1 := cell_at hX1 1
    have x2 := cell_at hX1 2
    simp at c6 x0 x1 x2
    have hl : ∀ nq, (Instr.lookup 116 (.map (some wb)) (.agg #[.int .i64 i, .int .i64 c, .bool b]) true).run Tryz.prog (w1.drewN nq) = .ok (.tuple #[.int .i64 (posI (g.ways (i, c, b))), .bool (g.ways (i, c, b)).isSome]) (w1.drewN nq) := by
      intro nq
      have hl := (h.below (below_drewN (Below.refl _ _) nq)).byWay.look_ok_int Tryz.law128 Tryz.underlying116 Tryz.underlying3 Tryz.zero3 (way_key i c b hi hc)
      rw [show ws (.string (keyBytes [.int .i64 i, .int .i64 c, .bool b])) = _ from h.hws (i, c, b) ⟨hi, hc⟩, intAt_litN, some_litN] at hl
      exact hl
    have hrange : 0 ≤ i ∧ i < g.ts.length := by
      have := HK.out
      unfold chkF at this
      split at this
      · cases this
      · omega
    obtain ⟨k, rfl⟩ := Int.eq_ofNat_of_zero_le hrange.1
    have H := Lib.hid h
    clear h
    go_wp2_with fail
    go_quiet (fail)
    clear hl
    cases hw : g.ways ((k : Int), c, b) with
    | some n =>
      have HP := Lib.hid (stepG_has HK.out hw 0)
      clear hw
      go_wp2_with fail
      go_returns
      exact ⟨0, by rw [HP.out]; rfl, by rw [HP.out]; exact HG1.out.below (below_drewN (Below.refl _ _) _), (Turned.of_below (below_drewN hbe _) hBw)⟩
    | none =>
      have HW := Lib.hid hw
      clear hw c6 x0 x1 x2
      have hb2 : Below w1.heap.size w1 (w1.drewN nq) := below_drewN (Below.refl _ _) nq
      have HG2 := Lib.hid (H.out.below hb2)
      have hX2 := keep hb2 hX1
      have hbe2 : Below w.heap.size w (w1.drewN nq) := below_drewN hbe nq
      clear hb2
      generalize w1.drewN nq = W at HG2 hX2 hbe2 ⊢
      clear hX1 hbe H HG1
      obtain ⟨t, ht⟩ : ∃ t, g.ts[k]? = some t := ⟨_, List.getElem?_eq_getElem (by omega)⟩
      obtain ⟨q, rfl, hq⟩ := HG2.out.cell ht
      obtain ⟨htab, ht0, ht1⟩ := HG2.out.tab t (List.mem_of_getElem? ht)
      have HT := Lib.hid htab
      have c4 := cell_at HG2.out.blk 4
      simp at c4
      have hso := sWithout_bd (n := c) ht0 ht1
      have hsw := sWith_bd (s := sWithout t.2 c) (n := c) hso.1 hso.2
      have HSIG : Hid (g.sigs.getD (k : Int).toNat 0 = t.2) := Lib.hid (by rw [Int.toNat_natCast, List.getD_eq_getElem?_getD, sigs_get ht]; rfl)
      clear htab ht hi
      have HGW : Hid (Graph B1 gb g W) := Lib.hid ⟨_, _, _, _, _, _, _, _, _, HG2.out⟩
      clear HG2
      cases b
      · have HSET : Hid (sWithout t.2 c = stepSet g k c false) := Lib.hid (by unfold stepSet; rw [HSIG.out]; rfl)
        go_wp2_with fail
        refine (tsig_any _ _ _ _ _ HT.out).mono ?_
        rintro e w' ⟨rfl, rfl⟩
        go_wp2_with fail
        refine (without_any _ _ _ ht0 ht1).mono ?_
        rintro e w' ⟨rfl, rfl⟩
        rw [HSET.out]
        rw [HSET.out] at hso
        clear hsw hq c4
        go_wp2_with fail
        refine (make_any B1 gb g _ _ HGW.out hso.1 hso.2).mono ?_
        rintro e w4 ⟨tb, rfl, hG4, hT4⟩
        have hX4 := hT4.2 _ _ _ _ hX2 (by decide) (by decide)
        have hTw : Turned B1 w w4 := (Turned.of_below hbe2 hBw).trans hT4
        by_cases he : (makeG g (stepSet g k c false) tb).2.2 = 0
        · have HP := Lib.hid (stepG_new HK.out HW.out tb he)
          obtain ⟨n, hn1, hn2, hn3, hn4, _, _, hn7⟩ := makeG_ok he
          have HN := Lib.hid hn1
          have HN3 := Lib.hid hn3
          have HN4 := Lib.hid hn4
          rw [hn1, he]
          clear hn1 hn3 hn4 he hT4
          generalize makeG g (stepSet g k c false) tb = M at hG4 hn2 HN HN3 HN4 HP hn7
          obtain ⟨mb, wb, ca, cl, cc, ta, tc, bs, ws, h⟩ := hG4
          have hlen4 : M.1.ts.length ≤ 64 := by have := h.wf; omega
          have hin : I64 (n : Int) := ⟨by omega, by omega⟩
          have hik : I64 (k : Int) := ⟨by omega, by omega⟩
          have hk1 : (putW M.1.ways (k, c, false) n) (n, c, true) = g.ways (n, c, true) := by
            unfold putW; rw [if_neg (by simp), HN3.out]
          obtain ⟨w5, hup, hM5, hg5, hz5, _⟩ := (show MapIs Tryz.prog w4.drew 128 3 wb M.1.nw ws from h.byWay).store Tryz.law128 Tryz.underlying116 (by have := HN4.out; unfold maxLen; omega) (way_key k c false hik hc) (plainElem_int Tryz.underlying3 (wf_i64 hin))
          rw [show ws (.string (keyBytes [.int .i64 k, .int .i64 c, .bool false])) = _ from h.hws (k, c, false) ⟨hik, hc⟩, HN3.out, HW.out] at hM5
          have hM5' : MapIs Tryz.prog w5 128 3 wb (M.1.nw + 1) _ := hM5
          clear hM5
          obtain ⟨h5, hT5⟩ := way_put h (x := (k, c, false)) ⟨hik, hc⟩ hn2 (by have := HN4.out; omega) hM5' (undrewG hg5)
          obtain ⟨w6, hup2, hM6, hg6, hz6, _⟩ := h5.byWay.store Tryz.law128 Tryz.underlying116 (by have := HN4.out; unfold maxLen; show M.1.nw + 1 < _; omega) (way_key n c true hin hc) (plainElem_int Tryz.underlying3 (wf_i64 hik))
          have hws2 := h5.hws (n, c, true) ⟨hin, hc⟩
          rw [show (putF ws (wayK (k, c, false)) (.int .i64 n)) (.string (keyBytes [.int .i64 n, .int .i64 c, .bool true])) = litN (g.ways (n, c, true)) from hws2.trans (congrArg litN hk1), some_litN] at hM6
          obtain ⟨h6, hT6⟩ := way_put h5 (x := (n, c, true)) ⟨hin, hc⟩ (show k < M.1.ts.length by omega) (cnt_le (by have := HN4.out; show M.1.nw + 1 + 1 ≤ 1000000; omega)) hM6 hg6
          have c6 := cell_at h.blk 6
          have c65 := cell_at h5.blk 6
          have x0 := cell_at hX4 0
          have x1 := cell_at hX4 1
          have x2 := cell_at hX4 2
          simp at c6 c65 x0 x1 x2
          have HF := Lib.hid (And.intro h6 (hTw.trans (hT5.trans hT6)))
          clear h h5 hM5' hM6 hws2 h6 hT5 hT6 hTw hg5 hg6 hX4 hX2 hk1
          go_wp2_with fail
          go_region
          go_wp2_with fail
          go_returns
          refine ⟨tb, by rw [HP.out, HN.out]; rfl, ?_, HF.out.2⟩
          rw [HP.out]
          exact (step_gs HN.out HN3.out HN4.out rfl) ▸ ⟨_, _, _, _, _, _, _, _, _, HF.out.1⟩
        · have HP := Lib.hid (stepG_err HK.out HW.out tb he)
          have e2 : ((makeG g (stepSet g k c false) tb).2.2 != 0) = true := by simp [he]
          rw [makeG_err he] at hG4
          have HG4 := Lib.hid hG4
          clear he hG4
          go_wp2_with fail
          go_returns
          exact ⟨tb, by rw [HP.out]; rfl, by rw [HP.out]; exact HG4.out, hTw⟩
      · have HSET : Hid (sWith (sWithout t.2 c) c = stepSet g k c true) := Lib.hid (by unfold stepSet; rw [HSIG.out]; rfl)
        go_wp2_with fail
        refine (tsig_any _ _ _ _ _ HT.out).mono ?_
        rintro e w' ⟨rfl, rfl⟩
        go_wp2_with fail
        refine (without_any _ _ _ ht0 ht1).mono ?_
        rintro e w' ⟨rfl, rfl⟩
        go_wp2_with fail
        refine (with_any _ _ _ hso.1 hso.2).mono ?_
        rintro e w' ⟨rfl, rfl⟩
        rw [HSET.out]
        rw [HSET.out] at hsw
        clear hso hq c4
        go_wp2_with fail
        refine (make_any B1 gb g _ _ HGW.out hsw.1 hsw.2).mono ?_
        rintro e w4 ⟨tb, rfl, hG4, hT4⟩
        have hX4 := hT4.2 _ _ _ _ hX2 (by decide) (by decide)
        have hTw : Turned B1 w w4 := (Turned.of_below hbe2 hBw).trans hT4
        by_cases he : (makeG g (stepSet g k c true) tb).2.2 = 0
        · have HP := Lib.hid (stepG_new HK.out HW.out tb he)
          obtain ⟨n, hn1, hn2, hn3, hn4, _, _, hn7⟩ := makeG_ok he
          have HN := Lib.hid hn1
          have HN3 := Lib.hid hn3
          have HN4 := Lib.hid hn4
          rw [hn1, he]
          clear hn1 hn3 hn4 he hT4
          generalize makeG g (stepSet g k c true) tb = M at hG4 hn2 HN HN3 HN4 HP hn7
          obtain ⟨mb, wb, ca, cl, cc, ta, tc, bs, ws, h⟩ := hG4
          have hlen4 : M.1.ts.length ≤ 64 := by have := h.wf; omega
          have hin : I64 (n : Int) := ⟨by omega, by omega⟩
          have hik : I64 (k : Int) := ⟨by omega, by omega⟩
          have hk1 : (putW M.1.ways (k, c, true) n) (n, c, false) = g.ways (n, c, false) := by
            unfold putW; rw [if_neg (by simp), HN3.out]
          obtain ⟨w5, hup, hM5, hg5, hz5, _⟩ := (show MapIs Tryz.prog w4.drew 128 3 wb M.1.nw ws from h.byWay).store Tryz.law128 Tryz.underlying116 (by have := HN4.out; unfold maxLen; omega) (way_key k c true hik hc) (plainElem_int Tryz.underlying3 (wf_i64 hin))
          rw [show ws (.string (keyBytes [.int .i64 k, .int .i64 c, .bool true])) = _ from h.hws (k, c, true) ⟨hik, hc⟩, HN3.out, HW.out] at hM5
          have hM5' : MapIs Tryz.prog w5 128 3 wb (M.1.nw + 1) _ := hM5
          clear hM5
          obtain ⟨h5, hT5⟩ := way_put h (x := (k, c, true)) ⟨hik, hc⟩ hn2 (by have := HN4.out; omega) hM5' (undrewG hg5)
          obtain ⟨w6, hup2, hM6, hg6, hz6, _⟩ := h5.byWay.store Tryz.law128 Tryz.underlying116 (by have := HN4.out; unfold maxLen; show M.1.nw + 1 < _; omega) (way_key n c false hin hc) (plainElem_int Tryz.underlying3 (wf_i64 hik))
          have hws2 := h5.hws (n, c, false) ⟨hin, hc⟩
          rw [show (putF ws (wayK (k, c, true)) (.int .i64 n)) (.string (keyBytes [.int .i64 n, .int .i64 c, .bool false])) = litN (g.ways (n, c, false)) from hws2.trans (congrArg litN hk1), some_litN] at hM6
          obtain ⟨h6, hT6⟩ := way_put h5 (x := (n, c, false)) ⟨hin, hc⟩ (show k < M.1.ts.length by omega) (cnt_le (by have := HN4.out; show M.1.nw + 1 + 1 ≤ 1000000; omega)) hM6 hg6
          have c6 := cell_at h.blk 6
          have c65 := cell_at h5.blk 6
          have x0 := cell_at hX4 0
          have x1 := cell_at hX4 1
          have x2 := cell_at hX4 2
          simp at c6 c65 x0 x1 x2
          have HF := Lib.hid (And.intro h6 (hTw.trans (hT5.trans hT6)))
          clear h h5 hM5' hM6 hws2 h6 hT5 hT6 hTw hg5 hg6 hX4 hX2 hk1
          go_wp2_with fail
          go_region
          go_wp2_with fail
          go_returns
          refine ⟨tb, by rw [HP.out, HN.out]; rfl, ?_, HF.out.2⟩
          rw [HP.out]
          exact (step_gs HN.out HN3.out HN4.out rfl) ▸ ⟨_, _, _, _, _, _, _, _, _, HF.out.1⟩
        · have HP := Lib.hid (stepG_err HK.out HW.out tb he)
          have e2 : ((makeG g (stepSet g k c true) tb).2.2 != 0) = true := by simp [he]
          rw [makeG_err he] at hG4
          have HG4 := Lib.hid hG4
          clear he hG4
          go_wp2_with fail
          go_returns
          exact ⟨tb, by rw [HP.out]; rfl, by rw [HP.out]; exact HG4.out, hTw⟩
  · have HP := Lib.hid (stepG_chk hk 0)
    have e1 : (chkF g i c b != 0) = true := by simp [hk]
    clear hk
    go_wp2_with fail
    go_returns
    exact ⟨0, by rw [HP.out]; rfl, by rw [HP.out]; exact HG1.out, Turned.of_below hbe hBw⟩
end Go.Proofs.YtoadihebdaooaaaGreat
