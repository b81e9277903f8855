/- GraphBack: the walk. -/
import Derived.Test.YtgngpanimeigbaaD0
namespace Go.Proofs.Ytgngpanimeigbaa
open Go.RowKit
open Go.Maps (Keyed int_keyed keyOf_int_mk)

set_option linter.unusedVariables false

def sigAt (g : GS) (i : Int) : Int := if 0 ≤ i then (g.sigs[i.toNat]?).getD 0 else 0
theorem sigAt_some {g : GS} {i s : Int} (h0 : 0 ≤ i) (h : g.sigs[i.toNat]? = some s) : sigAt g i = s := by
  unfold sigAt; rw [if_pos h0, h]; rfl
theorem sigAt_bd {g : GS} (h : Inv g) (i : Int) : 0 ≤ sigAt g i ∧ sigAt g i ≤ 4294967295 := by
  unfold sigAt
  split
  · cases hs : g.sigs[i.toNat]? with
    | none => simp
    | some s => exact h.bd _ _ hs
  · omega
theorem tsig_tab (B1 gb : Nat) (g : GS) (i : Int) (w : World) (h : Graph B1 gb g w) : Calls Try.prog 10 #[.pointer (tabPtr g i)] w fun e w' => e = .returned (.int .u32 (sigAt g i)) ∧ w = w' := by
  obtain ⟨mb, wb, ca, cl, cc, ta, tc, bs, ws, h⟩ := h
  unfold tabPtr sigAt
  split
  · cases ht : g.ts[i.toNat]? with
    | none =>
      have : g.sigs[i.toNat]? = none := by unfold GS.sigs; rw [List.getElem?_map, ht]; rfl
      rw [this]
      exact tsig_nil w
    | some t =>
      rw [sigs_get ht]
      exact tsig_any t.1 _ _ _ w (h.tab t (List.mem_of_getElem? ht)).1
  · exact tsig_nil w
theorem knows_yes (B1 gb : Nat) (g : GS) (i c : Int) (b : Bool) (w : World) (h : Graph B1 gb g w) (hi : I64 i) (hc : I64 c) {n : Nat} (hw : g.ways (i, c, b) = some n) : Calls Try.prog 14 #[.pointer (some ⟨gb, 0, none⟩), .int .i64 i, .int .i64 c, .bool b] w fun e w' => e = .returned (.bool true) ∧ w = w' := by
  refine (knows_any B1 gb g i c b w h hi hc).mono ?_
  rintro e w' ⟨rfl, rfl⟩
  rw [hw]; exact ⟨rfl, rfl⟩
theorem step_known (B1 gb : Nat) (g : GS) (i c : Int) (b : Bool) (w : World) (h : Graph B1 gb g w) (hv : Inv g) (hi : I64 i) (hc : I64 c) (hnw : g.nw ≤ 999990) {n : Nat} (hw : g.ways (i, c, b) = some n) :
    Calls Try.prog 11 #[.pointer (some ⟨gb, 0, none⟩), .int .i64 i, .int .i64 c, .bool b] w fun e w' => e = .returned (.tuple #[.int .i64 n, .int .i64 0]) ∧ Graph B1 gb g w' ∧ Turned B1 w w' := by
  refine (step_any B1 gb g i c b w h hi hc hnw).mono ?_
  rintro e w' ⟨tb, rfl, hG, hT⟩
  rw [stepG_has (hv.chk hw) hw] at hG ⊢
  exact ⟨rfl, hG, hT⟩

/-- The map of the sets that were seen. -/
def SetIs (w : World) (b : Nat) (n : Nat) (l : List Int) : Prop :=
  ∃ cnt f, cnt ≤ n ∧ MapIs Try.prog w 35 4 b cnt f ∧ ∀ x : Int, f (.int .u32 x) = if l.contains x then some (.bool true) else none
theorem SetIs.look {w : World} {b n : Nat} {l : List Int} (h : SetIs w b n l) {s : Int} (h0 : 0 ≤ s) (h1 : s ≤ 4294967295) :
    (Instr.lookup 45 (.map (some b)) (.int .u32 s) false).run Try.prog w = .ok (.bool (l.contains s)) w := by
  obtain ⟨cnt, f, hc, hM, hf⟩ := h
  rw [hM.look_bool Try.law35 Try.underlying45 Try.underlying4 Try.zero4 (keyOf_int_mk Try.underlying35 (wf_u32 h0 h1)), hf]
  cases l.contains s <;> rfl
theorem SetIs.store {w : World} {b n : Nat} {l : List Int} (h : SetIs w b n l) {s : Int} (h0 : 0 ≤ s) (h1 : s ≤ 4294967295) (hn : n < maxLen) :
    ∃ w', (Instr.mapUpdate 45 (.map (some b)) (.int .u32 s) (.bool true)).run Try.prog w = .ok () w' ∧ SetIs w' b (n + 1) (l ++ [s]) ∧ w.grownBy w' (some b) ∧ w'.heap.size = w.heap.size ∧ (∀ a, w'.frozen? a = w.frozen? a) := by
  obtain ⟨cnt, f, hc, hM, hf⟩ := h
  obtain ⟨w', g1, g2, g3, g4, g5⟩ := hM.store Try.law35 Try.underlying45 (by omega) (keyOf_int_mk Try.underlying35 (wf_u32 h0 h1)) (plainElem_bool Try.underlying4 true)
  refine ⟨w', g1, ⟨_, _, ?_, g2, fun x => ?_⟩, g3, g4, g5⟩
  · split <;> omega
  · by_cases hx : x = s
    · subst hx; rw [putF_same]; simp
    · rw [putF_ne (by simpa using hx), hf]
      have : (l ++ [s]).contains x = l.contains x := by
        rw [Bool.eq_iff_iff]; simp [hx]
      rw [this]
theorem SetIs.made (w : World) : SetIs (w.alloc (.map #[] 0)) w.heap.size 0 [] := ⟨0, _, Nat.le_refl _, MapIs.made _ _ _ _, fun x => rfl⟩
theorem SetIs.below {w w' : World} {b n : Nat} {l : List Int} (h : SetIs w b n l) (hb : Below w.heap.size w w') : SetIs w' b n l := by
  obtain ⟨cnt, f, hc, hM, hf⟩ := h
  exact ⟨cnt, f, hc, hM.below hb, hf⟩
theorem SetIs.lt {w : World} {b n : Nat} {l : List Int} (h : SetIs w b n l) : b < w.heap.size := by
  obtain ⟨cnt, f, hc, hM, hf⟩ := h
  exact hM.lt
theorem nd_fresh {g : GS} (h : Inv g) {k : Nat} {s : Int} (hk : g.sigs[k]? = some s) : (g.sigs.take k).contains s = false := by
  cases hc : (g.sigs.take k).contains s with
  | false => rfl
  | true =>
    exfalso
    have hm : s ∈ g.sigs.take k := by simpa using hc
    obtain ⟨j, hj⟩ := List.getElem?_of_mem hm
    rw [List.getElem?_take] at hj
    split at hj
    · rename_i hlt
      have a := h.nd _ _ hj
      have b := h.nd _ _ hk
      rw [a] at b
      have := Option.some.inj b
      omega
    · cases hj

theorem makeG_nw (g : GS) (set : Int) (tb : Nat) : (makeG g set tb).1.nw = g.nw := by
  unfold makeG
  cases posOf set g.sigs with
  | some i => rfl
  | none =>
    simp only
    split
    · split <;> rfl
    · rfl
set_option maxRecDepth 100000 in
set_option maxHeartbeats 8000000 in
theorem back_walk (ver archs : Int) (cs : List Cmp) (a : Option Addr) (len cap : Nat) (l : List Act) (a2 : Option Addr) (len2 cap2 : Nat) (w : World) (hcs : CompsAt w.heap.size w a len cs) (hw : CompsWf cs) (hn : a = none → len = 0 ∧ cap = 0)
    (hl : ActsAt w.heap.size w a2 len2 l) (ha : I64 archs) :
    Calls Try.prog 3 #[.agg #[.int .i64 ver, .slice a len cap], .int .i64 archs, .slice a2 len2 cap2] w fun e w' => e = .returned (.bool true) ∧ Below w.heap.size w w' := by
  have hbel0 : Below w.heap.size w (w.alloc (.cells #[.int .i64 ver, .slice a len cap] 24)) := by go_grown
  have hlm := hl.2.1
  unfold maxLen at hlm
  have hmm := @run_makeMap Try.prog
  go_enter Try.func3, Try.ntmps3
  go_wp2_with fail
  refine (awake_any _).mono ?_
  rintro e w1 ⟨rfl, hb1⟩
  have hs1 := keep hb1 (heap_alloc_new w (.cells #[.int .i64 ver, .slice a len cap] 24))
  have s0 := cell_at hs1 0
  have s1 := cell_at hs1 1
  simp at s0 s1
  have hbel1 : Below w.heap.size w w1 := hbel0.trans (hb1.mono hbel0.size)
  clear hb1
  go_wp2_with fail
  refine (great_any ver cs _ _ _ _ ((hcs.below hbel1).mono hbel1.size)).mono ?_
  rintro e w2 ⟨rfl, hb2⟩
  have hs2 := keep hb2 hs1
  have t0 := cell_at hs2 0
  have t1 := cell_at hs2 1
  simp at t0 t1
  have hbel2 : Below w.heap.size w w2 := hbel1.trans (hb2.mono hbel1.size)
  clear hb2 hs1 s0 s1
  cases hg : greatB cs
  · by_cases h100 : 100 < len2
    · clear hg
      go_wp2_with fail
      go_returns
      exact ⟨rfl, hbel2⟩
    · have hgl : len ≤ 30 ∧ ∀ c ∈ cs, c.fields.length ≤ 12 := by
        simp [greatB] at hg
        exact ⟨by have := hcs.1; omega, fun c hc => by have := hg.2 c hc; omega⟩
      have HGL := Lib.hid hgl
      clear hgl hg
      have ha1 := ha.1
      have ha2 := ha.2
      go_wp2_with fail
      generalize hA : wrap64 (1 + wrap64 ((IntKind.u64.wrap archs).tmod 64)) = A
      refine (graphNew_any ver cs _ _ _ _ _ _ ((hcs.below hbel2).mono hbel2.size) hw (by have := HGL.out.1; omega) (fun c hc => by have := HGL.out.2 c hc; omega) hn).mono ?_
      rintro e w3 ⟨hb3, hnew⟩
      have hbel3 : Below w.heap.size w w3 := hbel2.trans (hb3.mono hbel2.size)
      cases hok : newOk ver cs A 9
      · rw [hok] at hnew
        cases hnew
        clear hok
        go_wp2_with fail
        go_returns
        exact ⟨rfl, hbel3⟩
      · rw [hok] at hnew
        obtain ⟨B1, gb, rfl, hB, hG⟩ := hnew
        have hBw : w.heap.size ≤ B1 := Nat.le_trans hbel2.size hB
        have HG0 := Lib.hid hG
        have HV0 := Lib.hid (inv_new hok)
        clear hok hG hB hb3 hbel2 hs2 t0 t1 hbel1
        go_wp2_with fail
        refine (make_any B1 gb _ _ _ HG0.out (by omega) (by omega)).mono ?_
        rintro e w4 ⟨tb0, rfl, hG4, hT4⟩
        have HG4 := Lib.hid hG4
        have HV4 := Lib.hid (HV0.out.made (set := 0) (by omega) (by omega) tb0).1
        have hnw4 : (makeG (GS0 ver cs A 9) 0 tb0).1.nw ≤ 0 := by rw [makeG_nw]; exact Nat.le_refl _
        have hbel4 : Below w.heap.size w w4 := hbel3.trans (hT4.1.mono hBw)
        clear hG4 hT4 HG0 HV0 hbel3
        generalize (makeG (GS0 ver cs A 9) 0 tb0).1 = G0 at HG4 HV4 hnw4
        go_wp2_with fail
        go_loopw [8] (fun i wr => ∃ (k : Nat) (g : GS), k ≤ len2 ∧ i = .int .i64 k ∧ Graph B1 gb g wr ∧ Inv g ∧ g.nw ≤ 3 * k ∧ Below w.heap.size w wr) (fun i _ => len2 - (intOf i).toNat)
        case atStart => exact ⟨0, G0, Nat.zero_le _, rfl, HG4.out, HV4.out, by omega, hbel4⟩
        case round =>
          obtain ⟨k, g, hk, rfl, hG, hV, hnw, hbw⟩ := hrel
          have HG := Lib.hid hG
          have HV := Lib.hid hV
          clear hG hV HG4 HV4 hnw4 hbel4
          have hzr := hbw.size
          by_cases hlt : k < len2
          · obtain ⟨b, off, x, rfl, hB, hx, hxw, c0, c1, c2, c3, c4⟩ := hl.get hbw hlt
            have hbX : Below wr.heap.size wr (wr.alloc (.cells #[.int .i64 x.kind, .int .u32 x.set, .int .i64 x.i, .int .i64 x.comp, .bool x.add] 37)) := (Below.refl _ _).alloc (Nat.le_refl _) _
            have hX := heap_alloc_new wr (.cells #[.int .i64 x.kind, .int .u32 x.set, .int .i64 x.i, .int .i64 x.comp, .bool x.add] 37)
            have HGX := Lib.hid (HG.out.below hbX)
            go_wp2_with fail
            refine (table_any B1 gb g _ _ HGX.out).mono ?_
            rintro e w' ⟨rfl, rfl⟩
            go_wp2_with fail
            refine (tsig_tab B1 gb g _ _ HGX.out).mono ?_
            rintro e w' ⟨rfl, rfl⟩
            clear c0 c1 c2 c3 c4 HG
            have hbel4 : Below w.heap.size w (wr.alloc (.cells #[.int .i64 x.kind, .int .u32 x.set, .int .i64 x.i, .int .i64 x.comp, .bool x.add] 37)) := hbw.trans (hbX.mono hzr)
            have hxs : wr.heap.size < (wr.alloc (.cells #[.int .i64 x.kind, .int .u32 x.set, .int .i64 x.i, .int .i64 x.comp, .bool x.add] 37)).heap.size := by simp
            clear hbX
            generalize wr.alloc (.cells #[.int .i64 x.kind, .int .u32 x.set, .int .i64 x.i, .int .i64 x.comp, .bool x.add] 37) = w4 at *
            have x0 := cell_at hX 0
            have x1 := cell_at hX 1
            have x2 := cell_at hX 2
            have x3 := cell_at hX 3
            have x4 := cell_at hX 4
            simp at x0 x1 x2 x3 x4
            go_wp2_with fail
            refine (step_any B1 gb g _ _ _ _ HGX.out hxw.2.2.1 hxw.2.2.2 (by omega)).mono ?_
            rintro e w5 ⟨tb, rfl, hG5, hT5⟩
            obtain ⟨hV5, hgo⟩ := HV.out.step x.i x.comp x.add tb
            have hgr := (stepG_grow g x.i x.comp x.add tb).2.2
            have hX5 := hT5.2 _ _ _ _ hX (by decide) (by decide)
            have hbel5 : Below w.heap.size w w5 := hbel4.trans (hT5.1.mono hBw)
            have hxs5 : wr.heap.size < w5.heap.size := by have := hT5.1.size; omega
            clear hT5 x0 x1 x2 x3 x4 hX HGX hbel4 hxs
            have x0 := cell_at hX5 0
            have x1 := cell_at hX5 1
            have x2 := cell_at hX5 2
            have x3 := cell_at hX5 3
            have x4 := cell_at hX5 4
            simp at x0 x1 x2 x3 x4
            have HG5 := Lib.hid hG5
            have HV5 := Lib.hid hV5
            clear hG5 hV5
            by_cases her : (stepG g x.i x.comp x.add tb).2.2 = 0
            · obtain ⟨n, hn1, hgone⟩ := hgo her
              rw [her, hn1]
              generalize (stepG g x.i x.comp x.add tb).1 = g1 at HG5 HV5 hgone hgr
              clear her hn1
              have hfs := sigAt_bd HV.out x.i
              have hsN : sigAt g1 n = upd (sigAt g x.i) x.comp x.add := by
                obtain ⟨s, q1, q2⟩ := hgone.frm
                rw [sigAt_some hgone.lo q1, sigAt_some (by omega) (by rw [Int.toNat_natCast]; exact q2)]
              have hnl : n < 64 := by
                obtain ⟨s, q1, q2⟩ := hgone.frm
                have := (List.getElem?_eq_some_iff.1 q2).1
                rw [sigs_len] at this
                obtain ⟨mb, wb, ca, cl, cc, ta, tc, bs, ws, h⟩ := HG5.out
                have := h.wf
                omega
              have htn : ((x.i.toNat : Nat) : Int) = x.i := by have := hgone.lo; omega
              have HSN := Lib.hid hsN
              have HTN := Lib.hid htn
              have HK := Lib.hid hgone.known
              have HKB := Lib.hid (HV5.out.wy _ _ _ _ hgone.known).2.2.2
              clear hsN htn hgone
              have hnI : I64 (n : Int) := by unfold I64; omega
              have HNI := Lib.hid hnI
              clear hnI
              go_wp2_with fail
              refine (without_any _ _ _ hfs.1 hfs.2).mono ?_
              rintro e w' ⟨rfl, rfl⟩
              go_upto_if 78 with (fail)
              go_cut [13] (fun s wx => s = .int .u32 (upd (sigAt g x.i) x.comp x.add) ∧ wx = w5)
              case first =>
                cases hadd : x.add
                · rw [hadd] at x4
                  have HA := Lib.hid hadd
                  clear hadd
                  go_wp2_with fail
                  go_meet
                  exact ⟨by rw [HA.out]; rfl, rfl⟩
                · rw [hadd] at x4
                  have HA := Lib.hid hadd
                  clear hadd
                  go_wp2_with fail
                  refine (with_any _ _ _ hfs.1 hfs.2).mono ?_
                  rintro e w' ⟨rfl, rfl⟩
                  go_wp2_with fail
                  go_meet
                  exact ⟨by rw [HA.out]; rfl, rfl⟩
              case rest =>
                obtain ⟨rfl, rfl⟩ := hcut
                generalize hu : upd (sigAt g x.i) x.comp x.add = u at HSN
                clear hu
                have du : (u != u) = false := by simp
                go_wp2_with fail
                refine (table_any B1 gb g1 _ _ HG5.out).mono ?_
                rintro e w' ⟨rfl, rfl⟩
                go_wp2_with fail
                refine (tsig_tab B1 gb g1 _ _ HG5.out).mono ?_
                rintro e w' ⟨rfl, rfl⟩
                rw [HSN.out]
                go_wp2_with fail
                refine (knows_yes B1 gb g1 _ _ _ _ HG5.out hxw.2.2.1 hxw.2.2.2 HK.out).mono ?_
                rintro e w' ⟨rfl, rfl⟩
                go_wp2_with fail
                refine (knows_yes B1 gb g1 _ _ _ _ HG5.out HNI.out hxw.2.2.2 HKB.out).mono ?_
                rintro e w' ⟨rfl, rfl⟩
                go_wp2_with fail
                refine (len_any B1 gb g1 _ HG5.out).mono ?_
                rintro e w' ⟨rfl, rfl⟩
                go_wp2_with fail
                refine (ways_any B1 gb g1 _ HG5.out).mono ?_
                rintro e w' ⟨rfl, rfl⟩
                go_wp2_with fail
                refine (step_known B1 gb g1 _ _ _ _ HG5.out HV5.out HNI.out hxw.2.2.2 (by omega) HKB.out).mono ?_
                rintro e w6 ⟨rfl, hG6, hT6⟩
                rw [HTN.out]
                have hX6 := hT6.2 _ _ _ _ hX5 (by decide) (by decide)
                have hbel6 : Below w.heap.size w w6 := hbel5.trans (hT6.1.mono hBw)
                have hxs6 : wr.heap.size < w6.heap.size := by have := hT6.1.size; omega
                have HG6 := Lib.hid hG6
                clear hG6 hT6 hX5 x0 x1 x2 x3 x4 HG5 hbel5 hxs5
                have x0 := cell_at hX6 0
                have x1 := cell_at hX6 1
                have x2 := cell_at hX6 2
                have x3 := cell_at hX6 3
                have x4 := cell_at hX6 4
                simp at x0 x1 x2 x3 x4
                go_wp2_with fail
                refine (step_known B1 gb g1 _ _ _ _ HG6.out HV5.out hxw.2.2.1 hxw.2.2.2 (by omega) HK.out).mono ?_
                rintro e w7 ⟨rfl, hG7, hT7⟩
                have hX7 := hT7.2 _ _ _ _ hX6 (by decide) (by decide)
                have hbel7 : Below w.heap.size w w7 := hbel6.trans (hT7.1.mono hBw)
                have hxs7 : wr.heap.size < w7.heap.size := by have := hT7.1.size; omega
                have HG7 := Lib.hid hG7
                clear hG7 hT7 hX6 x0 x1 x2 x3 x4 HG6 hbel6 hxs6
                have x0 := cell_at hX7 0
                have x1 := cell_at hX7 1
                have x2 := cell_at hX7 2
                have x3 := cell_at hX7 3
                have x4 := cell_at hX7 4
                simp at x0 x1 x2 x3 x4
                have dx : (x.i != x.i) = false := by simp
                have dn : ((n : Int) != (n : Int)) = false := by simp
                have dl : ((g1.ts.length : Int) != (g1.ts.length : Int)) = false := by simp
                have dw : ((g1.nw : Int) != (g1.nw : Int)) = false := by simp
                go_wp2_with fail
                refine (len_any B1 gb g1 _ HG7.out).mono ?_
                rintro e w' ⟨rfl, rfl⟩
                go_wp2_with fail
                refine (ways_any B1 gb g1 _ HG7.out).mono ?_
                rintro e w' ⟨rfl, rfl⟩
                go_wp2_with fail
                go_roundw
                case rel => exact ⟨k + 1, g1, by omega, by go_num, HG7.out, HV5.out, by omega, hbel7⟩
                case measure => simp [intOf]; omega
            · have d0 : ((stepG g x.i x.comp x.add tb).2.2 != 0) = true := by simp [her]
              clear hgo her
              generalize (stepG g x.i x.comp x.add tb).1 = g1 at HG5 HV5 hgr
              go_wp2_with fail
              go_roundw
              case rel => exact ⟨k + 1, g1, by omega, by go_num, HG5.out, HV5.out, by omega, hbel5⟩
              case measure => simp [intOf]; omega
          · obtain rfl : k = len2 := by omega
            have hM := SetIs.made wr
            have HS := Lib.hid (HG.out.below ((Below.refl wr.heap.size wr).alloc (Nat.le_refl _) (.map #[] 0)))
            go_wp2_with fail
            refine (sigs_any B1 gb g _ HS.out).mono ?_
            rintro e w4 ⟨va, vc, rfl, hrow, hb4⟩
            have hM4 := hM.below hb4
            have hbr4 : Below wr.heap.size wr w4 := ((Below.refl wr.heap.size wr).alloc (Nat.le_refl _) (.map #[] 0)).trans (hb4.mono (by simp))
            have HROW := Lib.hid hrow
            clear hrow hb4 hM HS
            have hgl : g.ts.length ≤ 64 := by obtain ⟨mb, wb, ca, cl, cc, ta, tc, bs, ws, h⟩ := HG.out; have := h.wf; omega
            go_wp2_with fail
            go_loopw [22] (fun i wr2 => ∃ (j : Nat), j ≤ g.ts.length ∧ i = .int .i64 j ∧ Below wr.heap.size wr wr2 ∧ SetIs wr2 wr.heap.size j (g.sigs.take j) ∧ wr2.ownsRow (wr.alloc (.map #[] 0)).heap.size 35 1 (.slice va g.ts.length vc) g.ts.length (g.sigs.map (.int .u32))) (fun i _ => g.ts.length - (intOf i).toNat)
            case atStart => exact ⟨0, Nat.zero_le _, rfl, hbr4, hM4, HROW.out⟩
            case round =>
              obtain ⟨j, hj, rfl, hbj, hMj, hRj⟩ := hrel
              have HRJ := Lib.hid hRj
              clear hRj HROW hM4 hbr4
              have hlt2 := hMj.lt
              by_cases hjl : j < g.ts.length
              · obtain ⟨u, hu⟩ : ∃ u, g.sigs[j]? = some u := ⟨_, List.getElem?_eq_getElem (by rw [sigs_len]; exact hjl)⟩
                obtain ⟨q1, rfl, h1⟩ := row_get HRJ.out (show (g.sigs.map (Value.int .u32))[j]? = some (.int .u32 u) by rw [List.getElem?_map, hu]; rfl)
                have hub := HV.out.bd _ _ hu
                have HND := Lib.hid (HV.out.nd _ _ hu)
                have hlk := hMj.look hub.1 hub.2
                rw [nd_fresh HV.out hu] at hlk
                obtain ⟨w2', hup, hseen2, hg2, hz2, hfr⟩ := hMj.store hub.1 hub.2 (by unfold maxLen; omega)
                have HTS := Lib.hid (take_snoc hu)
                have HS2 := Lib.hid hseen2
                clear hu hseen2
                have i1 : (0 : Int) ≤ (j : Int) := by omega
                have i2 : (j : Int) < (g.ts.length : Int) := by omega
                go_wp2_with fail
                refine (gfind_any B1 gb g _ _ (HG.out.below hbj) hub.1 hub.2).mono ?_
                rintro e w' ⟨rfl, rfl⟩
                rw [HND.out]
                have dj : (posI (some j) != (j : Int)) = false := by simp [posI]
                go_wp2_with fail
                have hbj2 := hbj.grown hg2 (by omega) (fun x hx => by cases hx; omega)
                go_roundw
                case rel =>
                  refine ⟨j + 1, by omega, by go_num, hbj2, by rw [HTS.out]; exact HS2.out, HRJ.out.kept hg2 (.inr ?_)⟩
                  rcases HRJ.out.2 with ⟨hv, h0'⟩ | ⟨q, cap', cur, hv, hg', _⟩
                  · cases hv
                  · cases hv
                    simp [Value.ownBlock] at hg' ⊢
                    omega
                case measure => simp [intOf]; omega
              · obtain rfl : j = g.ts.length := by omega
                clear hMj
                go_wp2_with fail
                go_returns
                exact ⟨rfl, hbw.trans (hbj.mono hbw.size)⟩
  · clear hg
    go_wp2_with fail
    go_returns
    exact ⟨rfl, hbel2⟩
end Go.Proofs.Ytgngpanimeigbaa
