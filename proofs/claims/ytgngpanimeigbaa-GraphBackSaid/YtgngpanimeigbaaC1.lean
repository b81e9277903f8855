/- GraphGrows: the plain part, and the walk. -/
import Derived.Test.YtgngpanimeigbaaC0
namespace Go.Proofs.Ytgngpanimeigbaa
open Go.RowKit
set_option linter.unusedVariables false

structure Act where
  kind : Int
  set : Int
  i : Int
  comp : Int
  add : Bool
def ActWf (x : Act) : Prop := 0 ≤ x.set ∧ x.set ≤ 4294967295 ∧ I64 x.i ∧ I64 x.comp
/-- A slice of deeds, below block B. -/
def ActsAt (B : Nat) (w : World) (a : Option Addr) (len : Nat) (l : List Act) : Prop :=
  l.length = len ∧ len ≤ maxLen ∧ (∀ x ∈ l, ActWf x) ∧ (len = 0 ∨ ∃ b off, a = some ⟨b, off, none⟩ ∧ b < B ∧ ∀ (i : Nat) (x : Act), l[i]? = some x →
    w.cell? ⟨b, off + i * 5, none⟩ = some (.int .i64 x.kind) ∧ w.cell? ⟨b, off + i * 5 + 1, none⟩ = some (.int .u32 x.set) ∧ w.cell? ⟨b, off + i * 5 + 2, none⟩ = some (.int .i64 x.i) ∧
    w.cell? ⟨b, off + i * 5 + 3, none⟩ = some (.int .i64 x.comp) ∧ w.cell? ⟨b, off + i * 5 + 4, none⟩ = some (.bool x.add))
theorem ActsAt.get {B : Nat} {w w' : World} {a : Option Addr} {len : Nat} {l : List Act} (h : ActsAt B w a len l) (hb : Below B w w') {k : Nat} (hk : k < len) :
    ∃ b off x, a = some ⟨b, off, none⟩ ∧ b < B ∧ l[k]? = some x ∧ ActWf x ∧ w'.cell? ⟨b, off + k * 5, none⟩ = some (.int .i64 x.kind) ∧ w'.cell? ⟨b, off + k * 5 + 1, none⟩ = some (.int .u32 x.set) ∧ w'.cell? ⟨b, off + k * 5 + 2, none⟩ = some (.int .i64 x.i) ∧
    w'.cell? ⟨b, off + k * 5 + 3, none⟩ = some (.int .i64 x.comp) ∧ w'.cell? ⟨b, off + k * 5 + 4, none⟩ = some (.bool x.add) := by
  obtain ⟨h1, h2, h4, h3⟩ := h
  rcases h3 with h3 | ⟨b, off, ha, hB, hc⟩
  · omega
  · have hl : k < l.length := by omega
    obtain ⟨c0, c1, c2, c3, c4⟩ := hc k _ (List.getElem?_eq_getElem hl)
    exact ⟨b, off, l[k], ha, hB, List.getElem?_eq_getElem hl, h4 _ (List.getElem_mem hl), (hb.cell (p := ⟨b, _, none⟩) hB).trans c0, (hb.cell (p := ⟨b, _, none⟩) hB).trans c1, (hb.cell (p := ⟨b, _, none⟩) hB).trans c2, (hb.cell (p := ⟨b, _, none⟩) hB).trans c3, (hb.cell (p := ⟨b, _, none⟩) hB).trans c4⟩
theorem row_get {w : World} {base : Nat} {e : TypeId} {va : Option Addr} {n vc : Nat} {xs : List Value} (h : w.ownsRow base e 1 (.slice va n vc) n xs) {k : Nat} {u : Value} (hk : xs[k]? = some u) :
    ∃ q, va = some ⟨q, 0, none⟩ ∧ w.cell? ⟨q, k, none⟩ = some u := by
  rcases h.2 with ⟨hv, h0'⟩ | ⟨q, cap', cur, hv, hg, hh, hc1, hc2, hc3, hc4⟩
  · have := (List.getElem?_eq_some_iff.1 hk).1
    have := h.1
    omega
  · cases hv
    refine ⟨q, rfl, ?_⟩
    rw [cell_at hh]
    rw [← hc4, List.getElem?_take] at hk
    split at hk
    · simpa using hk
    · cases hk

/-- What a deed does to the sets. -/
def Grow (g g' : GS) (er : Int) : Prop := (g'.sigs = g.sigs ∨ ((∃ s, g'.sigs = g.sigs ++ [s]) ∧ er = 0)) ∧ g'.archs = g.archs ∧ g'.nw ≤ g.nw + 3
theorem makeG_grow (g : GS) (set : Int) (tb : Nat) : Grow g (makeG g set tb).1 (makeG g set tb).2.2 := by
  unfold makeG
  cases posOf set g.sigs with
  | some i => exact ⟨.inl rfl, rfl, by simp⟩
  | none =>
    simp only
    split
    · split
      · exact ⟨.inl rfl, rfl, by simp⟩
      · exact ⟨.inr ⟨⟨set, by simp [GS.sigs]⟩, rfl⟩, rfl, by simp⟩
    · exact ⟨.inl rfl, rfl, by simp⟩
theorem stepG_grow (g : GS) (i c : Int) (b : Bool) (tb : Nat) : Grow g (stepG g i c b tb).1 (stepG g i c b tb).2.2 := by
  unfold stepG
  split
  · exact ⟨.inl rfl, rfl, by simp⟩
  · cases g.ways (i, c, b) with
    | some n => exact ⟨.inl rfl, rfl, by simp⟩
    | none =>
      simp only
      split
      · exact ⟨.inl rfl, rfl, by simp⟩
      · rename_i he
        obtain ⟨h1, h2, h3⟩ := makeG_grow g (stepSet g i c b) tb
        refine ⟨?_, h2, ?_⟩
        · rcases h1 with h1 | ⟨h1, _⟩
          · exact .inl h1
          · exact .inr ⟨h1, rfl⟩
        · simp only; split <;> omega

set_option maxRecDepth 100000 in
set_option maxHeartbeats 8000000 in
theorem grows_walk (ver archs : Int) (cs : List Cmp) (a : Option Addr) (len cap : Nat) (l : List Act) (a2 : Option Addr) (len2 cap2 : Nat) (w : World) (hcs : CompsAt w.heap.size w a len cs) (hw : CompsWf cs) (hn : a = none → len = 0 ∧ cap = 0)
    (hl : ActsAt w.heap.size w a2 len2 l) (ha : I64 archs) :
    Calls Try.prog 4 #[.agg #[.int .i64 ver, .slice a len cap], .int .i64 archs, .slice a2 len2 cap2] w fun e w' => e = .returned (.bool true) ∧ Below w.heap.size w w' := by
  have hbel0 : Below w.heap.size w (w.alloc (.cells #[.int .i64 ver, .slice a len cap] 24)) := by go_grown
  have hlm := hl.2.1
  unfold maxLen at hlm
  go_enter Try.func4, Try.ntmps4
  go_wp2_with fail
  refine (awake_any _).mono ?_
  rintro e w1 ⟨rfl, hb1⟩
  have hs1 := keep hb1 (heap_alloc_new w (.cells #[.int .i64 ver, .slice a len cap] 24))
  have s0 := cell_at hs1 0
  have s1 := cell_at hs1 1
  simp at s0 s1
  have hbel1 : Below w.heap.size w w1 := hbel0.trans (hb1.mono hbel0.size)
  clear hb1
  go_wp2_with fail
  refine (great_any ver cs _ _ _ _ ((hcs.below hbel1).mono hbel1.size)).mono ?_
  rintro e w2 ⟨rfl, hb2⟩
  have hs2 := keep hb2 hs1
  have t0 := cell_at hs2 0
  have t1 := cell_at hs2 1
  simp at t0 t1
  have hbel2 : Below w.heap.size w w2 := hbel1.trans (hb2.mono hbel1.size)
  clear hb2 hs1 s0 s1
  cases hg : greatB cs
  · by_cases h100 : 100 < len2
    · clear hg
      go_wp2_with fail
      go_returns
      exact ⟨rfl, hbel2⟩
    · have hgl : len ≤ 30 ∧ ∀ c ∈ cs, c.fields.length ≤ 12 := by
        simp [greatB] at hg
        exact ⟨by have := hcs.1; omega, fun c hc => by have := hg.2 c hc; omega⟩
      have HGL := Lib.hid hgl
      clear hgl hg
      have ha1 := ha.1
      have ha2 := ha.2
      go_wp2_with fail
      generalize hA : wrap64 (1 + wrap64 ((IntKind.u64.wrap archs).tmod 64)) = A
      refine (graphNew_any ver cs _ _ _ _ _ _ ((hcs.below hbel2).mono hbel2.size) hw (by have := HGL.out.1; omega) (fun c hc => by have := HGL.out.2 c hc; omega) hn).mono ?_
      rintro e w3 ⟨hb3, hnew⟩
      have hbel3 : Below w.heap.size w w3 := hbel2.trans (hb3.mono hbel2.size)
      cases hok : newOk ver cs A 9
      · rw [hok] at hnew
        cases hnew
        clear hok
        go_wp2_with fail
        go_returns
        exact ⟨rfl, hbel3⟩
      · rw [hok] at hnew
        obtain ⟨B1, gb, rfl, hB, hG⟩ := hnew
        have hBw : w.heap.size ≤ B1 := Nat.le_trans hbel2.size hB
        have HG0 := Lib.hid hG
        clear hok hG hB hb3 hbel2 hs2 t0 t1 hbel1
        go_wp2_with fail
        go_loopw [8] (fun i wr => ∃ (k : Nat) (g : GS), k ≤ len2 ∧ i = .int .i64 k ∧ Graph B1 gb g wr ∧ g.archs = A ∧ g.nw ≤ 3 * k ∧ Below w.heap.size w wr) (fun i _ => len2 - (intOf i).toNat)
        case atStart => exact ⟨0, _, Nat.zero_le _, rfl, HG0.out, rfl, by simp [GS0], hbel3⟩
        case round =>
          obtain ⟨k, g, hk, rfl, hG, hgA, hnw, hbw⟩ := hrel
          have HG := Lib.hid hG
          have HGA := Lib.hid hgA
          clear hG hgA HG0
          have hzr := hbw.size
          by_cases hlt : k < len2
          · obtain ⟨b, off, x, rfl, hB, hx, hxw, c0, c1, c2, c3, c4⟩ := hl.get hbw hlt
            have hbX : Below wr.heap.size wr (wr.alloc (.cells #[.int .i64 x.kind, .int .u32 x.set, .int .i64 x.i, .int .i64 x.comp, .bool x.add] 37)) := (Below.refl _ _).alloc (Nat.le_refl _) _
            have hX := heap_alloc_new wr (.cells #[.int .i64 x.kind, .int .u32 x.set, .int .i64 x.i, .int .i64 x.comp, .bool x.add] 37)
            have HGX := Lib.hid (HG.out.below hbX)
            go_wp2_with fail
            refine (sigs_any B1 gb g _ HGX.out).mono ?_
            rintro e w4 ⟨va, vc, rfl, hwas, hb4⟩
            have hX4 := keep hb4 hX
            have hbel4 : Below w.heap.size w w4 := (hbw.trans (hbX.mono hzr)).trans (hb4.mono (by simp; omega))
            have HG4 := Lib.hid (HGX.out.below hb4)
            clear hb4 hX HGX HG hbX c0 c1 c2 c3 c4
            have x0 := cell_at hX4 0
            have x1 := cell_at hX4 1
            have x2 := cell_at hX4 2
            have x3 := cell_at hX4 3
            have x4 := cell_at hX4 4
            simp at x0 x1 x2 x3 x4
            have HWAS := Lib.hid hwas
            clear hwas hX4
            go_upto_if 46 with (fail)
            go_cut [11] (fun s11 wx => ∃ (g' : GS) (er : Int), s11 = .int .i64 er ∧ Graph B1 gb g' wx ∧ Grow g g' er ∧ Turned B1 w4 wx)
            case first =>
              by_cases hk1 : x.kind = 1
              · have e1 : (x.kind == 1) = true := by simp [hk1]
                clear hk1
                go_wp2_with fail
                refine (make_any B1 gb g _ _ HG4.out hxw.1 hxw.2.1).mono ?_
                rintro e w5 ⟨tb, rfl, hG5, hT5⟩
                have HF := Lib.hid (And.intro hG5 (And.intro (makeG_grow g x.set tb) hT5))
                clear hG5 hT5
                go_wp2_with fail
                go_meet
                exact ⟨_, _, rfl, HF.out⟩
              · have e1 : (x.kind == 1) = false := by simp [hk1]
                clear hk1
                go_wp2_with fail
                refine (step_any B1 gb g _ _ _ _ HG4.out hxw.2.2.1 hxw.2.2.2 (by omega)).mono ?_
                rintro e w5 ⟨tb, rfl, hG5, hT5⟩
                have HF := Lib.hid (And.intro hG5 (And.intro (stepG_grow g x.i x.comp x.add tb) hT5))
                clear hG5 hT5
                go_wp2_with fail
                go_meet
                exact ⟨_, _, rfl, HF.out⟩
            case rest =>
              obtain ⟨g', er, rfl, hG5, hgr, hT5⟩ := hcut
              have HG5 := Lib.hid hG5
              have HT5 := Lib.hid hT5
              have HGR := Lib.hid hgr
              clear hG5 hT5 hgr x0 x1 x2 x3 x4 HG4
              go_wp2_with fail
              refine (sigs_any B1 gb g' _ HG5.out).mono ?_
              rintro e w6 ⟨ia, ic, rfl, his, hb6⟩
              have HIS := Lib.hid his
              have HG6 := Lib.hid (HG5.out.below hb6)
              have hbel6 : Below w.heap.size w w6 := (hbel4.trans (HT5.out.1.mono hBw)).trans (hb6.mono (by have := HT5.out.1.size; have := hbel4.size; omega))
              have HW6 := Lib.hid (ownsRow_below (HT5.out.row HWAS.out (by decide) (by decide)) hb6)
              clear his hb6 HG5 HT5 HWAS hbel4
              have hlg : g.sigs.length = g.ts.length := by simp [GS.sigs]
              have hlg' : g'.sigs.length = g'.ts.length := by simp [GS.sigs]
              have hnn : (g'.ts.length = g.ts.length ∧ g'.sigs = g.sigs) ∨ (g'.ts.length = g.ts.length + 1 ∧ (∃ s, g'.sigs = g.sigs ++ [s]) ∧ er = 0) := by
                rcases HGR.out.1 with h | ⟨⟨s, h⟩, h0⟩
                · exact .inl ⟨by rw [← hlg, ← hlg', h], h⟩
                · exact .inr ⟨by rw [← hlg, ← hlg', h]; simp, ⟨s, h⟩, h0⟩
              have hpre : ∀ (j : Nat) (u : Int), g.sigs[j]? = some u → g'.sigs[j]? = some u := by
                intro j u hj
                rcases hnn with ⟨_, h⟩ | ⟨_, ⟨s, h⟩, _⟩
                · rw [h]; exact hj
                · rw [h, List.getElem?_append_left (List.getElem?_eq_some_iff.1 hj).1]; exact hj
              have HPRE := Lib.hid hpre
              have hgb : 1 ≤ g'.archs ∧ g'.archs ≤ 64 ∧ (g'.ts.length : Int) ≤ g'.archs := by obtain ⟨mb, wb, ca, cl, cc, ta, tc, bs, ws, h⟩ := HG6.out; exact ⟨h.wf.2.2.1, h.wf.2.2.2.1, h.wf.2.2.2.2.1⟩
              obtain ⟨hgb1, hgb2, hgb3⟩ := hgb
              have d1 : decide (g'.ts.length < g.ts.length) = false := by simp; omega
              have d2 : decide ((g.ts.length : Int) + 1 < (g'.ts.length : Int)) = false := by simp; omega
              have d5 : ((g'.ts.length : Int) + (g'.archs - (g'.ts.length : Int)) != A) = false := by have := HGR.out.2.1; have := HGA.out; simp; omega
              have hle : g.ts.length ≤ g'.ts.length := by omega
              have hgl : g.ts.length ≤ 64 := by omega
              have hnn' : er = 0 ∨ g'.ts.length = g.ts.length := by omega
              have HNN := Lib.hid hnn'
              clear hnn hpre hlg hlg' hnn'
              go_upto_region 18 with (fail)
              go_cut [103] (fun s wx => s = .bool false ∧ ∃ nq, wx = w6.drewN nq)
              case first =>
                by_cases h0 : er = 0
                · have d3 : (er != 0) = false := by simp [h0]
                  clear h0
                  go_wp2_with fail
                  refine (len_any B1 gb g' _ HG6.out).mono ?_
                  rintro e w' ⟨rfl, rfl⟩
                  go_wp2_with fail
                  refine (room_any B1 gb g' _ HG6.out).mono ?_
                  rintro e wq ⟨rfl, nq, rfl⟩
                  go_wp2_with fail
                  go_meet
                  exact ⟨rfl, nq, rfl⟩
                · have d3 : (er != 0) = true := by simp [h0]
                  have d4 : ((g'.ts.length : Int) != (g.ts.length : Int)) = false := by have := HNN.out; simp; omega
                  clear h0
                  go_wp2_with fail
                  refine (len_any B1 gb g' _ HG6.out).mono ?_
                  rintro e w' ⟨rfl, rfl⟩
                  go_wp2_with fail
                  refine (room_any B1 gb g' _ HG6.out).mono ?_
                  rintro e wq ⟨rfl, nq, rfl⟩
                  go_wp2_with fail
                  go_meet
                  exact ⟨rfl, nq, rfl⟩
              case rest =>
                obtain ⟨rfl, nq, rfl⟩ := hcut
                have hb7 : Below w6.heap.size w6 (w6.drewN nq) := below_drewN (Below.refl _ _) nq
                have HG7 := Lib.hid (HG6.out.below hb7)
                have HW7 := Lib.hid (ownsRow_below HW6.out hb7)
                have HI7 := Lib.hid (ownsRow_below HIS.out hb7)
                have hbel7 : Below w.heap.size w (w6.drewN nq) := below_drewN hbel6 nq
                clear hb7 HG6 HW6 HIS hbel6 d1 d2 d5 hgb1 hgb2 hgb3
                generalize w6.drewN nq = W at HG7 HW7 HI7 hbel7 ⊢
                go_wp2_with fail
                go_loopw [13] (fun i wr2 => ∃ (j : Nat), j ≤ g.ts.length ∧ i = .int .i64 j ∧ Below W.heap.size W wr2) (fun i _ => g.ts.length - (intOf i).toNat)
                case atStart => exact ⟨0, Nat.zero_le _, rfl, Below.refl _ _⟩
                case round =>
                  obtain ⟨j, hj, rfl, hbj⟩ := hrel
                  by_cases hjl : j < g.ts.length
                  · obtain ⟨u, hu⟩ : ∃ u, g.sigs[j]? = some u := ⟨_, List.getElem?_eq_getElem (by simpa [GS.sigs] using hjl)⟩
                    obtain ⟨q1, rfl, h1⟩ := row_get (ownsRow_below HW7.out hbj) (show (g.sigs.map (Value.int .u32))[j]? = some (.int .u32 u) by rw [List.getElem?_map, hu]; rfl)
                    obtain ⟨q2, rfl, h2⟩ := row_get (ownsRow_below HI7.out hbj) (show (g'.sigs.map (Value.int .u32))[j]? = some (.int .u32 u) by rw [List.getElem?_map, HPRE.out j u hu]; rfl)
                    clear hu
                    have i1 : (0 : Int) ≤ (j : Int) := by omega
                    have i2 : (j : Int) < (g.ts.length : Int) := by omega
                    have i3 : (j : Int) < (g'.ts.length : Int) := by omega
                    go_wp2_with fail
                    go_quiet (fail)
                    go_wp2_with fail
                    go_roundw
                    case rel => exact ⟨j + 1, by omega, by go_num, below_drewN hbj _⟩
                    case measure => simp [intOf]; omega
                  · obtain rfl : j = g.ts.length := by omega
                    go_wp2_with fail
                    go_roundw
                    case rel => exact ⟨k + 1, g', by omega, by go_num, HG7.out.below hbj, HGR.out.2.1.trans HGA.out, by have := HGR.out.2.2; omega, hbel7.trans (hbj.mono hbel7.size)⟩
                    case measure => simp [intOf]; omega
          · obtain rfl : k = len2 := by omega
            go_wp2_with fail
            go_returns
            exact ⟨rfl, hbw⟩
  · clear hg
    go_wp2_with fail
    go_returns
    exact ⟨rfl, hbel2⟩
end Go.Proofs.Ytgngpanimeigbaa
