/- WorldBack: the walk of the law. -/
import Derived.Test.YthmpknlgkflhiabGreatP49
import Derived.Test.YthmpknlgkflhiabGreatP50
import Derived.StillTailTactics
namespace Go.Proofs.YthmpknlgkflhiabGreat
open Go.RowKit
set_option linter.unusedVariables false
theorem sum_take (f : Int → Nat) : ∀ (l : List Int) (k : Nat), ((l.take k).map f).sum ≤ (l.map f).sum := by
  intro l
  induction l with
  | nil => intro k; simp
  | cons x r ih =>
    intro k
    cases k with
    | zero => simp
    | succ k =>
      rw [List.take_succ_cons, List.map_cons, List.map_cons, List.sum_cons, List.sum_cons]
      have := ih k
      omega
theorem sum_snoc (f : Int → Nat) {l : List Int} {k : Nat} {x : Int} (h : l[k]? = some x) : ((l.take (k + 1)).map f).sum = ((l.take k).map f).sum + f x := by
  rw [take_snoc h, List.map_append, List.sum_append]; simp
/-- A row of sets in memory. -/
theorem sigs_at {w : World} {va : Option Addr} {n vc B : Nat} {l : List Int} (h : w.ownsRow B 57 1 (.slice va n vc) n (l.map (.int .u32))) (hl : l.length = n) {k : Nat} (hk : k < n) : ∃ q s, va = some ⟨q, 0, none⟩ ∧ q < w.heap.size ∧ l[k]? = some s ∧ w.cell? ⟨q, k, none⟩ = some (.int .u32 s) := by
  obtain ⟨q, hq, _, hlt, hc⟩ := row_block h (by omega)
  exact ⟨q, _, hq, hlt, List.getElem?_eq_getElem (by omega), hc k _ (by rw [List.getElem?_map, List.getElem?_eq_getElem (by omega)]; rfl)⟩
theorem addS_ix (S : WS) (e : Int) (p : Int × List WI) : (S.addS e p).ix = S.ix := by
  unfold WS.addS
  cases S.rowAt e <;> rfl
theorem removeS_ix (S : WS) (e c : Int) : (S.removeS e c).ix = S.ix := by
  unfold WS.removeS
  cases S.rowAt e <;> rfl
theorem idsTo_le (s : Int) : (idsTo s 24).length ≤ 24 := by
  unfold idsTo
  exact Nat.le_trans (List.length_filter_le _ _) (by simp)
theorem great18_len {cs : List Cmp} (h : great18B cs = false) : cs.length ≤ 30 := by
  unfold great18B at h
  rw [Bool.or_eq_false_iff] at h
  simpa using h.1
set_option maxRecDepth 100000 in
set_option maxHeartbeats 8000000 in
theorem back_walk (ver : Int) (cs : List Cmp) (a : Option Addr) (len cap : Nat) (c : CapsD) (l : List WA) (a2 : Option Addr) (len2 cap2 : Nat) (at_ : Int) (comp : Int) (va : Option Addr) (vl vc : Nat) (v : List WI) (w : World) (hcs : CompsAt w.heap.size w a len cs) (hwf : CompsWf cs) (hna : a = none → len = 0 ∧ cap = 0) (hl : WActsAt w.heap.size w a2 len2 l) (hv : IntsAt w.heap.size w va vl vc v) :
    Calls Tryz.prog 4 #[.agg #[.int .i64 ver, .slice a len cap], .agg #[.int .i64 c.ents, .int .i64 c.rows, .int .i64 c.archs, .int .i64 c.cmds, .int .i64 c.fuel, .int .i64 c.gens], .slice a2 len2 cap2, .int .i64 at_, .agg #[.int .i64 comp, .slice va vl vc]] w fun e w' => e = .returned (.bool true) ∧ Below w.heap.size w w' := by
  have hm2 : len2 ≤ maxLen := hl.2.1
  have hmv : vl ≤ maxLen := by have := hv.2.1; have := hv.2.2.1; omega
  unfold maxLen at hm2 hmv
  obtain ⟨C, hC⟩ : ∃ C : CapsD, C = c := ⟨_, rfl⟩
  have hb0 : Below w.heap.size w (((w.alloc (.cells #[.int .i64 ver, .slice a len cap] 24)).alloc (.cells #[.int .i64 c.ents, .int .i64 c.rows, .int .i64 c.archs, .int .i64 c.cmds, .int .i64 c.fuel, .int .i64 c.gens] 26)).alloc (.cells #[.int .i64 comp, .slice va vl vc] 48)) := by go_grown
  have k1 := keepA (.cells #[.int .i64 comp, .slice va vl vc] 48) (keepA (.cells #[.int .i64 c.ents, .int .i64 c.rows, .int .i64 c.archs, .int .i64 c.cmds, .int .i64 c.fuel, .int .i64 c.gens] 26) (heap_alloc_new w (.cells #[.int .i64 ver, .slice a len cap] 24)))
  have k2 := keepA (.cells #[.int .i64 comp, .slice va vl vc] 48) (heap_alloc_new (w.alloc (.cells #[.int .i64 ver, .slice a len cap] 24)) (.cells #[.int .i64 c.ents, .int .i64 c.rows, .int .i64 c.archs, .int .i64 c.cmds, .int .i64 c.fuel, .int .i64 c.gens] 26))
  have k3 := heap_alloc_new ((w.alloc (.cells #[.int .i64 ver, .slice a len cap] 24)).alloc (.cells #[.int .i64 c.ents, .int .i64 c.rows, .int .i64 c.archs, .int .i64 c.cmds, .int .i64 c.fuel, .int .i64 c.gens] 26)) (.cells #[.int .i64 comp, .slice va vl vc] 48)
  rw [World.size_alloc] at k2
  rw [World.size_alloc, World.size_alloc] at k3
  have HCS := Lib.hid (And.intro hcs (And.intro hwf hna))
  have HL := Lib.hid hl
  have HV := Lib.hid hv
  have HCE := Lib.hid hC
  clear hcs hwf hna hl hv hC
  obtain ⟨c1, c2, c3, c4, c5, c6⟩ := c
  dsimp only at *
  go_enter Tryz.func4, Tryz.ntmps4
  go_wp2_with fail
  have HK := Lib.hid (And.intro hb0 (And.intro k1 (And.intro k2 k3)))
  clear hb0 k1 k2 k3
  generalize ((w.alloc (.cells #[.int .i64 ver, .slice a len cap] 24)).alloc (.cells #[.int .i64 c1, .int .i64 c2, .int .i64 c3, .int .i64 c4, .int .i64 c5, .int .i64 c6] 26)).alloc (.cells #[.int .i64 comp, .slice va vl vc] 48) = W at HK ⊢
  obtain ⟨SB, hSB⟩ : ∃ SB, w.heap.size = SB := ⟨_, rfl⟩
  have HSB := Lib.hid hSB
  rw [hSB] at HK ⊢
  clear hSB
  refine (awake18_any W).mono ?_
  rintro e w1 ⟨rfl, hb⟩
  have HB1 : Hid (Below SB w w1) := Lib.hid (HK.out.1.trans (hb.mono (HSB.out ▸ HK.out.1.size)))
  have HK1 := Lib.hid (And.intro (keep hb HK.out.2.1) (And.intro (keep hb HK.out.2.2.1) (keep hb HK.out.2.2.2)))
  clear hb HK
  have hbW : Below w.heap.size w w1 := HSB.out ▸ HB1.out
  have HBW := Lib.hid hbW
  clear hbW
  have s0 := cell_at HK1.out.1 0
  have s1 := cell_at HK1.out.1 1
  simp at s0 s1
  go_wp2_with fail
  refine (great18_any ver cs _ _ _ _ ((HCS.out.1.below HBW.out).mono HBW.out.size)).mono ?_
  rintro e w2 ⟨rfl, hb⟩
  have HB2 := Lib.hid (HBW.out.trans (hb.mono HBW.out.size))
  have HK2 := Lib.hid (And.intro (keep hb HK1.out.1) (And.intro (keep hb HK1.out.2.1) (keep hb HK1.out.2.2)))
  clear hb s0 s1 HB1 HK1 HBW
  cases hg : great18B cs
  · have HG := Lib.hid (great18_f hg)
    have HG30 := Lib.hid (great18_len hg)
    clear hg
    go_wp2_with fail
    refine (wild18_any l _ _ _ _ ((HL.out.below HB2.out).mono HB2.out.size)).mono ?_
    rintro e w3 ⟨r, rfl, hr, rfl⟩
    have HR := Lib.hid hr
    clear hr
    cases r
    · have p1 := cell_at HK2.out.2.2 1
      simp at p1
      by_cases h100 : 100 < vl
      · go_wp2_with fail
        go_returns
        exact ⟨rfl, HB2.out⟩
      · have s0 := cell_at HK2.out.1 0
        have s1 := cell_at HK2.out.1 1
        have y0 := cell_at HK2.out.2.1 0
        have y1 := cell_at HK2.out.2.1 1
        have y2 := cell_at HK2.out.2.1 2
        have y3 := cell_at HK2.out.2.1 3
        have y4 := cell_at HK2.out.2.1 4
        have y5 := cell_at HK2.out.2.1 5
        simp at s0 s1 y0 y1 y2 y3 y4 y5
        by_cases hgood : schemaCheck ver cs = 0 ∧ CapsOk ⟨c1, c2, c3, c4, c5, c6⟩
        · obtain ⟨hs, hco⟩ := hgood
          obtain ⟨nE, hnE⟩ : ∃ nE : Nat, c1 = (nE : Int) := ⟨c1.toNat, by have := hco.ents; simp at this; omega⟩
          have HN := Lib.hid (wNew_any ⟨c1, c2, c3, c4, c5, c6⟩ hco ver cs a len cap nE hnE w2 ((HCS.out.1.below HB2.out).mono HB2.out.size) HCS.out.2.1 (by have := HCS.out.1.1; have := HG30.out; omega) HG.out HCS.out.2.2 hs)
          have HNX : Hid ((newIX nE c6).liveL = []) := Lib.hid (by
            have he := hco.ents
            have hg := hco.gens
            simp only at he hg
            exact newIX_live (by omega) (by omega) hg.1 hg.2)
          clear hs hco hnE
          go_wp2_with fail
          refine HN.out.mono ?_
          rintro e w3 ⟨d0, rfl, hW, hS, hF, hb⟩
          obtain ⟨WB, hWB⟩ : ∃ WB, d0.wb = WB := ⟨_, rfl⟩
          rw [hWB]
          have hall : d0.S.AllRow := by
            intro e he
            have h1 : d0.S.ix.liveL = [] := by
              rw [hS]
              exact HNX.out
            rw [h1] at he; cases he
          have HD0 : Hid (LW w2 d0 0 w3) := Lib.hid ⟨hW, ⟨hb, hF⟩, hall⟩
          have HWB := Lib.hid hWB
          clear hW hS hF hb hWB hall HN s0 s1 y0 y1 y2 y3 y4 y5 p1
          have hl2 := (HL.out.below HB2.out).mono HB2.out.size
          have HL2 := Lib.hid hl2
          have HV2 := Lib.hid ((HV.out.below HB2.out).mono HB2.out.size)
          clear hl2
          obtain ⟨hr80, hrt⟩ := HR.out (by trivial)
          have HRT := Lib.hid hrt
          clear hrt HR
          go_wp2_with fail
          go_loopw [12] (fun i wr => ∃ (k : Nat) (d : WD), k ≤ len2 ∧ i = .int .i64 (k : Int) ∧ d.wb = WB ∧ LW w2 d (2 * k) wr) (fun i _ => len2 - (intOf i).toNat)
          case atStart => exact ⟨0, d0, Nat.zero_le _, rfl, HWB.out, HD0.out⟩
          case round =>
            obtain ⟨k, d, hk, rfl, hwb, hlw⟩ := hrel
            have HLW := Lib.hid hlw
            have HW := Lib.hid hwb
            clear hlw hwb
            by_cases hlt : k < len2
            · obtain ⟨b, off, x, rfl, hB, hx, hp, x0, x1, x2, x3, x4⟩ := (HL2.out.below HLW.out.bel).get hlt
              have i1 : (0 : Int) ≤ (k : Int) := by omega
              have i2 : (k : Int) < (len2 : Int) := by omega
              have hxe := (HL2.out.2.2.1 x (List.mem_of_getElem? hx))
              have hpar := HLW.out.fr.parts hxe.1 (by have := (HRT.out x (List.mem_of_getElem? hx)).1; omega)
              have HPAR := Lib.hid hpar
              have HXE := Lib.hid hxe.2
              clear hx hp hxe hpar
              by_cases q3 : x.kind = 3
              · have e3 : (x.kind == 3) = true := by simp [q3]
                have HC := l_despawn HLW.out x.e HXE.out.1 HXE.out.2
                rw [HW.out] at HC
                have HC := Lib.hid HC
                clear q3
                go_wp2_with fail
                refine HC.out.mono ?_
                rintro en w5 ⟨err, rfl, d', k1, k2, k3⟩
                have HLW' : Hid (d'.wb = WB ∧ LW w2 d' (2 * (k + 1)) w5) := Lib.hid ⟨k2.wb.trans HW.out, k1.mono (by omega)⟩
                clear k1 k2 k3 HC x0 x1 x2 x3 x4 e3
                go_wp2_with fail
                go_roundw
                case rel => exact ⟨k + 1, d', by omega, by go_num, HLW'.out.1, HLW'.out.2⟩
                case measure => simp [intOf]; omega
              · by_cases q5 : x.kind = 5
                · have e3 : (x.kind == 3) = false := by simp [q5]
                  have e5 : (x.kind == 5) = true := by simp [q5]
                  have HC := fun (n : Nat) => l_remove (HLW.out.below (below_drewN (Below.refl _ wr) n)) (by omega) x.e HXE.out.1 HXE.out.2 x.comp
                  rw [HW.out] at HC
                  have HC := Lib.hid (HC 1)
                  clear q3 q5
                  go_wp2_with fail
                  go_still_tail 11, (by kernel_rfl)
                  change wpList _ _ _ _ _ (wr.drewN 1)
                  go_wp2_with fail
                  refine HC.out.mono ?_
                  rintro en w5 ⟨err, rfl, d', k1, k2, k3⟩
                  have HLW' : Hid (d'.wb = WB ∧ LW w2 d' (2 * (k + 1)) w5) := Lib.hid ⟨k2.wb.trans HW.out, k1.mono (by omega)⟩
                  clear k1 k2 k3 HC x0 x1 x2 x3 x4 e3 e5
                  go_wp2_with fail
                  go_roundw
                  case rel => exact ⟨k + 1, d', by omega, by go_num, HLW'.out.1, HLW'.out.2⟩
                  case measure => simp [intOf]; omega
                · have e3 : (x.kind == 3) = false := by simp [q3]
                  have e5 : (x.kind == 5) = false := by simp [q5]
                  have HC := l_spawn HLW.out HPAR.out 0
                  rw [HW.out] at HC
                  have HC := Lib.hid HC
                  clear q3 q5
                  go_wp2_with fail
                  refine HC.out.mono ?_
                  rintro en w5 ⟨n, err, rfl, hor⟩
                  obtain ⟨d', HLW'⟩ : ∃ d', Hid (d'.wb = WB ∧ LW w2 d' (2 * (k + 1)) w5) := by
                    rcases hor with ⟨_, _, d', k1, k2, k3⟩ | ⟨_, _, d', k1, k2, k3⟩
                    · exact ⟨d', Lib.hid ⟨k2.wb.trans HW.out, k1.mono (by omega)⟩⟩
                    · exact ⟨d', Lib.hid ⟨k2.wb.trans HW.out, k1.mono (by omega)⟩⟩
                  clear hor HC x0 x1 x2 x3 x4 e3 e5
                  go_wp2_with fail
                  go_roundw
                  case rel => exact ⟨k + 1, d', by omega, by go_num, HLW'.out.1, HLW'.out.2⟩
                  case measure => simp [intOf]; omega
            · obtain rfl : k = len2 := by omega
              have HC := wLive_any HLW.out.inn
              rw [HW.out] at HC
              have HC := Lib.hid HC
              go_wp2_with fail
              refine HC.out.mono ?_
              rintro en w4 ⟨la, lc, rfl, hown, hb4⟩
              have HLW4 := Lib.hid (HLW.out.below hb4)
              have hln := HLW4.out.bounds.2.1
              have hl257 : d.S.ix.liveL.length ≤ 257 := WMid.lbd HLW4.out.inn
              have her := ERow.of hown rfl (by omega)
              obtain ⟨LN, hLN⟩ : ∃ LN, d.S.ix.liveL.length = LN := ⟨_, rfl⟩
              rw [hLN] at her hl257 ⊢
              have HER := Lib.hid her
              have HLN := Lib.hid hLN
              have HC2 := wSigs_any HLW4.out.inn.raw
              rw [HW.out] at HC2
              have HC2 := Lib.hid HC2
              clear hown hb4 hln her hLN HC
              go_wp2_with fail
              refine HC2.out.mono ?_
              rintro en w5 ⟨sa, sc, rfl, hsown, hb5⟩
              have HLW5 := Lib.hid (HLW4.out.below hb5)
              have HER5 := Lib.hid (HER.out.below hb5)
              replace hsown : w5.ownsRow w4.heap.size 57 1 (.slice sa d.g.ts.length sc) d.g.ts.length (d.S.sets.map (.int .u32)) := hsown
              have HSO := Lib.hid hsown
              obtain ⟨SN, hSN⟩ : ∃ SN, d.g.ts.length = SN := ⟨_, rfl⟩
              rw [hSN] at HSO ⊢
              have hsl : d.S.sets.length = SN := by rw [← hSN]; exact sigs_len d.g
              have hs64 : SN ≤ 64 := by
                have h1 := HLW5.out.bounds.1
                have h2 := (WMid.caps HLW5.out.inn).archs
                rw [hsl] at h1
                have h1 : (SN : Int) ≤ d.caps.archs := h1
                omega
              have HSL := Lib.hid hsl
              have HSUM := Lib.hid (AllRow.sum HLW5.out.all HLW5.out.setsNd)
              clear hsown hb5 hSN hsl HC2 HLW4 HER
              go_wp2_with fail
              go_loopw [15, 16] (fun n i wr => ∃ k : Nat, k ≤ SN ∧ i = .int .i64 (k : Int) ∧ n = .int .i64 ((((d.S.sets.take k).map d.S.cnt).sum : Nat) : Int) ∧ w5 = wr) (fun _ i _ => SN - (intOf i).toNat)
              case atStart => exact ⟨0, Nat.zero_le _, rfl, rfl, rfl⟩
              case round =>
                obtain ⟨m, hm, rfl, rfl, rfl⟩ := hrel
                by_cases hmt : m < SN
                · obtain ⟨q, s, rfl, hq, hms, q0⟩ := sigs_at HSO.out HSL.out hmt
                  have i1 : (0 : Int) ≤ (m : Int) := by omega
                  have i2 : (m : Int) < (SN : Int) := by omega
                  have hsnoc := sum_snoc d.S.cnt hms
                  have hle := sum_take d.S.cnt d.S.sets (m + 1)
                  rw [HSUM.out, HLN.out] at hle
                  have hmem : s ∈ d.S.sets := List.mem_of_getElem? hms
                  have hsb : 0 ≤ s ∧ s ≤ 4294967295 := by
                    obtain ⟨t, ht, hts⟩ := WMid.of_pos HLW5.out.inn (HLW5.out.inn.inv.nd m s hms)
                    rw [← hts]
                    exact WMid.bd HLW5.out.inn ht
                  have HC := wCount_any HLW5.out.inn s hsb.1 hsb.2
                  rw [HW.out] at HC
                  have HC := Lib.hid HC
                  obtain ⟨X, hX⟩ : ∃ X, ((d.S.sets.take m).map d.S.cnt).sum = X := ⟨_, rfl⟩
                  obtain ⟨Y, hY⟩ : ∃ Y, d.S.cnt s = Y := ⟨_, rfl⟩
                  rw [hX, hY] at hsnoc
                  rw [hX]
                  rw [hY] at HC
                  have HSN := Lib.hid hsnoc
                  have hxy : X + Y ≤ 257 := by omega
                  clear hsnoc hle hmem hsb hms hX hY
                  go_wp2_with fail
                  refine HC.out.mono ?_
                  rintro en w6 ⟨rfl, rfl⟩
                  go_wp2_with fail
                  go_roundw
                  case rel => exact ⟨m + 1, by omega, by go_num, by rw [HSN.out]; go_num, by trivial⟩
                  case measure => simp [intOf]; omega
                · obtain rfl : m = SN := by omega
                  rw [List.take_of_length_le (by rw [HSL.out]; exact Nat.le_refl _), HSUM.out, HLN.out]
                  by_cases hz : LN = 0
                  · subst hz
                    go_wp2_with fail
                    go_returns
                    exact ⟨rfl, HB2.out.trans (HLW5.out.bel.mono HB2.out.size)⟩
                  · have hz0 : 0 < LN := by omega
                    obtain ⟨u, hu⟩ : ∃ u : Nat, IntKind.u64.wrap at_ = (u : Int) := ⟨(IntKind.u64.wrap at_).toNat, by rw [IntKind.wrap_u64]; omega⟩
                    obtain ⟨q, hq⟩ : ∃ q : Nat, u % LN = q := ⟨_, rfl⟩
                    have hq1 : (u : Int) % (LN : Int) = (q : Int) := by rw [← hq]; rfl
                    have hq2 : (u : Int).tmod (LN : Int) = (q : Int) := by rw [Int.tmod_eq_emod_of_nonneg (by omega)]; exact hq1
                    have hql : q < LN := by rw [← hq]; exact Nat.mod_lt _ hz0
                    have f1 : ((LN : Int) == 0) = false := by simp; omega
                    have f2 : ((LN : Int) != (LN : Int)) = false := by simp
                    have i1 : (0 : Int) ≤ (q : Int) := by omega
                    have i2 : (q : Int) < (LN : Int) := by omega
                    clear hq hz
                    obtain ⟨b, off, e, rfl, hB, hqe, q0⟩ := HER5.out.get hql
                    have heL : e ∈ d.S.ix.liveL := List.mem_of_getElem? hqe
                    have hbd := HLW5.out.inn.bd heL
                    have HC := l_parts HLW5.out heL
                    rw [HW.out] at HC
                    have HC := Lib.hid HC
                    have HEL := Lib.hid heL
                    have HBD := Lib.hid hbd
                    clear hqe heL hbd
                    go_wp2_with fail
                    refine HC.out.mono ?_
                    rintro en w6 ⟨pa, pc, ps, rfl, hpo, hcv, hb6⟩
                    have HLW6 := Lib.hid (HLW5.out.below hb6)
                    obtain ⟨PN, hPN⟩ : ∃ PN, (d.S.partsV e).length = PN := ⟨_, rfl⟩
                    rw [hPN] at hpo ⊢
                    have HPO := Lib.hid hpo
                    have HCV := Lib.hid hcv
                    have HPN := Lib.hid hPN
                    have hbox := keep HLW6.out.bel HK2.out.2.2
                    have p0 := cell_at hbox 0
                    have p1 := cell_at hbox 1
                    simp at p0 p1
                    have HA := wAdd_any HLW6.out.inn (by omega) e HBD.out.1 HBD.out.2 (HLW6.out.fr.ints HV2.out) comp (HLW6.out.is e)
                    rw [HW.out] at HA
                    have HA := Lib.hid HA
                    clear hpo hcv hb6 hPN hbox HC q0 hu hq1 hq2
                    go_wp2_with fail
                    refine HA.out.mono ?_
                    rintro en w7 ⟨d1, k1, k2, _, rfl, k5⟩
                    by_cases hk : d.S.addE e (comp, v) = 0
                    · rw [if_pos hk] at k5
                      rw [hk]
                      have hd := add_deed HLW6.out.all HLW6.out.ok HLW6.out.sch HBD.out.1 hk
                      have HLW7 : Hid (LW w2 d1 (2 * k + 2) w7) := Lib.hid ⟨k1, HLW6.out.fr.go k2, by rw [k5]; exact hd.all⟩
                      have hix : d1.S.ix.liveL = d.S.ix.liveL := by rw [k5, addS_ix]
                      have hkp1 := HLW6.out.kp k2
                      obtain ⟨g1, g2, g3, g4, g5⟩ := back_law HLW6.out.all HLW6.out.ok HLW6.out.sch HBD.out.1 hk
                      rw [← k5] at g1 g2 g3 g4 g5
                      have hw1 : d1.wb = WB := k2.wb.trans HW.out
                      have HC := l_parts HLW7.out (e := e) (by rw [hix]; exact HEL.out)
                      rw [hw1] at HC
                      have HC := Lib.hid HC
                      have HW1 := Lib.hid hw1
                      have HG := Lib.hid (And.intro g1 (And.intro g2 (And.intro g3 (And.intro g4 g5))))
                      have HKP1 := Lib.hid hkp1
                      have HIX := Lib.hid hix
                      clear k1 k2 k5 hk hd hix hkp1 g1 g2 g3 g4 g5 hw1 HA p0 p1
                      go_wp2_with fail
                      refine HC.out.mono ?_
                      rintro en w8 ⟨pa1, pc1, ps1, rfl, _, _, hb8⟩
                      rw [show (d1.S.partsV e).length = PN + 1 by rw [HG.out.2.2.1, HPN.out]]
                      have HLW8 := Lib.hid (HLW7.out.below hb8)
                      have hbox := keep HLW8.out.bel HK2.out.2.2
                      have p0 := cell_at hbox 0
                      have p1 := cell_at hbox 1
                      simp at p0 p1
                      have HC2 := wGet_ok HLW8.out.inn e HBD.out.1 comp HG.out.1
                      rw [HW1.out, HG.out.2.1] at HC2
                      have HC2 := Lib.hid HC2
                      have HKP2 := Lib.hid (HKP1.out.trans (Kp.of_below hb8))
                      clear hb8 hbox HC HKP1 HLW7
                      go_wp2_with fail
                      refine HC2.out.mono ?_
                      rintro en w9 ⟨ga, gc, rfl, hgo, hgw, hb9⟩
                      have HLW9 := Lib.hid (HLW8.out.below hb9)
                      have hbox := keep HLW9.out.bel HK2.out.2.2
                      have r0 := cell_at hbox 0
                      have r1 := cell_at hbox 1
                      simp at r0 r1
                      have hvl : v.length = vl := HV.out.1
                      have HVS := Lib.hid (values18_is v v ga v.length gc va vl vc w9 (own_ints hgo rfl hgw) ((HV2.out.below HLW9.out.bel).mono HLW9.out.bel.size) true ⟨fun _ => rfl, fun _ => rfl⟩)
                      have hpn : PN + 1 ≤ 100000 := by
                        obtain ⟨s, r', hra, hpv⟩ := HLW5.out.rowAt HEL.out
                        obtain ⟨s', r'', hww, hrr⟩ := HLW5.out.all e HEL.out
                        have hlen := congrArg List.length hpv
                        rw [HPN.out] at hlen
                        unfold cvOf at hlen
                        rw [List.length_zip] at hlen
                        have := idsTo_le s
                        omega
                      have f4 : (((PN + 1 : Nat) : Int) != (PN : Int) + 1) = false := by simp
                      have HKP3 := Lib.hid (HKP2.out.trans (Kp.of_below hb9))
                      clear hgo hgw hb9 hbox HKP2 HLW8 p0 p1 HC2 hvl
                      go_wp2_with fail
                      refine HVS.out.mono ?_
                      rintro en w10 ⟨rfl, m10, rfl⟩
                      have hb10 := below_drewN (Below.refl w9.heap.size w9) m10
                      have HLW10 := Lib.hid (HLW9.out.below hb10)
                      have HKP4 := Lib.hid (HKP3.out.trans (Kp.of_below hb10))
                      have hbox := keep HLW10.out.bel HK2.out.2.2
                      clear r0 r1
                      generalize w9.drewN m10 = wA at *
                      have r0 := cell_at hbox 0
                      have r1 := cell_at hbox 1
                      simp at r0 r1
                      have HR2 := wRemove_any HLW10.out.inn (by omega) e HBD.out.1 HBD.out.2 comp (HLW10.out.is e)
                      rw [HW1.out] at HR2
                      have HR2 := Lib.hid HR2
                      clear hb10 hbox HVS HLW9 HKP3
                      go_wp2_with fail
                      refine HR2.out.mono ?_
                      rintro en w11 ⟨d2, k1, k2, _, rfl, k5⟩
                      rcases HG.out.2.2.2.1 with hre | hre
                      · rw [hre, if_pos rfl] at k5
                        rw [hre]
                        have hd := remove_deed HLW10.out.all HLW10.out.ok HBD.out.1 hre
                        have HLW11 : Hid (LW w2 d2 (2 * k + 2 + 2) w11) := Lib.hid ⟨k1, HLW10.out.fr.go k2, by rw [k5]; exact hd.all⟩
                        have hix : d2.S.ix.liveL = d.S.ix.liveL := by rw [k5, removeS_ix]; exact HIX.out
                        have hpv : d2.S.partsV e = d.S.partsV e := by
                          have h5 := HG.out.2.2.2.2
                          unfold WS.partsV
                          rw [k5, h5]
                        have hw2 : d2.wb = WB := k2.wb.trans HW1.out
                        have HC := l_parts HLW11.out (e := e) (by rw [hix]; exact HEL.out)
                        rw [hw2, hpv] at HC
                        have HC := Lib.hid HC
                        have HKP5 := Lib.hid (HKP4.out.trans (HLW10.out.kp k2))
                        clear k1 k2 k5 hre hd hix hpv hw2 HR2 r0 r1
                        go_wp2_with fail
                        refine HC.out.mono ?_
                        rintro en w12 ⟨pa2, pc2, ps2, rfl, hpo2, hcv2, hb12⟩
                        rw [HPN.out] at hpo2 ⊢
                        have hpo1 := HPO.out.kp (HKP5.out.trans (Kp.of_below hb12))
                        have HSM := Lib.hid (same18_is ps2 ps pa2 PN pc2 pa PN pc w12 hpo2.at hpo1.at true ⟨fun _ => hcv2.trans HCV.out.symm, fun _ => rfl⟩)
                        have HB12 := Lib.hid (HB2.out.trans ((HLW11.out.below hb12).bel.mono HB2.out.size))
                        clear hpo2 hcv2 hb12 hpo1 HC
                        go_wp2_with fail
                        refine HSM.out.mono ?_
                        rintro en w13 ⟨rfl, m13, rfl⟩
                        go_wp2_with fail
                        go_returns
                        exact ⟨rfl, below_drewN HB12.out _⟩
                      · rw [hre]
                        have HB11 := Lib.hid (HB2.out.trans ((HLW10.out.fr.go k2).bel.mono HB2.out.size))
                        clear k1 k2 k5 hre HR2 r0 r1
                        go_wp2_with fail
                        go_returns
                        exact ⟨rfl, HB11.out⟩
                    · obtain ⟨E, hE⟩ : ∃ E, d.S.addE e (comp, v) = E := ⟨_, rfl⟩
                      rw [hE]
                      rw [hE] at hk
                      have f3 : (E != 0) = true := by simpa using hk
                      have HB7 := Lib.hid (HB2.out.trans ((HLW6.out.fr.go k2).bel.mono HB2.out.size))
                      clear k1 k2 k5 hk hE HA p0 p1
                      go_wp2_with fail
                      go_returns
                      exact ⟨rfl, HB7.out⟩
        · have HN := Lib.hid (wNew_nil ⟨c1, c2, c3, c4, c5, c6⟩ ver cs a len cap w2 ((HCS.out.1.below HB2.out).mono HB2.out.size) HCS.out.2.1 hgood)
          clear hgood
          go_wp2_with fail
          refine HN.out.mono ?_
          rintro e w3 ⟨rfl, hb⟩
          have HB3 := Lib.hid (HB2.out.trans (hb.mono HB2.out.size))
          clear hb HN s0 s1 y0 y1 y2 y3 y4 y5 p1
          go_wp2_with fail
          go_returns
          exact ⟨rfl, HB3.out⟩
    · go_wp2_with fail
      go_returns
      exact ⟨rfl, HB2.out⟩
  · clear hg
    go_wp2_with fail
    go_returns
    exact ⟨rfl, HB2.out⟩
end Go.Proofs.YthmpknlgkflhiabGreat
