/- TableRoom: the walk of the law. Printed by mkV9.py. -/
import Derived.Test.YtoadihebdaooaaaGreatV8
namespace Go.Proofs.YtoadihebdaooaaaGreat
open Go.RowKit
set_option linter.unusedVariables false
def great16B (cs : List Cmp) : Bool := decide (30 < cs.length) || cs.any fun c => decide (12 < c.fields.length)
theorem great16_f {cs : List Cmp} (h : great16B cs = false) : ∀ c ∈ cs, c.fields.length ≤ 100000 := by
  intro c hc
  unfold great16B at h
  rw [Bool.or_eq_false_iff, List.any_eq_false] at h
  have := h.2 c hc
  simp at this
  omega
set_option maxRecDepth 100000 in
theorem great16_any (ver : Int) (cs : List Cmp) (a : Option Addr) (len cap : Nat) (w : World) (hcs : CompsAt w.heap.size w a len cs) : Calls Tryz.prog 32 #[.agg #[.int .i64 ver, .slice a len cap]] w fun e w' => e = .returned (.bool (great16B cs)) ∧ Below w.heap.size w w' := by
  have hmx : len ≤ maxLen := hcs.2.1
  have hll := hcs.1
  unfold maxLen at hmx
  have HLL := Lib.hid hll
  clear hll
  have hbel0 : Below w.heap.size w (w.alloc (.cells #[.int .i64 ver, .slice a len cap] 24)) := by go_grown
  by_cases h30 : 30 < len
  · have HT : Hid (great16B cs = true) := Lib.hid (by simp [great16B, HLL.out]; omega)
    go_enter Tryz.func32, Tryz.ntmps32
    go_wp2_with fail
    go_returns
    exact ⟨ret_bool HT.out.symm, hbel0⟩
  · go_enter Tryz.func32, Tryz.ntmps32
    go_wp2_with fail
    go_loopw [3] (fun i wr => ∃ k : Nat, k ≤ len ∧ i = .int .i64 k ∧ great16B cs = ((cs.drop k).any fun c => decide (12 < c.fields.length)) ∧ w.alloc (.cells #[.int .i64 ver, .slice a len cap] 24) = wr) (fun i _ => len - (intOf i).toNat)
    case atStart => exact ⟨0, Nat.zero_le _, rfl, by simp [great16B, HLL.out]; omega, rfl⟩
    case round =>
      obtain ⟨k, hk, rfl, hgo, rfl⟩ := hrel
      have HGO := Lib.hid hgo
      clear hgo
      by_cases hlt : k < len
      · obtain ⟨b, off, c, rfl, hB, hc, c0, c1, fa, fl, fc, c2, hF, hnil⟩ := hcs.get hbel0 hlt
        have hstep := Lib.hid (HGO.out.trans (by rw [drop_get hc]))
        have hfl := hF.1
        have hfm := hF.2.1
        unfold maxLen at hfm
        have HFL := Lib.hid hfl
        clear hF hfl
        by_cases h12 : 12 < fl
        · have HT : Hid (great16B cs = true) := Lib.hid (by rw [hstep.out, List.any_cons, HFL.out]; simp [h12])
          go_wp2_with fail
          go_returns
          exact ⟨ret_bool HT.out.symm, hbel0⟩
        · have HT := Lib.hid (hstep.out.trans (show _ = ((cs.drop (k + 1)).any fun c => decide (12 < c.fields.length)) by rw [List.any_cons, HFL.out]; simp [h12]))
          go_wp2_with fail
          go_roundw
          case rel => exact ⟨k + 1, by omega, by go_num, HT.out, by trivial⟩
          case measure => simp [intOf]; omega
      · obtain rfl : k = len := by omega
        have HT : Hid (great16B cs = false) := Lib.hid (by rw [HGO.out, List.drop_eq_nil_of_le (by rw [HLL.out]; exact Nat.le_refl _)]; rfl)
        go_wp2_with fail
        go_returns
        exact ⟨ret_bool HT.out.symm, hbel0⟩
/-- A deed of the law. -/
structure TA where
  kind : Int
  i : Int
  e : Int
  pa : Option Addr
  pl : Nat
  pc : Nat
  ps : List PW
/-- A slice of deeds that lies below block B. -/
def TActsAt (B : Nat) (w : World) (a : Option Addr) (len : Nat) (l : List TA) : Prop :=
  l.length = len ∧ len ≤ maxLen ∧ (∀ x ∈ l, PartsAt B w x.pa x.pl x.pc x.ps) ∧ (len = 0 ∨ ∃ b off, a = some ⟨b, off, none⟩ ∧ b < B ∧ ∀ (i : Nat) (x : TA), l[i]? = some x →
    w.cell? ⟨b, off + i * 4, none⟩ = some (.int .i64 x.kind) ∧ w.cell? ⟨b, off + i * 4 + 1, none⟩ = some (.int .i64 x.i) ∧ w.cell? ⟨b, off + i * 4 + 2, none⟩ = some (.int .u64 x.e) ∧ w.cell? ⟨b, off + i * 4 + 3, none⟩ = some (.slice x.pa x.pl x.pc))
theorem TActsAt.get {B : Nat} {w w' : World} {a : Option Addr} {len : Nat} {l : List TA} (h : TActsAt B w a len l) (hb : Below B w w') {k : Nat} (hk : k < len) :
    ∃ b off x, a = some ⟨b, off, none⟩ ∧ b < B ∧ l[k]? = some x ∧ PartsAt B w' x.pa x.pl x.pc x.ps ∧ w'.cell? ⟨b, off + k * 4, none⟩ = some (.int .i64 x.kind) ∧ w'.cell? ⟨b, off + k * 4 + 1, none⟩ = some (.int .i64 x.i) ∧ w'.cell? ⟨b, off + k * 4 + 2, none⟩ = some (.int .u64 x.e) ∧ w'.cell? ⟨b, off + k * 4 + 3, none⟩ = some (.slice x.pa x.pl x.pc) := by
  obtain ⟨h1, h2, h4, h3⟩ := h
  rcases h3 with h3 | ⟨b, off, ha, hB, hc⟩
  · omega
  · have hl : k < l.length := by omega
    obtain ⟨c0, c1, c2, c3⟩ := hc k _ (List.getElem?_eq_getElem hl)
    exact ⟨b, off, l[k], ha, hB, List.getElem?_eq_getElem hl, (h4 _ (List.getElem_mem hl)).below hb, (hb.cell (p := ⟨b, _, none⟩) hB).trans c0, (hb.cell (p := ⟨b, _, none⟩) hB).trans c1, (hb.cell (p := ⟨b, _, none⟩) hB).trans c2, (hb.cell (p := ⟨b, _, none⟩) hB).trans c3⟩
theorem fitF_five {fs : List Fld} {val : List WI} (h : layCheck fs = 0) : fitF fs val ≠ 5 := by
  unfold fitF
  rw [if_neg (by simp [h])]
  split
  · decide
  · rcases fitGo_val fs val with h | h <;> rw [h] <;> decide
theorem cpF_five {cs : List Cmp} (h : ∀ c ∈ cs, layCheck c.fields = 0) (p : PW) : cpF cs p ≠ 5 := by
  unfold cpF
  cases hf : findC p.comp cs with
  | none => show (6 : Int) ≠ 5; decide
  | some c => exact fitF_five (h c (findC_mem hf))
theorem cpsGo_five {cs : List Cmp} (h : ∀ c ∈ cs, layCheck c.fields = 0) : ∀ (ps seen : List PW), cpsGo cs seen ps ≠ 5
  | [], _ => by unfold cpsGo; decide
  | p :: r, seen => by
    unfold cpsGo
    split
    · decide
    · split
      · exact cpF_five h p
      · exact cpsGo_five h r _
theorem TabIn.lay' {B : Nat} {w : World} {t : TD} (h : TabIn B w t) : ∀ c ∈ t.cs, layCheck c.fields = 0 := by
  intro c hc
  obtain ⟨x, hx, rfl⟩ := List.mem_map.1 hc
  exact h.lay x hx
theorem addErr_five {B : Nat} {w : World} {t : TD} (h : TabIn B w t) {e : Int} {ps : List PW} (he : addErr t e ps = 5) : t.free = 0 := by
  unfold addErr at he
  split at he
  · cases he
  · split at he
    · cases he
    · split at he
      · exact absurd he (cpsGo_five h.lay' _ _)
      · split at he
        · assumption
        · cases he
/-- What the law's rounds keep. -/
structure RoomS (w0 : World) (TB n : Nat) (t : TD) (w : World) : Prop where
  tab : TabIn TB w t
  tb : t.tb = TB
  most : t.most = n
  bel : Below w0.heap.size w0 w
  le : w0.heap.size ≤ TB
theorem RoomS.next {w0 w w' : World} {TB n : Nat} {t t' : TD} (h : RoomS w0 TB n t w) (ho : Out t.foot w w') (ht : TabIn TB w' t') (h1 : t'.tb = t.tb) (h2 : t'.most = t.most) : RoomS w0 TB n t' w' :=
  ⟨ht, h1.trans h.tb, h2.trans h.most, h.bel.trans (ho.below (fun b hb => Nat.le_trans h.le (h.tab.foot_ge hb).1) h.bel.size), h.le⟩
theorem RoomS.below {w0 w w' : World} {TB n : Nat} {t : TD} (h : RoomS w0 TB n t w) (hb : Below w.heap.size w w') : RoomS w0 TB n t w' := h.next (Out.of hb) (h.tab.below hb) rfl rfl
theorem RoomS.room {w0 w : World} {TB n : Nat} {t : TD} (h : RoomS w0 TB n t w) {fr : Nat} (hf : t.free = fr) : Calls Tryz.prog 29 #[.pointer (some ⟨TB, 0, none⟩)] w fun e w' => e = .returned (.int .i64 (fr : Int)) ∧ RoomS w0 TB n t w' := by
  have := tabRoom_in h.tab
  rw [h.tb, hf] at this
  exact this.mono fun e w' ⟨he, m, hm⟩ => ⟨he, by rw [hm]; exact h.below (below_drewN (Below.refl _ _) m)⟩
/-- Parts that lie below are left alone. -/
theorem RoomS.parts {w0 w : World} {TB n : Nat} {t : TD} (h : RoomS w0 TB n t w) {pa : Option Addr} {pl pc : Nat} {ps : List PW} (hp : PartsAt w0.heap.size w0 pa pl pc ps) : ∀ w', Out t.cfoot w w' → PartsAt w'.heap.size w' pa pl pc ps := by
  intro w' ho
  have hb : Below w0.heap.size w w' := ho.below (fun b hb => Nat.le_trans h.le (h.tab.foot_ge (TabIn.cfoot_foot hb)).1) h.bel.size
  have := h.bel.trans hb
  exact (hp.below this).mono this.size
set_option maxRecDepth 100000 in
set_option maxHeartbeats 8000000 in
theorem room_walk (ver set most : Int) (cs : List Cmp) (a : Option Addr) (len cap : Nat) (l : List TA) (a2 : Option Addr) (len2 cap2 : Nat) (w : World) (hcs : CompsAt w.heap.size w a len cs) (hwf : CompsWf cs) (hl : TActsAt w.heap.size w a2 len2 l) (h0 : 0 ≤ set) (h1 : set ≤ 4294967295) :
    Calls Tryz.prog 4 #[.agg #[.int .i64 ver, .slice a len cap], .int .u32 set, .int .i64 most, .slice a2 len2 cap2] w fun e w' => e = .returned (.bool true) ∧ Below w.heap.size w w' := by
  have hm2 : len2 ≤ maxLen := hl.2.1
  unfold maxLen at hm2
  have HCS := Lib.hid (And.intro hcs hwf)
  have HL := Lib.hid hl
  have hw1 := heap_alloc_new w (.cells #[.int .i64 ver, .slice a len cap] 24)
  have hb1 : Below w.heap.size w (w.alloc (.cells #[.int .i64 ver, .slice a len cap] 24)) := by go_grown
  have HW1 := Lib.hid (And.intro hw1 hb1)
  clear hcs hwf hl hw1 hb1
  go_enter Tryz.func4, Tryz.ntmps4
  go_wp2_with fail
  generalize w.alloc (.cells #[.int .i64 ver, .slice a len cap] 24) = W at *
  refine (awake16_any W).mono ?_
  rintro e w1 ⟨rfl, hb⟩
  have hk1 := keep hb HW1.out.1
  have HB1 := Lib.hid (HW1.out.2.trans (hb.mono HW1.out.2.size))
  have s0 := cell_at hk1 0
  have s1 := cell_at hk1 1
  simp at s0 s1
  have HK1 := Lib.hid hk1
  clear hk1 hb HW1
  go_wp2_with fail
  refine (great16_any ver cs _ _ _ _ ((HCS.out.1.below HB1.out).mono HB1.out.size)).mono ?_
  rintro e w2 ⟨rfl, hb⟩
  have hk2 := keep hb HK1.out
  have HB2 := Lib.hid (HB1.out.trans (hb.mono HB1.out.size))
  clear s0 s1
  have s0 := cell_at hk2 0
  have s1 := cell_at hk2 1
  simp at s0 s1
  have HK2 := Lib.hid hk2
  clear hk2 hb HB1 HK1
  cases hg : great16B cs
  · have HG := Lib.hid hg
    clear hg
    by_cases h80 : 80 < len2
    · go_wp2_with fail
      go_returns
      exact ⟨rfl, HB2.out⟩
    · obtain ⟨u, hu⟩ : ∃ u : Nat, IntKind.u64.wrap most = (u : Int) := ⟨(IntKind.u64.wrap most).toNat, by rw [IntKind.wrap_u64]; omega⟩
      obtain ⟨q, hq⟩ : ∃ q : Nat, u % 20 = q := ⟨_, rfl⟩
      have hq1 : (u : Int) % 20 = (q : Int) := by omega
      have hq2 : (u : Int).tmod 20 = (q : Int) := by rw [Int.tmod_eq_emod_of_nonneg (by omega)]; exact hq1
      have hq20 : q < 20 := by omega
      obtain ⟨N, hN⟩ : ∃ N, 1 + q = N := ⟨_, rfl⟩
      have hN1 : 1 + (q : Int) = (N : Int) := by omega
      have hN2 : 1 ≤ N ∧ N ≤ 20 := by omega
      clear hq hN
      go_wp2_with fail
      refine (tableNew_any ver cs _ _ _ set (N : Int) _ ((HCS.out.1.below HB2.out).mono HB2.out.size) HCS.out.2 (great16_f HG.out) h0 h1).mono ?_
      intro e w3 ht
      unfold IsTable at ht
      cases hok : tableOk ver cs set (N : Int) with
      | false =>
        rw [hok] at ht
        simp only [if_false, Bool.false_eq_true] at ht
        obtain ⟨rfl, hb3⟩ := ht
        have HB3 := Lib.hid (HB2.out.trans (hb3.mono HB2.out.size))
        clear hb3 hok hu hq1 hq2 hN1
        go_wp2_with fail
        go_returns
        exact ⟨rfl, HB3.out⟩
      | true =>
        rw [hok] at ht
        simp only [if_true] at ht
        obtain ⟨tb, rfl, htb, hnew, hb3⟩ := ht
        obtain ⟨t, h3, rfl, _, _, ht3, _, _, _⟩ := TabIn.of_new hnew hok h0 h1
        have hs : RoomS w t.tb N t w3 := ⟨h3, rfl, ht3, HB2.out.trans (hb3.mono HB2.out.size), by have := HB2.out.size; omega⟩
        obtain ⟨TB, hTB⟩ : ∃ TB, t.tb = TB := ⟨_, rfl⟩
        rw [hTB] at hs ⊢
        have HS := Lib.hid hs
        clear hs hnew hok htb hb3 h3 ht3 hTB hu hq1 hq2 hN1 s0 s1
        go_wp2_with fail
        go_loopw [11] (fun i wr => ∃ (k : Nat) (t : TD), k ≤ len2 ∧ i = .int .i64 (k : Int) ∧ RoomS w TB N t wr) (fun i _ => len2 - (intOf i).toNat)
        case atStart => exact ⟨0, t, Nat.zero_le _, rfl, HS.out⟩
        case round =>
          obtain ⟨k, t, hk, rfl, hst⟩ := hrel
          have HST := Lib.hid hst
          clear hst
          by_cases hlt : k < len2
          · obtain ⟨b, off, x, rfl, hB, hx, hp, x0, x1, x2, x3⟩ := HL.out.get HST.out.bel hlt
            have i1 : (0 : Int) ≤ (k : Int) := by omega
            have i2 : (k : Int) < (len2 : Int) := by omega
            have hz := HST.out.bel.size
            have hstA := HST.out.below ((Below.refl _ wr).alloc (Nat.le_refl _) (.cells #[.int .i64 x.kind, .int .i64 x.i, .int .u64 x.e, .slice x.pa x.pl x.pc] 72))
            have hblA := heap_alloc_new wr (.cells #[.int .i64 x.kind, .int .i64 x.i, .int .u64 x.e, .slice x.pa x.pl x.pc] 72)
            have HSA := Lib.hid hstA
            have HBA := Lib.hid hblA
            have HPP := Lib.hid (HL.out.2.2.1 x (List.mem_of_getElem? hx))
            have hpm : x.pl ≤ maxLen := by have := hp.2.1; have := hp.2.2.1; omega
            unfold maxLen at hpm
            clear hx hp hstA hblA
            by_cases h12 : 12 < x.pl
            · go_wp2_with fail
              go_returns
              exact ⟨rfl, HSA.out.bel⟩
            · go_wp2_with fail
              generalize wr.alloc (.cells #[.int .i64 x.kind, .int .i64 x.i, .int .u64 x.e, .slice x.pa x.pl x.pc] 72) = wA at *
              obtain ⟨PX, hPX⟩ : ∃ PX, wr.heap.size = PX := ⟨_, rfl⟩
              rw [hPX] at HBA ⊢
              clear hPX x0 x1 x2 x3 hz
              have hrm := tabRoom_in HSA.out.tab
              rw [HSA.out.tb] at hrm
              refine hrm.mono ?_
              rintro e w4 ⟨rfl, n4, rfl⟩
              clear hrm
              have HS4 := Lib.hid (HSA.out.below (below_drewN (Below.refl _ _) n4))
              have hbl4 : (wA.drewN n4).heap[PX]? = _ := HBA.out
              generalize wA.drewN n4 = w4 at *
              have y0 := cell_at hbl4 0
              have y1 := cell_at hbl4 1
              have y2 := cell_at hbl4 2
              have y3 := cell_at hbl4 3
              simp at y0 y1 y2 y3
              clear HSA HBA hbl4
              obtain ⟨F, hF⟩ : ∃ F, t.free = F := ⟨_, rfl⟩
              rw [hF]
              have HF := Lib.hid hF
              clear hF
              by_cases k3 : x.kind ≤ 3
              · have e1 : decide (x.kind ≤ 3) = true := by simp; exact k3
                clear k3
                go_wp2_with fail
                have hpar := HS4.out.parts HPP.out
                by_cases herr : addErr t x.e x.ps = 0
                · have hadd := tabAdd_ok HS4.out.tab x.e x.ps x.pa x.pl x.pc hpar (by omega) herr
                  have hfr := (add_ok HS4.out.tab.ids herr).1
                  rw [HF.out] at hfr
                  rw [HS4.out.tb] at hadd
                  have HADD := Lib.hid hadd
                  have e2 : ((F : Int) == 0) = false := by rw [beq_eq_false_iff_ne]; omega
                  clear hadd herr hfr hpar
                  refine HADD.out.mono ?_
                  rintro en w5 ⟨rfl, ea, ec, D, ht5, _, hout5, _⟩
                  obtain ⟨t', HT⟩ : ∃ t', Hid (RoomS w TB N t' w5) := ⟨_, Lib.hid (HS4.out.next hout5 ht5 rfl rfl)⟩
                  clear ht5 hout5 HADD HS4 y0 y1 y2 y3 HF
                  go_wp2_with fail
                  obtain ⟨fr, hfr⟩ : ∃ fr, t'.free = fr := ⟨_, rfl⟩
                  obtain ⟨ln, hln⟩ : ∃ ln, t'.ents.length = ln := ⟨_, rfl⟩
                  obtain ⟨kp, hkp⟩ : ∃ kp, t'.kept = kp := ⟨_, rfl⟩
                  have hroom := HT.out.tab.room
                  have hmost := HT.out.most
                  rw [hmost, hln, hkp] at hroom
                  have hfe : fr + ln + kp = N := by unfold TD.free at hfr; omega
                  refine (HT.out.room hfr).mono ?_
                  rintro en1 wt1 ⟨rfl, hT1⟩
                  have HT1 := Lib.hid hT1
                  clear hT1 HT
                  have r2 := tabLen_in HT1.out.tab
                  rw [HT1.out.tb, hln] at r2
                  have HR2 := Lib.hid r2
                  have r3 := tabKept_in HT1.out.tab
                  rw [HT1.out.tb, hkp] at r3
                  have HR3 := Lib.hid r3
                  have HR4 := Lib.hid (HT1.out.room hfr)
                  have HQ := Lib.hid (And.intro hfr (And.intro hln hkp))
                  have e5 : ((fr : Int) + (ln : Int) + (kp : Int) != (N : Int)) = false := by
                    have : (fr : Int) + (ln : Int) + (kp : Int) = (N : Int) := by omega
                    rw [this]; simp
                  clear r2 r3 hfr hln hkp hmost
                  go_wp2_with fail
                  refine HR2.out.mono ?_
                  rintro en2 wt2 ⟨rfl, rfl⟩
                  go_wp2_with fail
                  refine HR3.out.mono ?_
                  rintro en3 wt3 ⟨rfl, rfl⟩
                  go_wp2_with fail
                  refine HR4.out.mono ?_
                  rintro en4 wt4 ⟨rfl, hT2⟩
                  have HT2 := Lib.hid hT2
                  clear hT2
                  have r5 := tabKept_in HT2.out.tab
                  rw [HT2.out.tb, HQ.out.2.2] at r5
                  have r6 := tabEnts_in HT2.out.tab
                  rw [HT2.out.tb] at r6
                  clear HR2 HR3 HR4 HT1 e5
                  have HR5 := Lib.hid r5
                  have HR6 := Lib.hid r6
                  clear r5 r6
                  go_wp2_with fail
                  refine HR5.out.mono ?_
                  rintro en5 wt5 ⟨rfl, rfl⟩
                  go_wp2_with fail
                  refine HR6.out.mono ?_
                  rintro en6 wt6 ⟨va6, vc6, rfl, _, hb6⟩
                  have HT3 := Lib.hid (HT2.out.below hb6)
                  rw [HQ.out.2.1]
                  have r7 := tabLen_in HT3.out.tab
                  rw [HT3.out.tb, HQ.out.2.1] at r7
                  have HR7 := Lib.hid r7
                  clear r7 hb6 HR5 HR6 HT2
                  go_wp2_with fail
                  refine HR7.out.mono ?_
                  rintro en7 wt7 ⟨rfl, rfl⟩
                  have e6 : ((ln : Int) != (ln : Int)) = false := by simp
                  clear HR7 HQ
                  go_wp2_with fail
                  go_roundw
                  case rel => exact ⟨k + 1, t', by omega, by go_num, HT3.out⟩
                  case measure => simp [intOf]; omega
                · have hadd := tabAdd_no HS4.out.tab x.e x.ps x.pa x.pl x.pc (hpar w4 (Out.refl _ _)) (by omega) herr
                  rw [HS4.out.tb] at hadd
                  have h5 : addErr t x.e x.ps = 5 → F = 0 := fun h => by have := addErr_five HS4.out.tab h; rw [HF.out] at this; exact this
                  obtain ⟨r, hr⟩ : ∃ r, addErr t x.e x.ps = r := ⟨_, rfl⟩
                  rw [hr] at hadd herr h5
                  have HADD := Lib.hid hadd
                  have e2 : (r == 0) = false := by rw [beq_eq_false_iff_ne]; exact herr
                  refine HADD.out.mono ?_
                  rintro en w5 ⟨rfl, hb5⟩
                  obtain ⟨t', HT⟩ : ∃ t', Hid (RoomS w TB N t' w5) := ⟨_, Lib.hid (HS4.out.below hb5)⟩
                  clear hadd herr hpar hr hb5 HADD HS4 y0 y1 y2 y3 HF
                  by_cases hr5 : r = 5
                  · obtain rfl : F = 0 := h5 hr5
                    subst hr5
                    clear h5 e2
                    go_wp2_with fail
                    obtain ⟨fr, hfr⟩ : ∃ fr, t'.free = fr := ⟨_, rfl⟩
                    obtain ⟨ln, hln⟩ : ∃ ln, t'.ents.length = ln := ⟨_, rfl⟩
                    obtain ⟨kp, hkp⟩ : ∃ kp, t'.kept = kp := ⟨_, rfl⟩
                    have hroom := HT.out.tab.room
                    have hmost := HT.out.most
                    rw [hmost, hln, hkp] at hroom
                    have hfe : fr + ln + kp = N := by unfold TD.free at hfr; omega
                    refine (HT.out.room hfr).mono ?_
                    rintro en1 wt1 ⟨rfl, hT1⟩
                    have HT1 := Lib.hid hT1
                    clear hT1 HT
                    have r2 := tabLen_in HT1.out.tab
                    rw [HT1.out.tb, hln] at r2
                    have HR2 := Lib.hid r2
                    have r3 := tabKept_in HT1.out.tab
                    rw [HT1.out.tb, hkp] at r3
                    have HR3 := Lib.hid r3
                    have HR4 := Lib.hid (HT1.out.room hfr)
                    have HQ := Lib.hid (And.intro hfr (And.intro hln hkp))
                    have e5 : ((fr : Int) + (ln : Int) + (kp : Int) != (N : Int)) = false := by
                      have : (fr : Int) + (ln : Int) + (kp : Int) = (N : Int) := by omega
                      rw [this]; simp
                    clear r2 r3 hfr hln hkp hmost
                    go_wp2_with fail
                    refine HR2.out.mono ?_
                    rintro en2 wt2 ⟨rfl, rfl⟩
                    go_wp2_with fail
                    refine HR3.out.mono ?_
                    rintro en3 wt3 ⟨rfl, rfl⟩
                    go_wp2_with fail
                    refine HR4.out.mono ?_
                    rintro en4 wt4 ⟨rfl, hT2⟩
                    have HT2 := Lib.hid hT2
                    clear hT2
                    have r5 := tabKept_in HT2.out.tab
                    rw [HT2.out.tb, HQ.out.2.2] at r5
                    have r6 := tabEnts_in HT2.out.tab
                    rw [HT2.out.tb] at r6
                    clear HR2 HR3 HR4 HT1 e5
                    have HR5 := Lib.hid r5
                    have HR6 := Lib.hid r6
                    clear r5 r6
                    go_wp2_with fail
                    refine HR5.out.mono ?_
                    rintro en5 wt5 ⟨rfl, rfl⟩
                    go_wp2_with fail
                    refine HR6.out.mono ?_
                    rintro en6 wt6 ⟨va6, vc6, rfl, _, hb6⟩
                    have HT3 := Lib.hid (HT2.out.below hb6)
                    rw [HQ.out.2.1]
                    have r7 := tabLen_in HT3.out.tab
                    rw [HT3.out.tb, HQ.out.2.1] at r7
                    have HR7 := Lib.hid r7
                    clear r7 hb6 HR5 HR6 HT2
                    go_wp2_with fail
                    refine HR7.out.mono ?_
                    rintro en7 wt7 ⟨rfl, rfl⟩
                    have e6 : ((ln : Int) != (ln : Int)) = false := by simp
                    clear HR7 HQ
                    go_wp2_with fail
                    go_roundw
                    case rel => exact ⟨k + 1, t', by omega, by go_num, HT3.out⟩
                    case measure => simp [intOf]; omega
                  · have e3 : (r == 5) = false := by rw [beq_eq_false_iff_ne]; exact hr5
                    clear h5 hr5
                    go_wp2_with fail
                    obtain ⟨fr, hfr⟩ : ∃ fr, t'.free = fr := ⟨_, rfl⟩
                    obtain ⟨ln, hln⟩ : ∃ ln, t'.ents.length = ln := ⟨_, rfl⟩
                    obtain ⟨kp, hkp⟩ : ∃ kp, t'.kept = kp := ⟨_, rfl⟩
                    have hroom := HT.out.tab.room
                    have hmost := HT.out.most
                    rw [hmost, hln, hkp] at hroom
                    have hfe : fr + ln + kp = N := by unfold TD.free at hfr; omega
                    refine (HT.out.room hfr).mono ?_
                    rintro en1 wt1 ⟨rfl, hT1⟩
                    have HT1 := Lib.hid hT1
                    clear hT1 HT
                    have r2 := tabLen_in HT1.out.tab
                    rw [HT1.out.tb, hln] at r2
                    have HR2 := Lib.hid r2
                    have r3 := tabKept_in HT1.out.tab
                    rw [HT1.out.tb, hkp] at r3
                    have HR3 := Lib.hid r3
                    have HR4 := Lib.hid (HT1.out.room hfr)
                    have HQ := Lib.hid (And.intro hfr (And.intro hln hkp))
                    have e5 : ((fr : Int) + (ln : Int) + (kp : Int) != (N : Int)) = false := by
                      have : (fr : Int) + (ln : Int) + (kp : Int) = (N : Int) := by omega
                      rw [this]; simp
                    clear r2 r3 hfr hln hkp hmost
                    go_wp2_with fail
                    refine HR2.out.mono ?_
                    rintro en2 wt2 ⟨rfl, rfl⟩
                    go_wp2_with fail
                    refine HR3.out.mono ?_
                    rintro en3 wt3 ⟨rfl, rfl⟩
                    go_wp2_with fail
                    refine HR4.out.mono ?_
                    rintro en4 wt4 ⟨rfl, hT2⟩
                    have HT2 := Lib.hid hT2
                    clear hT2
                    have r5 := tabKept_in HT2.out.tab
                    rw [HT2.out.tb, HQ.out.2.2] at r5
                    have r6 := tabEnts_in HT2.out.tab
                    rw [HT2.out.tb] at r6
                    clear HR2 HR3 HR4 HT1 e5
                    have HR5 := Lib.hid r5
                    have HR6 := Lib.hid r6
                    clear r5 r6
                    go_wp2_with fail
                    refine HR5.out.mono ?_
                    rintro en5 wt5 ⟨rfl, rfl⟩
                    go_wp2_with fail
                    refine HR6.out.mono ?_
                    rintro en6 wt6 ⟨va6, vc6, rfl, _, hb6⟩
                    have HT3 := Lib.hid (HT2.out.below hb6)
                    rw [HQ.out.2.1]
                    have r7 := tabLen_in HT3.out.tab
                    rw [HT3.out.tb, HQ.out.2.1] at r7
                    have HR7 := Lib.hid r7
                    clear r7 hb6 HR5 HR6 HT2
                    go_wp2_with fail
                    refine HR7.out.mono ?_
                    rintro en7 wt7 ⟨rfl, rfl⟩
                    have e6 : ((ln : Int) != (ln : Int)) = false := by simp
                    clear HR7 HQ
                    go_wp2_with fail
                    go_roundw
                    case rel => exact ⟨k + 1, t', by omega, by go_num, HT3.out⟩
                    case measure => simp [intOf]; omega
              · have e1 : decide (x.kind ≤ 3) = false := by simp; omega
                by_cases k4 : x.kind = 4
                · have e2 : (x.kind == 4) = true := by rw [beq_iff_eq]; exact k4
                  clear k3 k4
                  by_cases hi : 0 ≤ x.i ∧ x.i < t.ents.length
                  · obtain ⟨r, hr⟩ : ∃ r : Nat, x.i = r := ⟨x.i.toNat, by omega⟩
                    have hlen : t.ents.length = t.ents.length - 1 + 1 := by omega
                    obtain ⟨y, hy⟩ : ∃ y, t.ents[t.ents.length - 1]? = some y := ⟨_, List.getElem?_eq_getElem (by omega)⟩
                    have hdr := tabDrop_ok HS4.out.tab r (t.ents.length - 1) (by omega) hlen y hy
                    obtain ⟨v, hv⟩ : ∃ v : Int, (if r = t.ents.length - 1 then 0 else y) = v := ⟨_, rfl⟩
                    rw [hv, ← hr, HS4.out.tb] at hdr
                    have HDR := Lib.hid hdr
                    clear hdr hlen hy hr hi hv
                    go_wp2_with fail
                    refine HDR.out.mono ?_
                    rintro en w5 ⟨rfl, D, ht5, _, hout5, _⟩
                    obtain ⟨t', HT⟩ : ∃ t', Hid (RoomS w TB N t' w5) := ⟨_, Lib.hid (HS4.out.next hout5 ht5 rfl rfl)⟩
                    clear ht5 hout5 HDR HS4 y0 y1 y2 y3 HF
                    go_wp2_with fail
                    obtain ⟨fr, hfr⟩ : ∃ fr, t'.free = fr := ⟨_, rfl⟩
                    obtain ⟨ln, hln⟩ : ∃ ln, t'.ents.length = ln := ⟨_, rfl⟩
                    obtain ⟨kp, hkp⟩ : ∃ kp, t'.kept = kp := ⟨_, rfl⟩
                    have hroom := HT.out.tab.room
                    have hmost := HT.out.most
                    rw [hmost, hln, hkp] at hroom
                    have hfe : fr + ln + kp = N := by unfold TD.free at hfr; omega
                    refine (HT.out.room hfr).mono ?_
                    rintro en1 wt1 ⟨rfl, hT1⟩
                    have HT1 := Lib.hid hT1
                    clear hT1 HT
                    have r2 := tabLen_in HT1.out.tab
                    rw [HT1.out.tb, hln] at r2
                    have HR2 := Lib.hid r2
                    have r3 := tabKept_in HT1.out.tab
                    rw [HT1.out.tb, hkp] at r3
                    have HR3 := Lib.hid r3
                    have HR4 := Lib.hid (HT1.out.room hfr)
                    have HQ := Lib.hid (And.intro hfr (And.intro hln hkp))
                    have e5 : ((fr : Int) + (ln : Int) + (kp : Int) != (N : Int)) = false := by
                      have : (fr : Int) + (ln : Int) + (kp : Int) = (N : Int) := by omega
                      rw [this]; simp
                    clear r2 r3 hfr hln hkp hmost
                    go_wp2_with fail
                    refine HR2.out.mono ?_
                    rintro en2 wt2 ⟨rfl, rfl⟩
                    go_wp2_with fail
                    refine HR3.out.mono ?_
                    rintro en3 wt3 ⟨rfl, rfl⟩
                    go_wp2_with fail
                    refine HR4.out.mono ?_
                    rintro en4 wt4 ⟨rfl, hT2⟩
                    have HT2 := Lib.hid hT2
                    clear hT2
                    have r5 := tabKept_in HT2.out.tab
                    rw [HT2.out.tb, HQ.out.2.2] at r5
                    have r6 := tabEnts_in HT2.out.tab
                    rw [HT2.out.tb] at r6
                    clear HR2 HR3 HR4 HT1 e5
                    have HR5 := Lib.hid r5
                    have HR6 := Lib.hid r6
                    clear r5 r6
                    go_wp2_with fail
                    refine HR5.out.mono ?_
                    rintro en5 wt5 ⟨rfl, rfl⟩
                    go_wp2_with fail
                    refine HR6.out.mono ?_
                    rintro en6 wt6 ⟨va6, vc6, rfl, _, hb6⟩
                    have HT3 := Lib.hid (HT2.out.below hb6)
                    rw [HQ.out.2.1]
                    have r7 := tabLen_in HT3.out.tab
                    rw [HT3.out.tb, HQ.out.2.1] at r7
                    have HR7 := Lib.hid r7
                    clear r7 hb6 HR5 HR6 HT2
                    go_wp2_with fail
                    refine HR7.out.mono ?_
                    rintro en7 wt7 ⟨rfl, rfl⟩
                    have e6 : ((ln : Int) != (ln : Int)) = false := by simp
                    clear HR7 HQ
                    go_wp2_with fail
                    go_roundw
                    case rel => exact ⟨k + 1, t', by omega, by go_num, HT3.out⟩
                    case measure => simp [intOf]; omega
                  · have hdr := tabDrop_no HS4.out.tab x.i hi
                    rw [HS4.out.tb] at hdr
                    have HDR := Lib.hid hdr
                    clear hdr hi
                    go_wp2_with fail
                    refine HDR.out.mono ?_
                    rintro en w5 ⟨rfl, rfl⟩
                    obtain ⟨t', HT⟩ : ∃ t', Hid (RoomS w TB N t' w4) := ⟨_, HS4⟩
                    clear HDR HS4 y0 y1 y2 y3 HF
                    go_wp2_with fail
                    obtain ⟨fr, hfr⟩ : ∃ fr, t'.free = fr := ⟨_, rfl⟩
                    obtain ⟨ln, hln⟩ : ∃ ln, t'.ents.length = ln := ⟨_, rfl⟩
                    obtain ⟨kp, hkp⟩ : ∃ kp, t'.kept = kp := ⟨_, rfl⟩
                    have hroom := HT.out.tab.room
                    have hmost := HT.out.most
                    rw [hmost, hln, hkp] at hroom
                    have hfe : fr + ln + kp = N := by unfold TD.free at hfr; omega
                    refine (HT.out.room hfr).mono ?_
                    rintro en1 wt1 ⟨rfl, hT1⟩
                    have HT1 := Lib.hid hT1
                    clear hT1 HT
                    have r2 := tabLen_in HT1.out.tab
                    rw [HT1.out.tb, hln] at r2
                    have HR2 := Lib.hid r2
                    have r3 := tabKept_in HT1.out.tab
                    rw [HT1.out.tb, hkp] at r3
                    have HR3 := Lib.hid r3
                    have HR4 := Lib.hid (HT1.out.room hfr)
                    have HQ := Lib.hid (And.intro hfr (And.intro hln hkp))
                    have e5 : ((fr : Int) + (ln : Int) + (kp : Int) != (N : Int)) = false := by
                      have : (fr : Int) + (ln : Int) + (kp : Int) = (N : Int) := by omega
                      rw [this]; simp
                    clear r2 r3 hfr hln hkp hmost
                    go_wp2_with fail
                    refine HR2.out.mono ?_
                    rintro en2 wt2 ⟨rfl, rfl⟩
                    go_wp2_with fail
                    refine HR3.out.mono ?_
                    rintro en3 wt3 ⟨rfl, rfl⟩
                    go_wp2_with fail
                    refine HR4.out.mono ?_
                    rintro en4 wt4 ⟨rfl, hT2⟩
                    have HT2 := Lib.hid hT2
                    clear hT2
                    have r5 := tabKept_in HT2.out.tab
                    rw [HT2.out.tb, HQ.out.2.2] at r5
                    have r6 := tabEnts_in HT2.out.tab
                    rw [HT2.out.tb] at r6
                    clear HR2 HR3 HR4 HT1 e5
                    have HR5 := Lib.hid r5
                    have HR6 := Lib.hid r6
                    clear r5 r6
                    go_wp2_with fail
                    refine HR5.out.mono ?_
                    rintro en5 wt5 ⟨rfl, rfl⟩
                    go_wp2_with fail
                    refine HR6.out.mono ?_
                    rintro en6 wt6 ⟨va6, vc6, rfl, _, hb6⟩
                    have HT3 := Lib.hid (HT2.out.below hb6)
                    rw [HQ.out.2.1]
                    have r7 := tabLen_in HT3.out.tab
                    rw [HT3.out.tb, HQ.out.2.1] at r7
                    have HR7 := Lib.hid r7
                    clear r7 hb6 HR5 HR6 HT2
                    go_wp2_with fail
                    refine HR7.out.mono ?_
                    rintro en7 wt7 ⟨rfl, rfl⟩
                    have e6 : ((ln : Int) != (ln : Int)) = false := by simp
                    clear HR7 HQ
                    go_wp2_with fail
                    go_roundw
                    case rel => exact ⟨k + 1, t', by omega, by go_num, HT3.out⟩
                    case measure => simp [intOf]; omega
                · have e2 : (x.kind == 4) = false := by rw [beq_eq_false_iff_ne]; exact k4
                  by_cases k6 : x.kind = 6
                  · have e3 : (x.kind == 6) = true := by rw [beq_iff_eq]; exact k6
                    clear k3 k4 k6
                    have hkp := tabKeep_in HS4.out.tab
                    rw [HS4.out.tb, HF.out] at hkp
                    by_cases hF0 : F = 0
                    · rw [if_pos hF0, if_pos hF0] at hkp
                      have HKP := Lib.hid hkp
                      subst hF0
                      clear hkp
                      go_wp2_with fail
                      refine HKP.out.mono ?_
                      rintro en w5 ⟨rfl, ht5, hout5⟩
                      obtain ⟨t', HT⟩ : ∃ t', Hid (RoomS w TB N t' w5) := ⟨_, Lib.hid (HS4.out.next hout5 ht5 rfl rfl)⟩
                      clear ht5 hout5 HKP HS4 y0 y1 y2 y3 HF
                      go_wp2_with fail
                      obtain ⟨fr, hfr⟩ : ∃ fr, t'.free = fr := ⟨_, rfl⟩
                      obtain ⟨ln, hln⟩ : ∃ ln, t'.ents.length = ln := ⟨_, rfl⟩
                      obtain ⟨kp, hkp⟩ : ∃ kp, t'.kept = kp := ⟨_, rfl⟩
                      have hroom := HT.out.tab.room
                      have hmost := HT.out.most
                      rw [hmost, hln, hkp] at hroom
                      have hfe : fr + ln + kp = N := by unfold TD.free at hfr; omega
                      refine (HT.out.room hfr).mono ?_
                      rintro en1 wt1 ⟨rfl, hT1⟩
                      have HT1 := Lib.hid hT1
                      clear hT1 HT
                      have r2 := tabLen_in HT1.out.tab
                      rw [HT1.out.tb, hln] at r2
                      have HR2 := Lib.hid r2
                      have r3 := tabKept_in HT1.out.tab
                      rw [HT1.out.tb, hkp] at r3
                      have HR3 := Lib.hid r3
                      have HR4 := Lib.hid (HT1.out.room hfr)
                      have HQ := Lib.hid (And.intro hfr (And.intro hln hkp))
                      have e5 : ((fr : Int) + (ln : Int) + (kp : Int) != (N : Int)) = false := by
                        have : (fr : Int) + (ln : Int) + (kp : Int) = (N : Int) := by omega
                        rw [this]; simp
                      clear r2 r3 hfr hln hkp hmost
                      go_wp2_with fail
                      refine HR2.out.mono ?_
                      rintro en2 wt2 ⟨rfl, rfl⟩
                      go_wp2_with fail
                      refine HR3.out.mono ?_
                      rintro en3 wt3 ⟨rfl, rfl⟩
                      go_wp2_with fail
                      refine HR4.out.mono ?_
                      rintro en4 wt4 ⟨rfl, hT2⟩
                      have HT2 := Lib.hid hT2
                      clear hT2
                      have r5 := tabKept_in HT2.out.tab
                      rw [HT2.out.tb, HQ.out.2.2] at r5
                      have r6 := tabEnts_in HT2.out.tab
                      rw [HT2.out.tb] at r6
                      clear HR2 HR3 HR4 HT1 e5
                      have HR5 := Lib.hid r5
                      have HR6 := Lib.hid r6
                      clear r5 r6
                      go_wp2_with fail
                      refine HR5.out.mono ?_
                      rintro en5 wt5 ⟨rfl, rfl⟩
                      go_wp2_with fail
                      refine HR6.out.mono ?_
                      rintro en6 wt6 ⟨va6, vc6, rfl, _, hb6⟩
                      have HT3 := Lib.hid (HT2.out.below hb6)
                      rw [HQ.out.2.1]
                      have r7 := tabLen_in HT3.out.tab
                      rw [HT3.out.tb, HQ.out.2.1] at r7
                      have HR7 := Lib.hid r7
                      clear r7 hb6 HR5 HR6 HT2
                      go_wp2_with fail
                      refine HR7.out.mono ?_
                      rintro en7 wt7 ⟨rfl, rfl⟩
                      have e6 : ((ln : Int) != (ln : Int)) = false := by simp
                      clear HR7 HQ
                      go_wp2_with fail
                      go_roundw
                      case rel => exact ⟨k + 1, t', by omega, by go_num, HT3.out⟩
                      case measure => simp [intOf]; omega
                    · rw [if_neg hF0, if_neg hF0] at hkp
                      have HKP := Lib.hid hkp
                      have e4 : 0 < F := by omega
                      have e5 : (0 : Int) < (F : Int) := by omega
                      clear hkp hF0
                      go_wp2_with fail
                      refine HKP.out.mono ?_
                      rintro en w5 ⟨rfl, ht5, hout5⟩
                      obtain ⟨t', HT⟩ : ∃ t', Hid (RoomS w TB N t' w5) := ⟨_, Lib.hid (HS4.out.next hout5 ht5 HS4.out.tb.symm rfl)⟩
                      clear ht5 hout5 HKP HS4 y0 y1 y2 y3 HF
                      go_wp2_with fail
                      obtain ⟨fr, hfr⟩ : ∃ fr, t'.free = fr := ⟨_, rfl⟩
                      obtain ⟨ln, hln⟩ : ∃ ln, t'.ents.length = ln := ⟨_, rfl⟩
                      obtain ⟨kp, hkp⟩ : ∃ kp, t'.kept = kp := ⟨_, rfl⟩
                      have hroom := HT.out.tab.room
                      have hmost := HT.out.most
                      rw [hmost, hln, hkp] at hroom
                      have hfe : fr + ln + kp = N := by unfold TD.free at hfr; omega
                      refine (HT.out.room hfr).mono ?_
                      rintro en1 wt1 ⟨rfl, hT1⟩
                      have HT1 := Lib.hid hT1
                      clear hT1 HT
                      have r2 := tabLen_in HT1.out.tab
                      rw [HT1.out.tb, hln] at r2
                      have HR2 := Lib.hid r2
                      have r3 := tabKept_in HT1.out.tab
                      rw [HT1.out.tb, hkp] at r3
                      have HR3 := Lib.hid r3
                      have HR4 := Lib.hid (HT1.out.room hfr)
                      have HQ := Lib.hid (And.intro hfr (And.intro hln hkp))
                      have e5 : ((fr : Int) + (ln : Int) + (kp : Int) != (N : Int)) = false := by
                        have : (fr : Int) + (ln : Int) + (kp : Int) = (N : Int) := by omega
                        rw [this]; simp
                      clear r2 r3 hfr hln hkp hmost
                      go_wp2_with fail
                      refine HR2.out.mono ?_
                      rintro en2 wt2 ⟨rfl, rfl⟩
                      go_wp2_with fail
                      refine HR3.out.mono ?_
                      rintro en3 wt3 ⟨rfl, rfl⟩
                      go_wp2_with fail
                      refine HR4.out.mono ?_
                      rintro en4 wt4 ⟨rfl, hT2⟩
                      have HT2 := Lib.hid hT2
                      clear hT2
                      have r5 := tabKept_in HT2.out.tab
                      rw [HT2.out.tb, HQ.out.2.2] at r5
                      have r6 := tabEnts_in HT2.out.tab
                      rw [HT2.out.tb] at r6
                      clear HR2 HR3 HR4 HT1 e5
                      have HR5 := Lib.hid r5
                      have HR6 := Lib.hid r6
                      clear r5 r6
                      go_wp2_with fail
                      refine HR5.out.mono ?_
                      rintro en5 wt5 ⟨rfl, rfl⟩
                      go_wp2_with fail
                      refine HR6.out.mono ?_
                      rintro en6 wt6 ⟨va6, vc6, rfl, _, hb6⟩
                      have HT3 := Lib.hid (HT2.out.below hb6)
                      rw [HQ.out.2.1]
                      have r7 := tabLen_in HT3.out.tab
                      rw [HT3.out.tb, HQ.out.2.1] at r7
                      have HR7 := Lib.hid r7
                      clear r7 hb6 HR5 HR6 HT2
                      go_wp2_with fail
                      refine HR7.out.mono ?_
                      rintro en7 wt7 ⟨rfl, rfl⟩
                      have e6 : ((ln : Int) != (ln : Int)) = false := by simp
                      clear HR7 HQ
                      go_wp2_with fail
                      go_roundw
                      case rel => exact ⟨k + 1, t', by omega, by go_num, HT3.out⟩
                      case measure => simp [intOf]; omega
                  · have e3 : (x.kind == 6) = false := by rw [beq_eq_false_iff_ne]; exact k6
                    by_cases k7 : x.kind = 7
                    · have e4 : (x.kind == 7) = true := by rw [beq_iff_eq]; exact k7
                      clear k3 k4 k6 k7
                      have hye := tabYield_in HS4.out.tab
                      obtain ⟨t5, ht5e, ht5m, ht5t⟩ : ∃ t5 : TD, (if t.kept = 0 then t else { t with kept := t.kept - 1 }) = t5 ∧ t5.most = t.most ∧ t5.tb = t.tb := ⟨_, rfl, by split <;> rfl, by split <;> rfl⟩
                      obtain ⟨v, hv⟩ : ∃ v : Int, (if t.kept = 0 then 6 else 0) = v := ⟨_, rfl⟩
                      rw [ht5e, hv, HS4.out.tb] at hye
                      have HYE := Lib.hid hye
                      clear hye hv
                      go_wp2_with fail
                      refine HYE.out.mono ?_
                      rintro en w5 ⟨rfl, ht5, hout5⟩
                      obtain ⟨t', HT⟩ : ∃ t', Hid (RoomS w TB N t' w5) := ⟨_, Lib.hid (HS4.out.next hout5 ht5 ht5t ht5m)⟩
                      clear ht5 hout5 HYE HS4 y0 y1 y2 y3 HF ht5e ht5m ht5t
                      go_wp2_with fail
                      obtain ⟨fr, hfr⟩ : ∃ fr, t'.free = fr := ⟨_, rfl⟩
                      obtain ⟨ln, hln⟩ : ∃ ln, t'.ents.length = ln := ⟨_, rfl⟩
                      obtain ⟨kp, hkp⟩ : ∃ kp, t'.kept = kp := ⟨_, rfl⟩
                      have hroom := HT.out.tab.room
                      have hmost := HT.out.most
                      rw [hmost, hln, hkp] at hroom
                      have hfe : fr + ln + kp = N := by unfold TD.free at hfr; omega
                      refine (HT.out.room hfr).mono ?_
                      rintro en1 wt1 ⟨rfl, hT1⟩
                      have HT1 := Lib.hid hT1
                      clear hT1 HT
                      have r2 := tabLen_in HT1.out.tab
                      rw [HT1.out.tb, hln] at r2
                      have HR2 := Lib.hid r2
                      have r3 := tabKept_in HT1.out.tab
                      rw [HT1.out.tb, hkp] at r3
                      have HR3 := Lib.hid r3
                      have HR4 := Lib.hid (HT1.out.room hfr)
                      have HQ := Lib.hid (And.intro hfr (And.intro hln hkp))
                      have e5 : ((fr : Int) + (ln : Int) + (kp : Int) != (N : Int)) = false := by
                        have : (fr : Int) + (ln : Int) + (kp : Int) = (N : Int) := by omega
                        rw [this]; simp
                      clear r2 r3 hfr hln hkp hmost
                      go_wp2_with fail
                      refine HR2.out.mono ?_
                      rintro en2 wt2 ⟨rfl, rfl⟩
                      go_wp2_with fail
                      refine HR3.out.mono ?_
                      rintro en3 wt3 ⟨rfl, rfl⟩
                      go_wp2_with fail
                      refine HR4.out.mono ?_
                      rintro en4 wt4 ⟨rfl, hT2⟩
                      have HT2 := Lib.hid hT2
                      clear hT2
                      have r5 := tabKept_in HT2.out.tab
                      rw [HT2.out.tb, HQ.out.2.2] at r5
                      have r6 := tabEnts_in HT2.out.tab
                      rw [HT2.out.tb] at r6
                      clear HR2 HR3 HR4 HT1 e5
                      have HR5 := Lib.hid r5
                      have HR6 := Lib.hid r6
                      clear r5 r6
                      go_wp2_with fail
                      refine HR5.out.mono ?_
                      rintro en5 wt5 ⟨rfl, rfl⟩
                      go_wp2_with fail
                      refine HR6.out.mono ?_
                      rintro en6 wt6 ⟨va6, vc6, rfl, _, hb6⟩
                      have HT3 := Lib.hid (HT2.out.below hb6)
                      rw [HQ.out.2.1]
                      have r7 := tabLen_in HT3.out.tab
                      rw [HT3.out.tb, HQ.out.2.1] at r7
                      have HR7 := Lib.hid r7
                      clear r7 hb6 HR5 HR6 HT2
                      go_wp2_with fail
                      refine HR7.out.mono ?_
                      rintro en7 wt7 ⟨rfl, rfl⟩
                      have e6 : ((ln : Int) != (ln : Int)) = false := by simp
                      clear HR7 HQ
                      go_wp2_with fail
                      go_roundw
                      case rel => exact ⟨k + 1, t', by omega, by go_num, HT3.out⟩
                      case measure => simp [intOf]; omega
                    · have e4 : (x.kind == 7) = false := by rw [beq_eq_false_iff_ne]; exact k7
                      clear k3 k4 k6 k7
                      obtain ⟨t', HT⟩ : ∃ t', Hid (RoomS w TB N t' w4) := ⟨_, HS4⟩
                      clear HS4 HF
                      go_wp2_with fail
                      obtain ⟨fr, hfr⟩ : ∃ fr, t'.free = fr := ⟨_, rfl⟩
                      obtain ⟨ln, hln⟩ : ∃ ln, t'.ents.length = ln := ⟨_, rfl⟩
                      obtain ⟨kp, hkp⟩ : ∃ kp, t'.kept = kp := ⟨_, rfl⟩
                      have hroom := HT.out.tab.room
                      have hmost := HT.out.most
                      rw [hmost, hln, hkp] at hroom
                      have hfe : fr + ln + kp = N := by unfold TD.free at hfr; omega
                      refine (HT.out.room hfr).mono ?_
                      rintro en1 wt1 ⟨rfl, hT1⟩
                      have HT1 := Lib.hid hT1
                      clear hT1 HT
                      have r2 := tabLen_in HT1.out.tab
                      rw [HT1.out.tb, hln] at r2
                      have HR2 := Lib.hid r2
                      have r3 := tabKept_in HT1.out.tab
                      rw [HT1.out.tb, hkp] at r3
                      have HR3 := Lib.hid r3
                      have HR4 := Lib.hid (HT1.out.room hfr)
                      have HQ := Lib.hid (And.intro hfr (And.intro hln hkp))
                      have e5 : ((fr : Int) + (ln : Int) + (kp : Int) != (N : Int)) = false := by
                        have : (fr : Int) + (ln : Int) + (kp : Int) = (N : Int) := by omega
                        rw [this]; simp
                      clear r2 r3 hfr hln hkp hmost
                      go_wp2_with fail
                      refine HR2.out.mono ?_
                      rintro en2 wt2 ⟨rfl, rfl⟩
                      go_wp2_with fail
                      refine HR3.out.mono ?_
                      rintro en3 wt3 ⟨rfl, rfl⟩
                      go_wp2_with fail
                      refine HR4.out.mono ?_
                      rintro en4 wt4 ⟨rfl, hT2⟩
                      have HT2 := Lib.hid hT2
                      clear hT2
                      have r5 := tabKept_in HT2.out.tab
                      rw [HT2.out.tb, HQ.out.2.2] at r5
                      have r6 := tabEnts_in HT2.out.tab
                      rw [HT2.out.tb] at r6
                      clear HR2 HR3 HR4 HT1 e5
                      have HR5 := Lib.hid r5
                      have HR6 := Lib.hid r6
                      clear r5 r6
                      go_wp2_with fail
                      refine HR5.out.mono ?_
                      rintro en5 wt5 ⟨rfl, rfl⟩
                      go_wp2_with fail
                      refine HR6.out.mono ?_
                      rintro en6 wt6 ⟨va6, vc6, rfl, _, hb6⟩
                      have HT3 := Lib.hid (HT2.out.below hb6)
                      rw [HQ.out.2.1]
                      have r7 := tabLen_in HT3.out.tab
                      rw [HT3.out.tb, HQ.out.2.1] at r7
                      have HR7 := Lib.hid r7
                      clear r7 hb6 HR5 HR6 HT2
                      go_wp2_with fail
                      refine HR7.out.mono ?_
                      rintro en7 wt7 ⟨rfl, rfl⟩
                      have e6 : ((ln : Int) != (ln : Int)) = false := by simp
                      clear HR7 HQ
                      go_wp2_with fail
                      go_roundw
                      case rel => exact ⟨k + 1, t', by omega, by go_num, HT3.out⟩
                      case measure => simp [intOf]; omega
          · obtain rfl : k = len2 := by omega
            have HBE := Lib.hid HST.out.bel
            go_wp2_with fail
            go_returns
            exact ⟨rfl, HBE.out⟩
  · go_wp2_with fail
    go_returns
    exact ⟨rfl, HB2.out⟩
end Go.Proofs.YtoadihebdaooaaaGreat
