/- TableMoves: the walk of the law. Printed by mkY6.py out of Y6.in. -/
import Derived.Test.YtoadihebdaooaaaGreatQ13
import Derived.Deep.DeepCutAuto
import Derived.Deep.CutBlock
namespace Go.Proofs.YtoadihebdaooaaaGreat
open Go.RowKit
open Go.Maps (Keyed int_keyed keyOf_int_mk)
set_option linter.unusedVariables false
theorem Tryz.zero70 (w : World) : (zeroValue 70).run Tryz.prog w = .ok (.slice none 0 0) w := by kernel_rfl
theorem key_ent {e : Int} (h0 : 0 ≤ e) (h1 : e ≤ 1000000) : keyOf Tryz.prog 61 (.int .u64 e) = some (.int .u64 e) := keyOf_int_mk Tryz.underlying61 (by simp [Lit.wf, IntKind.min, IntKind.max, IntKind.signed, IntKind.bits]; omega)
theorem foot_apart {B w0s : Nat} {w : World} {t : TD} (h : TabIn B w t) (hw : w.heap.size ≤ w0s) {W : World} {e : TypeId} {s : Nat} {v : Value} {n : Nat} {xs : List Value} (hr : W.ownsRow w0s e s v n xs) : ∀ x, v.ownBlock = some x → ¬ t.foot x := by
  intro x hx hf
  have h1 := (h.foot_ge hf).2
  have h2 := (hr.lt x hx).1
  omega
theorem add_len {t : TD} {e : Int} {ps : List PW} (hids : t.cps.map (·.c.id) = idsTo t.set 24) (h : addErr t e ps = 0) : ps.length = t.cps.length := by
  unfold addErr at h
  split at h
  · cases h
  · split at h
    · cases h
    · rename_i _ h1
      have h2 := congrArg List.length hids
      rw [List.length_map] at h2
      have h3 : (partsF ps).2 = 0 ∧ (partsF ps).1 = t.set := by
        constructor
        · exact Classical.byContradiction fun h => h1 (.inl h)
        · exact Classical.byContradiction fun h => h1 (.inr h)
      obtain ⟨h3, h4⟩ := h3
      unfold partsF at h3 h4
      split at h3
      · rename_i ha
        rw [if_pos ha] at h4
        split at h3
        · rename_i hb
          rw [if_pos hb] at h4
          rw [h2, ← h4]
          exact hb.symm
        · cases h3
      · cases h3
theorem TabIn.foot_not {B : Nat} {w : World} {t : TD} (h : TabIn B w t) {b : Nat} {cs : Array Value} {ty : TypeId} {fr : Nat × Nat} (hb : w.heap[b]? = some (.cells cs ty fr)) (hne : ty ≠ 139 ∧ ty ≠ 61 ∧ ty ≠ 207 ∧ ty ≠ 192 ∧ ty ≠ 5) : ¬ t.foot b := by
  obtain ⟨n1, n2, n3, n4, n5⟩ := hne
  rintro (rfl | hf | ⟨d, hd, hf⟩)
  · rw [h.blk] at hb; cases hb; exact n1 rfl
  · obtain ⟨cur, hh⟩ := row_type h.entsR hf
    rw [hh] at hb; cases hb; exact n2 rfl
  · obtain ⟨cs, ty, fr, hh, ht⟩ := (h.colsA d hd).foot_ty hf
    rw [hh] at hb; cases hb
    rcases ht with rfl | rfl | rfl
    · exact n3 rfl
    · exact n4 rfl
    · exact n5 rfl
theorem nodup_snoc {l : List Int} {x : Int} (h : l.Nodup) (hn : x ∉ l) : (l ++ [x]).Nodup := by
  rw [List.nodup_append]
  refine ⟨h, List.pairwise_singleton _ _, fun a ha b hb => ?_⟩
  have := List.mem_singleton.1 hb
  subst this
  exact fun e => hn (e ▸ ha)
theorem nodup_drop {l : List Int} {r m : Nat} {y : Int} (h : l.Nodup) (hm : l.length = m + 1) (hy : l[m]? = some y) : ((l.set r y).take m).Nodup := by
  have hpair : ∀ (i j : Nat) (z : Int), l[i]? = some z → l[j]? = some z → i = j := by
    intro i j z hi hj
    have hil := (List.getElem?_eq_some_iff.1 hi).1
    exact (List.getElem?_inj hil h).1 (hi.trans hj.symm)
  rw [List.nodup_iff_pairwise_ne, List.pairwise_iff_getElem]
  intro i j hi hj hij he
  have h1 : ((l.set r y).take m)[i]? = some (((l.set r y).take m)[i]) := List.getElem?_eq_getElem hi
  have h2 : ((l.set r y).take m)[j]? = some (((l.set r y).take m)[i]) := by rw [he]; exact List.getElem?_eq_getElem hj
  obtain ⟨k1, h1⟩ := set_take_at h1
  obtain ⟨k2, h2⟩ := set_take_at h2
  rcases h1 with ⟨h1, e1⟩ | ⟨h1, e1⟩
  · rcases h2 with ⟨h2, e2⟩ | ⟨h2, e2⟩
    · omega
    · rw [e1] at e2
      have := hpair _ _ _ hy e2
      omega
  · rcases h2 with ⟨h2, e2⟩ | ⟨h2, e2⟩
    · rw [e2] at e1
      have := hpair _ _ _ hy e1
      omega
    · have := hpair _ _ _ e1 e2
      omega
set_option maxRecDepth 100000 in
theorem values_same (xs : List WI) (a : Option Addr) (l c : Nat) (a' : Option Addr) (l' c' : Nat) (w : World) (hx : IntsAt w.heap.size w a l c xs) (hy : IntsAt w.heap.size w a' l' c' xs) :
    Calls Tryz.prog 42 #[.slice a l c, .slice a' l' c'] w fun e w' => e = .returned (.bool true) ∧ ∃ m, w' = w.drewN m := by
  have hlx := hx.1
  have hly := hy.1
  have hmx : l ≤ maxLen := Nat.le_trans hx.2.1 hx.2.2.1
  unfold maxLen at hmx
  obtain rfl : l = l' := by omega
  have HX := Lib.hid hx
  have HY := Lib.hid hy
  clear hx hy hlx hly
  go_enter Tryz.func42, Tryz.ntmps42
  go_wp2_with fail
  go_loopw [5] (fun i wr => ∃ k n : Nat, k ≤ l ∧ i = .int .i64 (k : Int) ∧ wr = w.drewN n) (fun i _ => l - (intOf i).toNat)
  case atStart => exact ⟨0, 0, by omega, rfl, rfl⟩
  case round =>
    obtain ⟨k, n, hk, rfl, hwr⟩ := hrel
    have hbr : Below w.heap.size w wr := by rw [hwr]; exact below_drewN (Below.refl _ w) n
    by_cases hlt : k < l
    · obtain ⟨b, off, x, rfl, hB, hxk, hxw, x0, x1, x2⟩ := HX.out.get hbr hlt
      obtain ⟨b', off', y, rfl, hB', hyk, hyw, y0, y1, y2⟩ := HY.out.get hbr hlt
      obtain rfl : x = y := by rw [hxk] at hyk; cases hyk; rfl
      obtain ⟨xn, xh, xl⟩ := x
      have hne := fun w => int_ne xn xn xh xh xl xl w
      rw [show (xn == xn && (xh == xh && xl == xl)) = true by simp] at hne
      have i1 : (0 : Int) ≤ (k : Int) := by omega
      have i2 : (k : Int) < (l : Int) := by omega
      have z1 : b < wr.heap.size := by have := hbr.size; omega
      have z2 : b' < wr.heap.size := by have := hbr.size; omega
      have HWR := Lib.hid hwr
      clear hxk hyk hxw hyw hwr hbr
      go_wp2_with fail
      go_quiet (fail)
      go_wp2_with fail
      go_roundw
      case rel => exact ⟨k + 1, _, by omega, by go_num, by rw [HWR.out, World.drewN_drewN]⟩
      case measure => simp only [intOf]; omega
    · obtain rfl : k = l := by omega
      go_wp2_with fail
      go_returns
      exact ⟨rfl, n, by first | rfl | exact hwr⟩
/-- What a round leaves. -/
def MvR (w0 : World) (TB mb k : Nat) (w : World) : Prop := ∃ t V F, MvS w0 TB mb t V t V F w ∧ t.ents.Nodup ∧ (∀ e ∈ t.ents, 1 ≤ e ∧ e ≤ (k : Int)) ∧ k ≤ 80
theorem MvR.of {w0 w : World} {TB mb k : Nat} {t : TD} {V : List (List (List WI))} {F : Lit → Option Value} (h : MvS w0 TB mb t V t V F w) (hn : t.ents.Nodup) (hk : ∀ e ∈ t.ents, 1 ≤ e ∧ e ≤ (k : Int)) (h8 : k + 1 ≤ 80) : MvR w0 TB mb (k + 1) w :=
  ⟨t, V, F, h, hn, fun e he => ⟨(hk e he).1, by have := (hk e he).2; omega⟩, h8⟩
set_option maxRecDepth 100000 in
set_option maxHeartbeats 8000000 in
theorem moves_walk (ver set : Int) (cs : List Cmp) (a : Option Addr) (len cap : Nat) (l : List TA) (a2 : Option Addr) (len2 cap2 : Nat) (w : World) (hcs : CompsAt w.heap.size w a len cs) (hwf : CompsWf cs) (hl : TActsAt w.heap.size w a2 len2 l) (h0 : 0 ≤ set) (h1 : set ≤ 4294967295) :
    Calls Tryz.prog 5 #[.agg #[.int .i64 ver, .slice a len cap], .int .u32 set, .slice a2 len2 cap2] w fun e w' => e = .returned (.bool true) ∧ Below w.heap.size w w' := by
  have hm2 : len2 ≤ maxLen := hl.2.1
  unfold maxLen at hm2
  have HCS := Lib.hid (And.intro hcs hwf)
  have HL := Lib.hid hl
  have hw1 := heap_alloc_new w (.cells #[.int .i64 ver, .slice a len cap] 24)
  have hb1 : Below w.heap.size w (w.alloc (.cells #[.int .i64 ver, .slice a len cap] 24)) := by go_grown
  have HW1 := Lib.hid (And.intro hw1 hb1)
  clear hcs hwf hl hw1 hb1
  go_enter Tryz.func5, Tryz.ntmps5
  go_wp2_with fail
  generalize w.alloc (.cells #[.int .i64 ver, .slice a len cap] 24) = W at *
  refine (awake16_any W).mono ?_
  rintro e w1 ⟨rfl, hb⟩
  have hk1 := keep hb HW1.out.1
  have HB1 := Lib.hid (HW1.out.2.trans (hb.mono HW1.out.2.size))
  have s0 := cell_at hk1 0
  have s1 := cell_at hk1 1
  simp at s0 s1
  have HK1 := Lib.hid hk1
  clear hk1 hb HW1
  go_wp2_with fail
  refine (great16_any ver cs _ _ _ _ ((HCS.out.1.below HB1.out).mono HB1.out.size)).mono ?_
  rintro e w2 ⟨rfl, hb⟩
  have hk2 := keep hb HK1.out
  have HB2 := Lib.hid (HB1.out.trans (hb.mono HB1.out.size))
  clear s0 s1
  have s0 := cell_at hk2 0
  have s1 := cell_at hk2 1
  simp at s0 s1
  have HK2 := Lib.hid hk2
  clear hk2 hb HB1 HK1
  cases hg : great16B cs
  · have HG := Lib.hid hg
    clear hg
    by_cases h80 : 80 < len2
    · go_wp2_with fail
      go_returns
      exact ⟨rfl, HB2.out⟩
    · go_wp2_with fail
      refine (tableNew_any ver cs _ _ _ set ((40 : Nat) : Int) _ ((HCS.out.1.below HB2.out).mono HB2.out.size) HCS.out.2 (great16_f HG.out) h0 h1).mono ?_
      intro e w3 ht
      unfold IsTable at ht
      cases hok : tableOk ver cs set ((40 : Nat) : Int) with
      | false =>
        rw [hok] at ht
        simp only [if_false, Bool.false_eq_true] at ht
        obtain ⟨rfl, hb3⟩ := ht
        have HB3 := Lib.hid (HB2.out.trans (hb3.mono HB2.out.size))
        clear hb3 hok
        go_wp2_with fail
        go_returns
        exact ⟨rfl, HB3.out⟩
      | true =>
        rw [hok] at ht
        simp only [if_true] at ht
        obtain ⟨tb, rfl, htb, hnew, hb3⟩ := ht
        obtain ⟨t, h3, rfl, _, _, ht3, _, hen, _⟩ := TabIn.of_new hnew hok h0 h1
        have hB3 := HB2.out.trans (hb3.mono HB2.out.size)
        have hmp := MapV.made w3 Tryz.prog 61
        have hb4 : Below w3.heap.size w3 (w3.alloc (.map #[] 0)) := by go_grown
        have hs : MvS w t.tb w3.heap.size t [] t [] (fun _ => none) (w3.alloc (.map #[] 0)) :=
          ⟨h3.below hb4, rfl, Vals.new hen, ⟨by rw [hen]; exact hmp, fun _ _ => rfl, fun k e r hk _ => by rw [hen] at hk; simp at hk⟩, hB3.trans (hb4.mono hB3.size), by have := HB2.out.size; omega, hB3.size⟩
        have hR : MvR w t.tb w3.heap.size 0 (w3.alloc (.map #[] 0)) := ⟨t, [], _, hs, by rw [hen]; exact List.nodup_nil, by rw [hen]; simp, by omega⟩
        obtain ⟨TB, hTB⟩ : ∃ TB, t.tb = TB := ⟨_, rfl⟩
        rw [hTB] at hR ⊢
        have HR := Lib.hid hR
        clear hs hnew hok htb hb3 h3 ht3 hTB hen hmp hR hB3 hb4 s0 s1
        have hmm := @run_makeMap Tryz.prog
        go_wp2_with fail
        clear hmm
        generalize w3.alloc (.map #[] 0) = W3 at *
        generalize w3.heap.size = mb at *
        go_loopw [9] (fun i wr => ∃ k : Nat, k ≤ len2 ∧ i = .int .i64 (k : Int) ∧ MvR w TB mb k wr) (fun i _ => len2 - (intOf i).toNat)
        case atStart => exact ⟨0, Nat.zero_le _, rfl, HR.out⟩
        case round =>
          obtain ⟨k, hk, rfl, t, V, F, hst, hnd, hfr, hk80⟩ := hrel
          have HST := Lib.hid hst
          have HND := Lib.hid hnd
          have HFR := Lib.hid hfr
          clear hst hnd hfr
          by_cases hlt : k < len2
          · obtain ⟨b, off, x, rfl, hB, hx, hp, x0, x1, x2, x3⟩ := HL.out.get HST.out.bel hlt
            have i1 : (0 : Int) ≤ (k : Int) := by omega
            have i2 : (k : Int) < (len2 : Int) := by omega
            have hz := HST.out.bel.size
            have hstA := HST.out.below ((Below.refl _ wr).alloc (Nat.le_refl _) (.cells #[.int .i64 x.kind, .int .i64 x.i, .int .u64 x.e, .slice x.pa x.pl x.pc] 72))
            have hblA := heap_alloc_new wr (.cells #[.int .i64 x.kind, .int .i64 x.i, .int .u64 x.e, .slice x.pa x.pl x.pc] 72)
            have HSA := Lib.hid hstA
            have HBA := Lib.hid hblA
            have HPP := Lib.hid (HL.out.2.2.1 x (List.mem_of_getElem? hx))
            have hpm : x.pl ≤ maxLen := by have := hp.2.1; have := hp.2.2.1; omega
            unfold maxLen at hpm
            have hpl := hp.1
            have HPL := Lib.hid hpl
            clear hx hp hstA hblA hpl
            by_cases h12 : 12 < x.pl
            · go_wp2_with fail
              go_returns
              exact ⟨rfl, HSA.out.bel⟩
            · go_wp2_with fail
              generalize wr.alloc (.cells #[.int .i64 x.kind, .int .i64 x.i, .int .u64 x.e, .slice x.pa x.pl x.pc] 72) = wA at *
              obtain ⟨PX, hPX⟩ : ∃ PX, wr.heap.size = PX := ⟨_, rfl⟩
              rw [hPX] at HBA ⊢
              clear hPX x0 x1 x2 x3 hz HST
              have hen := tabEnts_in HSA.out.tab
              rw [HSA.out.tb] at hen
              refine hen.mono ?_
              rintro e w4 ⟨va, vc, rfl, hown, hb4⟩
              have HTA := Lib.hid HSA.out.tab
              have HS4 := Lib.hid (HSA.out.below hb4)
              have hbl4 := keep hb4 HBA.out
              have HX4 := Lib.hid hbl4
              have HOWN := Lib.hid hown
              have hpx4 : PX < w4.heap.size := lt_some hbl4
              have y0 := cell_at hbl4 0
              have y1 := cell_at hbl4 1
              have y2 := cell_at hbl4 2
              have y3 := cell_at hbl4 3
              simp at y0 y1 y2 y3
              clear HSA HBA hbl4 hen hown hb4
              obtain ⟨L, hL⟩ : ∃ L, t.ents.length = L := ⟨_, rfl⟩
              rw [hL] at HOWN ⊢
              have HLn := Lib.hid hL
              have hroom := HS4.out.tab.room
              have hmost := HS4.out.tab.most2
              have hL256 : L ≤ 256 := by omega
              clear hL hroom hmost
              have k79 : k + 1 ≤ 80 := by omega
              go_upto_block 2 with (fail)
              go_cut [] (fun wx => MvR w TB mb (k + 1) wx)
              case first =>
                have HOUTP : Hid (PartsAt w4.heap.size w4 x.pa x.pl x.pc x.ps) := Lib.hid (HS4.out.parts HPP.out w4 (Out.refl _ _))
                by_cases k3 : x.kind ≤ 3
                · have e1 : decide (x.kind ≤ 3) = true := by simp; exact k3
                  clear k3
                  as_aux_lemma =>
                    obtain ⟨E, hE⟩ : ∃ E : Int, (k : Int) + 1 = E := ⟨_, rfl⟩
                    have hE0 : 0 ≤ E := by omega
                    have hE1 : E ≤ 100 := by omega
                    have HE := Lib.hid hE
                    go_wp2_with fail
                    by_cases herr : addErr t E x.ps = 0
                    · have hao := add_ok HS4.out.tab.ids herr
                      have hal := add_len HS4.out.tab.ids herr
                      have hadd := tabAdd_ok HS4.out.tab E x.ps x.pa x.pl x.pc (HS4.out.parts HPP.out) (by omega) herr
                      rw [HS4.out.tb, HLn.out] at hadd
                      have HADD := Lib.hid hadd
                      have HAO := Lib.hid hao.2
                      have HAL := Lib.hid hal
                      clear hadd hao hal herr
                      refine HADD.out.mono ?_
                      rintro en w5 ⟨rfl, ea, ec, D, ht5, hput, hout5, _⟩
                      have hv5 := Vals.add (e := E) (ea := ea) (ec := ec) HS4.out.tab HS4.out.vals (fun x' hx' => by
                        obtain ⟨p, g1, g2, _, g4, _⟩ := HAO.out x' hx'
                        exact ⟨p, g1, g4, (HOUTP.out.2.2.2.1 p g2).2.2.2.1⟩) hput
                      obtain ⟨R, hR⟩ : ∃ R, addRow x.ps t = R := ⟨_, rfl⟩
                      rw [hR] at hv5
                      obtain ⟨t5, hs5, hen5, hcp5⟩ : ∃ t5, MvS w TB mb t5 (V ++ [R]) t V F w5 ∧ t5.ents = t.ents ++ [E] ∧ t5.cps = t.cps := ⟨_, HS4.out.next hout5 ht5 rfl hv5, rfl, rfl⟩
                      have hvl := HS4.out.vals.len
                      have hRk : (V ++ [R])[L]? = some R := by rw [List.getElem?_append_right (by rw [hvl, HLn.out]; exact Nat.le_refl _), hvl, HLn.out, Nat.sub_self]; rfl
                      have hRl : (rowCv t5 R).length = x.pl := by rw [rowCv_len (hs5.vals.row R (by simp)), hcp5, ← HAL.out, HPL.out]
                      have hprt := tabParts_ok hs5.tab (V ++ [R]) hs5.vals L R hRk
                      unfold IsParts at hprt
                      rw [hRl, hs5.tb] at hprt
                      have hx5 := hout5.keep HX4.out (HS4.out.tab.foot_not HX4.out (by decide))
                      have HX5 := Lib.hid hx5
                      have HPRT := Lib.hid hprt
                      have HS5 := Lib.hid (And.intro hs5 (And.intro hen5 (And.intro hcp5 (And.intro hRl hvl))))
                      clear ht5 hput hout5 hv5 hR hs5 hen5 hcp5 hvl hRk hRl hprt hx5 HADD HAO HAL y0 y1 y2 y3
                      go_wp2_with fail
                      refine HPRT.out.mono ?_
                      rintro en w6 ⟨pa, pc, qs, rfl, hpo, hcv, hb6⟩
                      have hs6 := HS5.out.1.below hb6
                      have hx6 := keep hb6 HX5.out
                      have y3 := cell_at hx6 3
                      simp at y3
                      have hpx6 : PX < w6.heap.size := lt_some hx6
                      obtain ⟨w7, hup, hM7, hg7, hz7⟩ := hs6.have_.map.store (val := .slice pa (rowCv t5 R).length pc) Tryz.law61 Tryz.underlying79 (by have := HLn.out; unfold maxLen; omega) (key_ent hE0 (by omega))
                      have hA := hs6.have_.add HS5.out.2.2.2.2 HS5.out.2.1 HS5.out.2.2.1 (fun hm => by have := (HFR.out E hm).2; omega) hM7 hg7 (po_stored ((show PO w5.heap.size w6 pa (rowCv t5 R).length pc qs by rw [HS5.out.2.2.2.1]; exact hpo).mono (Nat.zero_le _)) hg7 hs6.have_.map.obj) hcv
                      rw [HS5.out.2.2.2.1] at hup
                      have HS7 := Lib.hid (hs6.stored hg7 hA)
                      clear hs6 hx6 hM7 hg7 hz7 hA hpo hcv hb6 HPRT HX5
                      go_wp2_with fail
                      go_meet
                      refine ⟨_, _, _, HS7.out, ?_, ?_, k79⟩
                      · rw [HS5.out.2.1]
                        exact nodup_snoc HND.out (fun hm => by have := (HFR.out E hm).2; omega)
                      · rw [HS5.out.2.1]
                        intro e he
                        rcases List.mem_append.1 he with he | he
                        · have := HFR.out e he; omega
                        · have := List.mem_singleton.1 he; omega
                    · have hadd := tabAdd_no HS4.out.tab E x.ps x.pa x.pl x.pc HOUTP.out (by omega) herr
                      rw [HS4.out.tb] at hadd
                      obtain ⟨r, hr⟩ : ∃ r, addErr t E x.ps = r := ⟨_, rfl⟩
                      rw [hr] at hadd herr
                      have HADD := Lib.hid hadd
                      have e4 : (r == 0) = false := by rw [beq_eq_false_iff_ne]; exact herr
                      clear hadd herr hr
                      refine HADD.out.mono ?_
                      rintro en w5 ⟨rfl, hb5⟩
                      have HS5 := Lib.hid (HS4.out.below hb5)
                      clear hb5 HADD
                      go_wp2_with fail
                      go_meet
                      exact MvR.of HS5.out HND.out HFR.out k79
                · have e1 : decide (x.kind ≤ 3) = false := by simp; omega
                  by_cases k4 : x.kind = 4
                  · have e2 : (x.kind == 4) = true := by rw [beq_iff_eq]; exact k4
                    have e3 : (x.kind == 5) = false := by rw [k4]; decide
                    clear k3 k4
                    as_aux_lemma =>
                      by_cases hL0 : L = 0
                      · subst hL0
                        go_wp2_with fail
                        go_meet
                        exact MvR.of HS4.out HND.out HFR.out k79
                      · obtain ⟨m, hm⟩ : ∃ m, L = m + 1 := ⟨L - 1, by omega⟩
                        obtain ⟨u, hu⟩ : ∃ u : Nat, IntKind.u64.wrap x.i = (u : Int) := ⟨(IntKind.u64.wrap x.i).toNat, by rw [IntKind.wrap_u64]; omega⟩
                        obtain ⟨r, hr⟩ : ∃ r : Nat, u % L = r := ⟨_, rfl⟩
                        have hrL : r < L := by rw [← hr]; exact Nat.mod_lt _ (by omega)
                        have htm : (u : Int).tmod (L : Int) = (r : Int) := by rw [Int.tmod_eq_emod_of_nonneg (by omega), ← hr]; rfl
                        have hwL : IntKind.u64.wrap (L : Int) = (L : Int) := by rw [IntKind.wrap_u64]; omega
                        have hd : decide (0 < (L : Int)) = true := by simp; omega
                        have hd2 : 0 < L := by omega
                        have hd3 : (0 : Int) < (L : Int) := by omega
                        have hLz : (L : Int) ≠ 0 := by omega
                        have hLz2 : ((L : Int) == 0) = false := by rw [beq_eq_false_iff_ne]; exact hLz
                        have hLm : (L : Int) - 1 = (m : Int) := by omega
                        have hlen : t.ents.length = m + 1 := by rw [HLn.out, hm]
                        obtain ⟨y, hy⟩ : ∃ y, t.ents[m]? = some y := ⟨_, List.getElem?_eq_getElem (by omega)⟩
                        obtain ⟨z, hz⟩ : ∃ z, t.ents[r]? = some z := ⟨_, List.getElem?_eq_getElem (by omega)⟩
                        obtain ⟨vl, hvl⟩ : ∃ vl, V[m]? = some vl := ⟨_, List.getElem?_eq_getElem (by have := HS4.out.vals.len; omega)⟩
                        have hdr := tabDrop_ok HS4.out.tab r m (by omega) hlen y hy
                        obtain ⟨v, hv⟩ : ∃ v : Int, (if r = m then 0 else y) = v := ⟨_, rfl⟩
                        rw [hv, HS4.out.tb] at hdr
                        have HDR := Lib.hid hdr
                        have HYZ := Lib.hid (And.intro hy (And.intro hz (And.intro hvl (And.intro hlen hm))))
                        have HV := Lib.hid hv
                        have HRL := Lib.hid hrL
                        have hr256 : r ≤ 256 := by omega
                        have i3 : (0 : Int) ≤ (r : Int) := by omega
                        have i4 : (r : Int) < (L : Int) := by omega
                        have i5 : (0 : Int) ≤ (m : Int) := by omega
                        have i6 : (m : Int) < (L : Int) := by omega
                        clear hdr hv hy hz hvl hlen hr hL0 hm hrL
                        go_wp2_with fail
                        refine HDR.out.mono ?_
                        rintro en w5 ⟨rfl, D, ht5, hdg, hout5, _⟩
                        have hv5 := Vals.drop (e := y) HS4.out.tab HS4.out.vals (by have := HRL.out; have := HYZ.out.2.2.2.2; omega) HYZ.out.2.2.2.1 HYZ.out.2.2.1 hdg
                        obtain ⟨t5, hs5, hen5, hcp5⟩ : ∃ t5, MvS w TB mb t5 ((V.set r vl).take m) t V F w5 ∧ t5.ents = (t.ents.set r y).take m ∧ t5.cps = t.cps := ⟨_, HS4.out.next hout5 ht5 rfl hv5, rfl, rfl⟩
                        have hrow := ownsRow_out HOWN.out hout5 (foot_apart HTA.out (Nat.le_refl _) HOWN.out)
                        obtain ⟨q, rfl, _, hql, hqc⟩ := row_block hrow (by have := HRL.out; omega)
                        have c1 := hqc r (.int .u64 z) (by rw [List.getElem?_map, HYZ.out.2.1]; rfl)
                        have c2 := hqc m (.int .u64 y) (by rw [List.getElem?_map, HYZ.out.1]; rfl)
                        have hzb := HFR.out z (List.mem_of_getElem? HYZ.out.2.1)
                        obtain ⟨w7, hup, hM7, hg7, hz7⟩ := hs5.have_.map.drop (key := .int .u64 z) Tryz.law61 Tryz.underlying79 (key_ent (by omega) (by omega)) 0
                        have hA := hs5.have_.drop (t' := t5) (by have := HRL.out; have := HYZ.out.2.2.2.2; omega) HYZ.out.2.2.2.1 HYZ.out.2.1 HYZ.out.1 HYZ.out.2.2.1 HND.out hen5 hcp5 hM7 hg7 (by
                          rw [Option.isSome_iff_exists]
                          exact ⟨_, List.getElem?_eq_getElem (show r < V.length by have := HS4.out.vals.len; have := HRL.out; have := HLn.out; omega)⟩)
                        have HS7 := Lib.hid (And.intro (hs5.stored hg7 hA) hen5)
                        clear ht5 hdg hout5 hv5 hs5 hen5 hcp5 hrow hqc hzb hM7 hg7 hz7 hA HDR y0 y1 y2 y3
                        have hfin : MvR w TB mb (k + 1) w7 := by
                          refine ⟨_, _, _, HS7.out.1, ?_, ?_, k79⟩
                          · rw [HS7.out.2]
                            exact nodup_drop HND.out HYZ.out.2.2.2.1 HYZ.out.1
                          · rw [HS7.out.2]
                            intro e he
                            obtain ⟨j, hj⟩ := List.getElem?_of_mem he
                            obtain ⟨_, ⟨_, rfl⟩ | ⟨_, h3⟩⟩ := set_take_at hj
                            · have := HFR.out _ (List.mem_of_getElem? HYZ.out.1); omega
                            · have := HFR.out _ (List.mem_of_getElem? h3); omega
                        have HFIN := Lib.hid hfin
                        clear hfin HS7
                        by_cases hrm : r = m
                        · as_aux_lemma =>
                            obtain rfl : v = 0 := by rw [← HV.out, if_pos hrm]
                            subst hrm
                            go_wp2_with fail
                            go_meet
                            exact HFIN.out
                        · as_aux_lemma =>
                            obtain rfl : v = y := by rw [← HV.out, if_neg hrm]
                            have hb : ((r : Int) == (m : Int)) = false := by rw [beq_eq_false_iff_ne]; omega
                            have hb2 : decide ((r : Int) < (m : Int)) = true := by simp; have := HRL.out; have := HYZ.out.2.2.2.2; omega
                            have hb3 : (r : Int) < (m : Int) := by have := HRL.out; have := HYZ.out.2.2.2.2; omega
                            go_wp2_with fail
                            go_meet
                            exact HFIN.out
                  · have e2 : (x.kind == 4) = false := by rw [beq_eq_false_iff_ne]; exact k4
                    by_cases k5 : x.kind = 5
                    · have e3 : (x.kind == 5) = true := by rw [beq_iff_eq]; exact k5
                      clear k3 k4 k5
                      as_aux_lemma =>
                        by_cases hc0 : 0 < L ∧ 0 < x.pl
                        · obtain ⟨hL0, hp0⟩ := hc0
                          obtain ⟨u, hu⟩ : ∃ u : Nat, IntKind.u64.wrap x.i = (u : Int) := ⟨(IntKind.u64.wrap x.i).toNat, by rw [IntKind.wrap_u64]; omega⟩
                          obtain ⟨r, hr⟩ : ∃ r : Nat, u % L = r := ⟨_, rfl⟩
                          have hrL : r < L := by rw [← hr]; exact Nat.mod_lt _ (by omega)
                          have htm : (u : Int).tmod (L : Int) = (r : Int) := by rw [Int.tmod_eq_emod_of_nonneg (by omega), ← hr]; rfl
                          have hwL : IntKind.u64.wrap (L : Int) = (L : Int) := by rw [IntKind.wrap_u64]; omega
                          have hd : decide (0 < (L : Int)) = true := by simp; omega
                          have hd3 : (0 : Int) < (L : Int) := by omega
                          have hdp : decide (0 < (x.pl : Int)) = true := by simp; omega
                          have hdp3 : (0 : Int) < (x.pl : Int) := by omega
                          have hLz : (L : Int) ≠ 0 := by omega
                          have hLz2 : ((L : Int) == 0) = false := by rw [beq_eq_false_iff_ne]; exact hLz
                          obtain ⟨pb, po, p, hpa, hpB, hp, hpI, p0, p1⟩ := HPP.out.get HS4.out.bel hp0
                          obtain ⟨pcomp, xa, xl, xc, xv⟩ := p
                          dsimp only at hpI p0 p1
                          simp only [Nat.zero_mul, Nat.add_zero] at p0 p1
                          rw [hpa] at y3
                          have hpB4 : pb < w4.heap.size := by have := HS4.out.bel.size; omega
                          obtain ⟨z, hz⟩ : ∃ z, t.ents[r]? = some z := ⟨_, List.getElem?_eq_getElem (by have := HLn.out; omega)⟩
                          obtain ⟨rr, hrr⟩ : ∃ rr, V[r]? = some rr := ⟨_, List.getElem?_eq_getElem (by have := HS4.out.vals.len; have := HLn.out; omega)⟩
                          have hrt : r < t.ents.length := by rw [HLn.out]; exact hrL
                          have hr256 : r ≤ 256 := by omega
                          have i3 : (0 : Int) ≤ (r : Int) := by omega
                          have i4 : (r : Int) < (L : Int) := by omega
                          have HPA := Lib.hid hpa
                          have HP := Lib.hid hp
                          have HPI := Lib.hid (hpI.mono HS4.out.bel.size)
                          have HZ := Lib.hid (And.intro hz (And.intro hrr hrt))
                          clear hpa hp hpI hz hrr hrt hr hrL hpB
                          cases hcol : colOf t.cps pcomp with
                          | none =>
                            have hfe : findErr t (r : Int) pcomp = 6 := by unfold findErr; rw [if_pos ⟨by omega, by have := HZ.out.2.2; omega⟩, hcol]; rfl
                            have hse := tabSet_no1 HS4.out.tab (r : Int) pcomp xa xl xc (by rw [hfe]; decide)
                            rw [hfe, HS4.out.tb] at hse
                            have HSE := Lib.hid hse
                            clear hse hfe hcol
                            go_wp2_with fail
                            refine HSE.out.mono ?_
                            rintro en w5 ⟨rfl, hb5⟩
                            have HS5 := Lib.hid (HS4.out.below hb5)
                            clear hb5 HSE
                            go_wp2_with fail
                            go_meet
                            exact MvR.of HS5.out HND.out HFR.out k79
                          | some x' =>
                            obtain ⟨hid', i, hi⟩ := colOf_some hcol
                            obtain ⟨d, hdd⟩ : ∃ d, t.cols[i]? = some d := ⟨_, List.getElem?_eq_getElem (by rw [HS4.out.tab.len]; exact (List.getElem?_eq_some_iff.1 hi).1)⟩
                            by_cases hfit : fitF x'.c.fields xv = 0
                            · have hse := tabSet_ok HS4.out.tab r i x' d pcomp xa xl xc xv HZ.out.2.2 hcol hi hdd HPI.out hfit
                              rw [HS4.out.tb] at hse
                              have HSE := Lib.hid hse
                              have HCI := Lib.hid (And.intro hcol (And.intro hi (And.intro hdd hfit)))
                              clear hse hcol hi hdd hfit hid'
                              go_wp2_with fail
                              refine HSE.out.mono ?_
                              rintro en w5 ⟨rfl, ht5, _, hout5⟩
                              have ho5 : Out t.foot w4 w5 := hout5.mono (fun b hb => .inl (TabIn.cfoot_foot hb))
                              have hdl : r < d.rows.length := by have := (HS4.out.tab.col i x' d HCI.out.2.1 HCI.out.2.2.1).2.2.2; have := HZ.out.2.2; omega
                              have hv5 := HS4.out.vals.put HZ.out.2.1 HCI.out.2.1 HCI.out.2.2.1 hdl HCI.out.2.2.2 HPI.out.2.2.2.1
                              obtain ⟨t5, hs5, hen5, hcp5, hco5⟩ : ∃ t5, MvS w TB mb t5 (V.set r (rr.set i xv)) t V F w5 ∧ t5.ents = t.ents ∧ t5.cps = t.cps ∧ t5.cols[i]? = some { d with rows := d.rows.set r (packF x'.c.fields xv) } := ⟨_, HS4.out.next ho5 ht5 rfl hv5, rfl, rfl, by
                                show (t.cols.set i _)[i]? = _
                                rw [List.getElem?_set, if_pos rfl, if_pos (List.getElem?_eq_some_iff.1 HCI.out.2.2.1).1]⟩
                              have hRk : (V.set r (rr.set i xv))[r]? = some (rr.set i xv) := by rw [List.getElem?_set, if_pos rfl, if_pos (List.getElem?_eq_some_iff.1 HZ.out.2.1).1]
                              obtain ⟨R, hR⟩ : ∃ R, rr.set i xv = R := ⟨_, rfl⟩
                              rw [hR] at hs5 hRk
                              have hprt := tabParts_ok hs5.tab _ hs5.vals r R hRk
                              unfold IsParts at hprt
                              obtain ⟨N, hN⟩ : ∃ N, (rowCv t5 R).length = N := ⟨_, rfl⟩
                              rw [hN, hs5.tb] at hprt
                              have hget : ∀ W', TabIn TB W' t5 → Calls Tryz.prog 41 #[.pointer (some ⟨TB, 0, none⟩), .int .i64 (r : Int), .int .i64 pcomp] W' fun e w' => ∃ va vc, e = .returned (.tuple #[.slice va xv.length vc, .int .i64 0]) ∧ w'.ownsRow W'.heap.size 148 3 (.slice va xv.length vc) xv.length (xv.flatMap intL) ∧ Below W'.heap.size W' w' := fun W' hW => by
                                rw [← hs5.tb]
                                exact tabGet_ok hW r i x' _ xv pcomp (by rw [hen5]; exact HZ.out.2.2) (by rw [hcp5]; exact HCI.out.1) (by rw [hcp5]; exact HCI.out.2.1) hco5 (by rw [List.getElem?_set, if_pos rfl, if_pos hdl]) HCI.out.2.2.2 HPI.out.2.2.2.1
                              have hx5 := ho5.keep HX4.out (HS4.out.tab.foot_not HX4.out (by decide))
                              have hrow5 := ownsRow_out HOWN.out ho5 (foot_apart HTA.out (Nat.le_refl _) HOWN.out)
                              have HX5 := Lib.hid hx5
                              have HROW := Lib.hid hrow5
                              have HPRT := Lib.hid hprt
                              have HGET := Lib.hid hget
                              have HS5 := Lib.hid (And.intro hs5 (And.intro hen5 (And.intro hcp5 hN)))
                              have HWX := Lib.hid HPI.out.2.2.2.1
                              clear ht5 hout5 ho5 hdl hv5 hs5 hen5 hcp5 hco5 hRk hR hprt hN hget hx5 hrow5 HSE y0 y1 y2 y3 p0 p1 HX4 HPI HOWN
                              go_wp2_with fail
                              refine HPRT.out.mono ?_
                              rintro en w6 ⟨pa, pc, qs, rfl, hpo, hcv, hb6⟩
                              have HS6 := Lib.hid (HS5.out.1.below hb6)
                              have HX6 := Lib.hid (keep hb6 HX5.out)
                              have HROW6 := Lib.hid (ownsRow_below HROW.out hb6)
                              have HPO := Lib.hid (And.intro hpo hcv)
                              have y3 := cell_at HX6.out 3
                              simp at y3
                              rw [HPA.out] at y3
                              have hpx6 : PX < w6.heap.size := lt_some HX6.out
                              obtain ⟨pb', po', p', hpa', hpB', hp', _, p0, p1⟩ := HPP.out.get HS6.out.bel hp0
                              rw [HPA.out] at hpa'
                              cases hpa'
                              rw [HP.out] at hp'
                              cases hp'
                              dsimp only at p0 p1
                              simp only [Nat.zero_mul, Nat.add_zero] at p0 p1
                              have hpB6 : pb < w6.heap.size := by have := HS6.out.bel.size; omega
                              clear hpo hcv hb6 HPRT HX5 HROW hpB'
                              go_wp2_with fail
                              refine (HGET.out w6 HS6.out.tab).mono ?_
                              rintro en w7 ⟨ga, gc, rfl, hgo, hb7⟩
                              have HS7 := Lib.hid (HS6.out.below hb7)
                              have HX7 := Lib.hid (keep hb7 HX6.out)
                              have HROW7 := Lib.hid (ownsRow_below HROW6.out hb7)
                              have HPO7 := Lib.hid (And.intro (HPO.out.1.below hb7) HPO.out.2)
                              have hin1 := own_ints hgo rfl HWX.out
                              clear y3 p0 p1
                              have y3 := cell_at HX7.out 3
                              simp at y3
                              rw [HPA.out] at y3
                              have hpx7 : PX < w7.heap.size := lt_some HX7.out
                              obtain ⟨pb', po', p', hpa', hpB', hp', hpI', p0, p1⟩ := HPP.out.get HS7.out.bel hp0
                              rw [HPA.out] at hpa'
                              cases hpa'
                              rw [HP.out] at hp'
                              cases hp'
                              dsimp only at p0 p1 hpI'
                              simp only [Nat.zero_mul, Nat.add_zero] at p0 p1
                              have hpB7 : pb < w7.heap.size := by have := HS7.out.bel.size; omega
                              have HVS := Lib.hid (values_same xv _ _ _ _ _ _ w7 hin1 (hpI'.mono HS7.out.bel.size))
                              clear hgo hb7 HGET HX6 HROW6 HPO hpB' hin1 hpI' HS6
                              go_wp2_with fail
                              refine HVS.out.mono ?_
                              rintro en w8 ⟨rfl, n8, rfl⟩
                              have hbd : Below w7.heap.size w7 (w7.drewN n8) := below_drewN (Below.refl _ _) n8
                              have hs8 := HS7.out.below hbd
                              have hrow8 := ownsRow_below HROW7.out hbd
                              obtain ⟨q, rfl, _, hql, hqc⟩ := row_block hrow8 (by omega)
                              have c1 := hqc r (.int .u64 z) (by rw [List.getElem?_map, HZ.out.1]; rfl)
                              have hzb := HFR.out z (List.mem_of_getElem? HZ.out.1)
                              obtain ⟨w9, hup, hM9, hg9, hz9⟩ := hs8.have_.map.store (val := .slice pa (rowCv t5 R).length pc) Tryz.law61 Tryz.underlying79 (by have := HLn.out; unfold maxLen; omega) (key_ent (e := z) (by omega) (by omega))
                              have hA := hs8.have_.put HZ.out.1 (by rw [HZ.out.2.1]; rfl) HND.out HS5.out.2.1 HS5.out.2.2.1 hM9 hg9 (po_stored (((show PO w5.heap.size w7 pa (rowCv t5 R).length pc qs by rw [HS5.out.2.2.2]; exact HPO7.out.1).below hbd).mono (Nat.zero_le _)) hg9 hs8.have_.map.obj) HPO7.out.2
                              rw [HS5.out.2.2.2] at hup
                              have HS9 := Lib.hid (hs8.stored hg9 hA)
                              clear hbd hs8 hrow8 hqc hzb hM9 hg9 hz9 hA HVS HROW7 HPO7 HX7 HS7
                              go_wp2_with fail
                              go_meet
                              exact MvR.of HS9.out (by rw [HS5.out.2.1]; exact HND.out) (by rw [HS5.out.2.1]; exact HFR.out) k79
                            · have hse := tabSet_no2 HS4.out.tab r i x' pcomp xa xl xc xv HZ.out.2.2 hcol hi HPI.out hfit
                              rw [HS4.out.tb] at hse
                              obtain ⟨q, hq⟩ : ∃ q, fitF x'.c.fields xv = q := ⟨_, rfl⟩
                              rw [hq] at hse hfit
                              have HSE := Lib.hid hse
                              have e4 : (q == 0) = false := by rw [beq_eq_false_iff_ne]; exact hfit
                              clear hse hcol hi hdd hfit hid' hq
                              go_wp2_with fail
                              refine HSE.out.mono ?_
                              rintro en w5 ⟨rfl, hb5⟩
                              have HS5 := Lib.hid (HS4.out.below hb5)
                              clear hb5 HSE
                              go_wp2_with fail
                              go_meet
                              exact MvR.of HS5.out HND.out HFR.out k79
                        · by_cases hL0 : L = 0
                          · subst hL0
                            clear hc0
                            go_wp2_with fail
                            go_meet
                            exact MvR.of HS4.out HND.out HFR.out k79
                          · have hp : x.pl = 0 := by omega
                            rw [hp] at y3
                            have hd : decide (0 < (L : Int)) = true := by simp; omega
                            have hd2 : 0 < L := by omega
                            have hd3 : (0 : Int) < (L : Int) := by omega
                            clear hc0 hL0 hp
                            go_wp2_with fail
                            go_meet
                            exact MvR.of HS4.out HND.out HFR.out k79
                    · have e3 : (x.kind == 5) = false := by rw [beq_eq_false_iff_ne]; exact k5
                      clear k3 k4 k5
                      go_wp2_with fail
                      go_meet
                      exact MvR.of HS4.out HND.out HFR.out k79
              case rest =>
                obtain ⟨t, V, F, hst, hnd, hfr, hk80⟩ := hcut
                have HST := Lib.hid hst
                have HND := Lib.hid hnd
                have HFR := Lib.hid hfr
                clear hst hnd hfr HS4 HX4 HOWN HTA y0 y1 y2 y3
                as_aux_lemma =>
                  have hen := tabEnts_in HST.out.tab
                  have hLb : t.ents.length ≤ 256 := by have := HST.out.tab.room; have := HST.out.tab.most2; omega
                  rw [HST.out.tb] at hen
                  obtain ⟨L2, hL2⟩ : ∃ L2, t.ents.length = L2 := ⟨_, rfl⟩
                  rw [hL2] at hLb
                  have HL2 := Lib.hid hL2
                  have HEN := Lib.hid hen
                  clear hen hL2
                  go_wp2_with fail
                  refine HEN.out.mono ?_
                  rintro e w5 ⟨va5, vc5, rfl, hown5, hb5⟩
                  rw [HL2.out] at hown5 ⊢
                  have hs5 := HST.out.below hb5
                  have hml := hs5.have_.map.len Tryz.underlying79 3
                  rw [HL2.out] at hml
                  have HS5 := Lib.hid hs5
                  have HOW5 := Lib.hid hown5
                  clear hs5 hown5 hb5 HST HEN
                  go_wp2_with fail
                  clear hml
                  go_loopw [25] (fun i wx => ∃ j : Nat, j ≤ L2 ∧ i = .int .i64 (j : Int) ∧ Below w5.heap.size w5 wx) (fun i _ => L2 - (intOf i).toNat)
                  case atStart => exact ⟨0, Nat.zero_le _, rfl, Below.refl _ _⟩
                  case round =>
                    obtain ⟨j, hj, rfl, hbj⟩ := hrel
                    by_cases hlt2 : j < L2
                    · have hsj := HS5.out.below hbj
                      have hrowj := ownsRow_below HOW5.out hbj
                      obtain ⟨r, hr⟩ : ∃ r, V[j]? = some r := ⟨_, List.getElem?_eq_getElem (by have := hsj.vals.len; have := HL2.out; omega)⟩
                      obtain ⟨z, hz⟩ : ∃ z, t.ents[j]? = some z := ⟨_, List.getElem?_eq_getElem (by have := HL2.out; omega)⟩
                      obtain ⟨q, rfl, _, hql, hqc⟩ := row_block hrowj (by omega)
                      have hc1 := hqc j (.int .u64 z) (by rw [List.getElem?_map, hz]; rfl)
                      have hprt := tabParts_ok hsj.tab V hsj.vals j r hr
                      unfold IsParts at hprt
                      rw [hsj.tb] at hprt
                      obtain ⟨ya, yc, ys, hF, hpoY, hcvY⟩ := hsj.have_.some_ j z r hz hr
                      have hn24 := rowCv_len (hsj.vals.row r (List.mem_of_getElem? hr))
                      have hn24' := hsj.tab.n24
                      obtain ⟨n, hn⟩ : ∃ n, (rowCv t r).length = n := ⟨_, rfl⟩
                      rw [hn] at hprt hF hpoY hn24
                      have hzb := HFR.out z (List.mem_of_getElem? hz)
                      have hnb : n ≤ 24 := by omega
                      have i3 : (0 : Int) ≤ (j : Int) := by omega
                      have i4 : (j : Int) < (L2 : Int) := by omega
                      have HPRT := Lib.hid hprt
                      have HSJ := Lib.hid hsj
                      have HFF := Lib.hid hF
                      have HPY := Lib.hid (And.intro hpoY hcvY)
                      have HC1 := Lib.hid hc1
                      have HQL := Lib.hid hql
                      have HBJ := Lib.hid hbj
                      clear hsj hrowj hr hz hqc hprt hF hpoY hcvY hn24 hn24' hn hc1 hql hbj
                      go_wp2_with fail
                      refine HPRT.out.mono ?_
                      rintro e w6 ⟨pa, pc, qs, rfl, hpo, hcv, hb6⟩
                      have hs6 := HSJ.out.below hb6
                      have hlook := hs6.have_.map.look (key := .int .u64 z) Tryz.law61 Tryz.underlying79 Tryz.zero70 (key_ent (by omega) (by omega))
                      rw [HFF.out] at hlook
                      simp only [Option.getD_some] at hlook
                      have c1 := (hb6.cell (p := ⟨q, j, none⟩) HQL.out).trans HC1.out
                      have HPO := Lib.hid (And.intro hpo hcv)
                      have HPY6 := Lib.hid (HPY.out.1.below hb6)
                      have HBJ6 := Lib.hid (HBJ.out.trans (hb6.mono HBJ.out.size))
                      clear hs6 hpo hcv hb6 HPRT HSJ HFF
                      go_wp2_with fail
                      clear hlook c1
                      go_loopw [29] (fun i wy => ∃ m : Nat, m ≤ n ∧ i = .int .i64 (m : Int) ∧ Below w6.heap.size w6 wy) (fun i _ => n - (intOf i).toNat)
                      case atStart => exact ⟨0, Nat.zero_le _, rfl, Below.refl _ _⟩
                      case round =>
                        obtain ⟨m, hm, rfl, hbm⟩ := hrel
                        by_cases hlt3 : m < n
                        · obtain ⟨pb, po, p, rfl, hpB, hp, hpI, p0, p1⟩ := HPO.out.1.at.get hbm hlt3
                          obtain ⟨yb, yo, y, rfl, hyB, hy, hyI, y0, y1⟩ := HPY6.out.at.get hbm hlt3
                          have hpe : (p.comp, p.val) = (y.comp, y.val) := by
                            have g1 : (cv qs)[m]? = some (p.comp, p.val) := by unfold cv; rw [List.getElem?_map, hp]; rfl
                            have g2 : (cv ys)[m]? = some (y.comp, y.val) := by unfold cv; rw [List.getElem?_map, hy]; rfl
                            rw [HPO.out.2] at g1
                            rw [HPY.out.2, g1] at g2
                            exact Option.some.inj g2
                          obtain ⟨pcomp, xa, xl, xc, xv⟩ := p
                          obtain ⟨ycomp, za, zl, zc, zv⟩ := y
                          dsimp only at hpI hyI p0 p1 y0 y1 hpe
                          cases hpe
                          have hvs := fun n => values_same xv xa xl xc za zl zc (wr.drewN n) ((hpI.mono hbm.size).below (below_drewN (Below.refl _ wr) n)) ((hyI.mono hbm.size).below (below_drewN (Below.refl _ wr) n))
                          have HVS := Lib.hid hvs
                          have i5 : (0 : Int) ≤ (m : Int) := by omega
                          have i6 : (m : Int) < (n : Int) := by omega
                          have z1 : pb < wr.heap.size := by have := hbm.size; omega
                          have z2 : yb < wr.heap.size := by have := hbm.size; omega
                          have HBM := Lib.hid hbm
                          clear hp hy hpI hyI hvs hbm
                          go_wp2_with fail
                          go_quiet ((go_at_call 42; exact Calls.quiet_of (HVS.out _)))
                          go_wp2_with fail
                          go_roundw
                          case rel => exact ⟨m + 1, by omega, by go_num, below_drewN HBM.out _⟩
                          case measure => simp only [intOf]; omega
                        · obtain rfl : m = n := by omega
                          go_wp2_with fail
                          go_roundw
                          case rel => exact ⟨j + 1, by omega, by go_num, HBJ6.out.trans (hbm.mono HBJ6.out.size)⟩
                          case measure => simp only [intOf]; omega
                    · obtain rfl : j = L2 := by omega
                      have HSJ := Lib.hid (HS5.out.below hbj)
                      clear hbj
                      go_wp2_with fail
                      go_roundw
                      case rel => exact ⟨k + 1, by omega, by go_num, _, _, _, HSJ.out, HND.out, HFR.out, hk80⟩
                      case measure => simp only [intOf]; omega
          · obtain rfl : k = len2 := by omega
            have HBE := Lib.hid HST.out.bel
            go_wp2_with fail
            go_returns
            exact ⟨rfl, HBE.out⟩
  · go_wp2_with fail
    go_returns
    exact ⟨rfl, HB2.out⟩
end Go.Proofs.YtoadihebdaooaaaGreat
