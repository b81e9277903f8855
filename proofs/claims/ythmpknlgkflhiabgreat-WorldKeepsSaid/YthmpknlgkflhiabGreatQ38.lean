/- A world's move. -/
import Derived.Test.YthmpknlgkflhiabGreatQ37
namespace Go.Proofs.YthmpknlgkflhiabGreat
open Go.RowKit
set_option linter.unusedVariables false
section
variable {w w' w1 : World} {d : WD} {L L' : List Int} {N n : Nat} {pa : Option Addr} {pl pc : Nat} {ps : List PW}
theorem WMid.stepped2 (h : WMid w d d.x.ix.liveL N) {i : Nat} {t : TD} (ht : d.T[i]? = some t) {c : Int} {b : Bool} (hc : (findC c d.g.cs).isSome = true) (hb : hasB t.set c = !b) {e : Ending} (hs : IsStep 0 d.gb d.g d.mb d.wmb d.ta i c b w e w') (hok : tableOk d.g.ver d.g.cs (upd t.set c b) d.g.rows = true) (hfull : ∀ j t2, posOf (upd t.set c b) d.g.sigs = some j → d.T[j]? = some t2 → t2.free ≠ 0) :
  (∃ d', d.S.openE (upd t.set c b) = 5 ∧ e = .returned (.tuple #[.int .i64 0, .int .i64 5]) ∧ WMid w' d' d.x.ix.liveL (N + 2) ∧ WFr d d' w w' ∧ SameW d d' ∧ d'.T = d.T ∧ d'.g = d.g ∧ d'.P = d.P) ∨
  (∃ j t2 d', d.S.openE (upd t.set c b) = 0 ∧ e = .returned (.tuple #[.int .i64 ((j : Nat) : Int), .int .i64 0]) ∧ WMid w' d' d.x.ix.liveL (N + 2) ∧ WFr d d' w w' ∧ SameW d d' ∧ d'.T[j]? = some t2 ∧ j ≠ i ∧ t2.set = upd t.set c b ∧ t2.free ≠ 0 ∧ d'.g.sigs = d.S.openS (upd t.set c b) ∧ (d'.P = d.P ∨ (posOf (upd t.set c b) d.g.sigs = none ∧ d'.P = d.P.snoc (upd t.set c b)))) := by
 have hbd := h.bd ht
 have hid := h.inv.ids c hc
 have hne : upd t.set c b ≠ t.set := fun e => by
  have := hasB_upd b hbd.1 hbd.2 hid
  rw [e, hb] at this
  cases b <;> cases this
 have hil := (List.getElem?_eq_some_iff.1 ht).1
 rcases h.stepped ht hc hb hs hok with ⟨j, t2, d', hp, ht2, hts, rfl, k1, k2, k3, k4, k5, k6⟩ | ⟨d', hp, hle, rfl, k1, k2, k3, k4, k5, k6⟩ | ⟨d', t2, hp, hle, rfl, k1, k2, k3, k4, k5, k6, k7, k8⟩
 ·have hop : d.S.openE (upd t.set c b) = 0 := by
   rw [(openE_some hp).1, if_neg]
   intro hle
   refine hfull j t2 hp ht2 ?_
   have hh := (WIn.full (show WIn w d N from h) ht2).2
   rw [hts] at hh
   exact hh hle
  refine .inr ⟨j, t2, d', hop, rfl, k1, k2, k3, by rw [k4]; exact ht2, fun e => ?_, hts, hfull j t2 hp ht2, by rw [k5, (openE_some hp).2], .inl k6⟩
  subst e
  rw [ht] at ht2
  cases ht2
  exact hne hts.symm
 ·exact .inl ⟨d', by rw [(openE_none hp).1, ← h.rows, hok, if_pos rfl, if_pos hle], rfl, k1, k2, k3, k4, k5, k6⟩
 ·exact .inr ⟨d.T.length, t2, d', by rw [(openE_none hp).1, ← h.rows, hok, if_pos rfl, if_neg hle], rfl, k1, k2, k3, by rw [k4]; simp, by omega, k6, k7, by rw [k5, (openE_none hp).2], .inr ⟨hp, k8⟩⟩
set_option maxRecDepth 100000 in
set_option maxHeartbeats 4000000 in
theorem wMove_full_true (h : WIn w d N) (e : Int) (he : e ∈ d.x.ix.liveL) {i r : Nat} (hpl : d.pl e = some ⟨i, some r⟩) {t : TD} (ht : d.T[i]? = some t) {c : Int} (hc : (findC c d.g.cs).isSome = true) (hb : hasB t.set c = !true) (hfold : foldS (comps ps) = upd t.set c true) {j : Nat} {t2 : TD} (hp : posOf (upd t.set c true) d.g.sigs = some j) (ht2 : d.T[j]? = some t2) (hf : t2.free = 0) : Calls Tryz.prog 49 #[.pointer (some ⟨d.wb, 0, none⟩), .int .u64 e, .int .i64 c, .bool true, .slice pa pl pc] w (IsDeed d (d.S.openE (upd t.set c true)) (d.S.movedS e (upd t.set c true) (cv ps)) (N + 2) w) := by
 obtain ⟨h0, h1⟩ := h.bd he
 obtain ⟨_, c7, c8⟩ := h.raw.cells
 have hl := h.raw.atm.look h0 h1
 rw [show atV d.pl e = plV ⟨i, some r⟩ by unfold atV; rw [hpl], show plV ⟨i, some r⟩ = .agg #[.int .i64 (i : Int), .int .i64 (r : Int)] from rfl] at hl
 have hfd := field_pl0
 have hbd := WMid.bd h ht
 have hid := h.inv.ids c hc
 have hub := upd_bd (c := c) (b := true) hbd.1 hbd.2
 have hwo := sWithout_bd (n := c) hbd.1 hbd.2
 have htab := table_any 0 d.gb d.g (i : Int) w h.raw.gr
 rw [WMid.ptr h ht] at htab
 have HTAB := Lib.hid htab
 have HSIG := Lib.hid (tabSig_in (WMid.tab h ht))
 have HWO := Lib.hid (without_any t.set c w hbd.1 hbd.2)
 have hset := upd_set hbd.1 hbd.2 hid hb
 simp only [if_true] at hset
 have hwi := with_any (sWithout t.set c) c w hwo.1 hwo.2
 rw [hset] at hwi
 obtain ⟨s', hs'⟩ : ∃ s', upd t.set c true = s' := ⟨_, rfl⟩
 rw [hs'] at hset hub
 rw [hs'] at hfold ⊢
 have hfi := gfind_any 0 d.gb d.g s' w h.raw.gr hub.1 hub.2
 rw [hs'] at hwi
 have HWI := Lib.hid hwi
 clear hwi
 rw [hs'] at hp
 rw [hp] at hfi
 have htab2 := table_any 0 d.gb d.g (j : Int) w h.raw.gr
 rw [WMid.ptr h ht2] at htab2
 have hroom := tabRoom_in (WMid.tab h ht2)
 rw [hf] at hroom
 have hts2 : t2.set = s' := by
  have := WMid.sig_at h ht2
  rw [posOf_get hp] at this
  exact (Option.some.inj this).symm
 have hop : d.S.openE s' = 5 := by
  rw [(openE_some hp).1, if_pos]
  rw [← hts2]
  exact (h.full ht2).1 hf
 have HFI := Lib.hid hfi
 have HTAB2 := Lib.hid htab2
 have HROOM := Lib.hid hroom
 have HFIN := Lib.hid (fun (W : World) (hb : Below w.heap.size w W) => show IsDeed d (d.S.openE s') (d.S.movedS e s' (cv ps)) (N + 2) w (.returned (.int .i64 5)) W from ⟨d, WMid.mono (h.below hb) (by omega), WFr.of_below hb, rfl, by rw [hop], by rw [if_neg (by rw [hop]; decide)]⟩)
 clear h he hpl ht hc hb hfold hp ht2 hf hfi htab2 hroom hop htab hset hs' hbd hub hwo hts2 hid
 go_enter Tryz.func49, Tryz.ntmps49
 go_wp2_with fail
 refine HTAB.out.mono ?_
 rintro en w1 ⟨rfl, rfl⟩
 go_wp2_with fail
 refine HSIG.out.mono ?_
 rintro en w1 ⟨rfl, rfl⟩
 go_wp2_with fail
 refine HWO.out.mono ?_
 rintro en w1 ⟨rfl, rfl⟩
 go_wp2_with fail
 refine HWI.out.mono ?_
 rintro en w1 ⟨rfl, rfl⟩
 go_wp2_with fail
 refine HFI.out.mono ?_
 rintro en w1 ⟨rfl, rfl⟩
 go_wp2_with fail
 refine HTAB2.out.mono ?_
 rintro en w1 ⟨rfl, rfl⟩
 go_wp2_with fail
 refine HROOM.out.mono ?_
 rintro en w1 ⟨rfl, nq, rfl⟩
 have HF := Lib.hid (HFIN.out _ (below_drewN (Below.refl _ _) nq))
 go_wp2_with fail
 go_returns
 exact HF.out
set_option maxRecDepth 100000 in
set_option maxHeartbeats 4000000 in
theorem wMove_full_false (h : WIn w d N) (e : Int) (he : e ∈ d.x.ix.liveL) {i r : Nat} (hpl : d.pl e = some ⟨i, some r⟩) {t : TD} (ht : d.T[i]? = some t) {c : Int} (hc : (findC c d.g.cs).isSome = true) (hb : hasB t.set c = !false) (hfold : foldS (comps ps) = upd t.set c false) {j : Nat} {t2 : TD} (hp : posOf (upd t.set c false) d.g.sigs = some j) (ht2 : d.T[j]? = some t2) (hf : t2.free = 0) : Calls Tryz.prog 49 #[.pointer (some ⟨d.wb, 0, none⟩), .int .u64 e, .int .i64 c, .bool false, .slice pa pl pc] w (IsDeed d (d.S.openE (upd t.set c false)) (d.S.movedS e (upd t.set c false) (cv ps)) (N + 2) w) := by
 obtain ⟨h0, h1⟩ := h.bd he
 obtain ⟨_, c7, c8⟩ := h.raw.cells
 have hl := h.raw.atm.look h0 h1
 rw [show atV d.pl e = plV ⟨i, some r⟩ by unfold atV; rw [hpl], show plV ⟨i, some r⟩ = .agg #[.int .i64 (i : Int), .int .i64 (r : Int)] from rfl] at hl
 have hfd := field_pl0
 have hbd := WMid.bd h ht
 have hid := h.inv.ids c hc
 have hub := upd_bd (c := c) (b := false) hbd.1 hbd.2
 have hwo := sWithout_bd (n := c) hbd.1 hbd.2
 have htab := table_any 0 d.gb d.g (i : Int) w h.raw.gr
 rw [WMid.ptr h ht] at htab
 have HTAB := Lib.hid htab
 have HSIG := Lib.hid (tabSig_in (WMid.tab h ht))
 have HWO := Lib.hid (without_any t.set c w hbd.1 hbd.2)
 have hset := upd_set hbd.1 hbd.2 hid hb
 simp only [Bool.false_eq_true, if_false] at hset
 obtain ⟨s', hs'⟩ : ∃ s', upd t.set c false = s' := ⟨_, rfl⟩
 rw [hs'] at hset hub
 rw [hs'] at hfold ⊢
 have hfi := gfind_any 0 d.gb d.g s' w h.raw.gr hub.1 hub.2
 rw [hset] at HWO
 rw [hs'] at hp
 rw [hp] at hfi
 have htab2 := table_any 0 d.gb d.g (j : Int) w h.raw.gr
 rw [WMid.ptr h ht2] at htab2
 have hroom := tabRoom_in (WMid.tab h ht2)
 rw [hf] at hroom
 have hts2 : t2.set = s' := by
  have := WMid.sig_at h ht2
  rw [posOf_get hp] at this
  exact (Option.some.inj this).symm
 have hop : d.S.openE s' = 5 := by
  rw [(openE_some hp).1, if_pos]
  rw [← hts2]
  exact (h.full ht2).1 hf
 have HFI := Lib.hid hfi
 have HTAB2 := Lib.hid htab2
 have HROOM := Lib.hid hroom
 have HFIN := Lib.hid (fun (W : World) (hb : Below w.heap.size w W) => show IsDeed d (d.S.openE s') (d.S.movedS e s' (cv ps)) (N + 2) w (.returned (.int .i64 5)) W from ⟨d, WMid.mono (h.below hb) (by omega), WFr.of_below hb, rfl, by rw [hop], by rw [if_neg (by rw [hop]; decide)]⟩)
 clear h he hpl ht hc hb hfold hp ht2 hf hfi htab2 hroom hop htab hset hs' hbd hub hwo hts2 hid
 go_enter Tryz.func49, Tryz.ntmps49
 go_wp2_with fail
 refine HTAB.out.mono ?_
 rintro en w1 ⟨rfl, rfl⟩
 go_wp2_with fail
 refine HSIG.out.mono ?_
 rintro en w1 ⟨rfl, rfl⟩
 go_wp2_with fail
 refine HWO.out.mono ?_
 rintro en w1 ⟨rfl, rfl⟩
 go_wp2_with fail
 refine HFI.out.mono ?_
 rintro en w1 ⟨rfl, rfl⟩
 go_wp2_with fail
 refine HTAB2.out.mono ?_
 rintro en w1 ⟨rfl, rfl⟩
 go_wp2_with fail
 refine HROOM.out.mono ?_
 rintro en w1 ⟨rfl, nq, rfl⟩
 have HF := Lib.hid (HFIN.out _ (below_drewN (Below.refl _ _) nq))
 go_wp2_with fail
 go_returns
 exact HF.out
set_option maxRecDepth 100000 in
set_option maxHeartbeats 8000000 in
theorem wMove_has_true (h : WIn w d N) (e : Int) (he : e ∈ d.x.ix.liveL) {i r : Nat} (hpl : d.pl e = some ⟨i, some r⟩) {t : TD} (ht : d.T[i]? = some t) {c : Int} (hc : (findC c d.g.cs).isSome = true) (hb : hasB t.set c = !true) (hN : N ≤ 999990) (hpin : PartsIn d w pa pl pc ps) (hpo : PartsOk d.g.cs ps) (hfold : foldS (comps ps) = upd t.set c true) {j0 : Nat} {t0 : TD} (hp : posOf (upd t.set c true) d.g.sigs = some j0) (ht0 : d.T[j0]? = some t0) (hf : t0.free ≠ 0) : Calls Tryz.prog 49 #[.pointer (some ⟨d.wb, 0, none⟩), .int .u64 e, .int .i64 c, .bool true, .slice pa pl pc] w (IsDeed d (d.S.openE (upd t.set c true)) (d.S.movedS e (upd t.set c true) (cv ps)) (N + 2) w) := by
 have hrows := h.rows
 have hok : tableOk d.g.ver d.g.cs (upd t.set c true) d.g.rows = true := by
  rw [← hfold, hrows]
  exact hpo.tableOk h.sch h.caps.rows.1 h.caps.rows.2
 obtain ⟨h0, h1⟩ := h.bd he
 obtain ⟨_, c7, c8⟩ := h.raw.cells
 have hl := h.raw.atm.look h0 h1
 rw [show atV d.pl e = plV ⟨i, some r⟩ by unfold atV; rw [hpl], show plV ⟨i, some r⟩ = .agg #[.int .i64 (i : Int), .int .i64 (r : Int)] from rfl] at hl
 have hfd := field_pl0
 have hbd := WMid.bd h ht
 have hid := h.inv.ids c hc
 have hub := upd_bd (c := c) (b := true) hbd.1 hbd.2
 have hwo := sWithout_bd (n := c) hbd.1 hbd.2
 have htab := table_any 0 d.gb d.g (i : Int) w h.raw.gr
 rw [WMid.ptr h ht] at htab
 have HTAB := Lib.hid htab
 have HSIG := Lib.hid (tabSig_in (WMid.tab h ht))
 have HWO := Lib.hid (without_any t.set c w hbd.1 hbd.2)
 have hset := upd_set hbd.1 hbd.2 hid hb
 simp only [if_true] at hset
 have hwi := with_any (sWithout t.set c) c w hwo.1 hwo.2
 rw [hset] at hwi
 obtain ⟨s', hs'⟩ : ∃ s', upd t.set c true = s' := ⟨_, rfl⟩
 rw [hs'] at hset hub
 rw [hs'] at hfold ⊢
 have hfi := gfind_any 0 d.gb d.g s' w h.raw.gr hub.1 hub.2
 rw [hs'] at hwi
 have HWI := Lib.hid hwi
 clear hwi
 have HS' := Lib.hid hs'
 rw [hs'] at hok
 have hi64 : I64 c := by obtain ⟨m, rfl, m1, m2⟩ := idNat hid; exact ⟨by omega, by omega⟩
 have HSTEP := Lib.hid (fun (W : World) (hb : Below w.heap.size w W) => step_any 0 d.gb d.g (i : Int) c true W (h.below hb).raw.gr ⟨by omega, by have := (List.getElem?_eq_some_iff.1 ht).1; have := h.tlen; have := h.raw.gr; obtain ⟨_, _, _, _, _, hh⟩ := this; have := hh.wf; omega⟩ hi64 (by have := h.nw; omega))
 rw [hs'] at hp
 rw [hp] at hfi
 have htab0 := table_any 0 d.gb d.g (j0 : Int) w h.raw.gr
 rw [WMid.ptr h ht0] at htab0
 have hroom := tabRoom_in (WMid.tab h ht0)
 obtain ⟨fr, hfr⟩ : ∃ fr, t0.free = fr := ⟨_, rfl⟩
 rw [hfr] at hroom hf
 have e9 : ((fr : Int) == 0) = false := by simp; omega
 have hfull : ∀ j t2, posOf s' d.g.sigs = some j → d.T[j]? = some t2 → t2.free ≠ 0 := fun j t2 hj hjt => by
  rw [hp] at hj
  cases hj
  rw [ht0] at hjt
  cases hjt
  rw [hfr]; exact hf
 have HTAB0 := Lib.hid htab0
 have HROOM := Lib.hid hroom
 have HFI := Lib.hid hfi
 have HFULL := Lib.hid hfull
 have H := Lib.hid h
 have HT := Lib.hid ht
 have HC := Lib.hid hc
 have HBB := Lib.hid hb
 have HOK := Lib.hid hok
 have HE := Lib.hid he
 have HPL := Lib.hid hpl
 have HFOLD := Lib.hid hfold
 have HPO := Lib.hid hpo
 have HPIN := Lib.hid hpin
 have HEB := Lib.hid (h.hands e he)
 have HB0 := Lib.hid h.raw.blk
 clear h he hpl ht hc hb hfold hp hfi htab hset hs' hbd hub hwo hid hok hpo hpin hfull hrows ht0 hf htab0 hroom hfr hi64
 go_enter Tryz.func49, Tryz.ntmps49
 go_wp2_with fail
 refine HTAB.out.mono ?_
 rintro en w1 ⟨rfl, rfl⟩
 go_wp2_with fail
 refine HSIG.out.mono ?_
 rintro en w1 ⟨rfl, rfl⟩
 go_wp2_with fail
 refine HWO.out.mono ?_
 rintro en w1 ⟨rfl, rfl⟩
 go_wp2_with fail
 refine HWI.out.mono ?_
 rintro en w1 ⟨rfl, rfl⟩
 go_wp2_with fail
 refine HFI.out.mono ?_
 rintro en w1 ⟨rfl, rfl⟩
 go_wp2_with fail
 refine HTAB0.out.mono ?_
 rintro en w1 ⟨rfl, rfl⟩
 go_wp2_with fail
 refine HROOM.out.mono ?_
 rintro en w1 ⟨rfl, nq, rfl⟩
 have HBQ := Lib.hid (below_drewN (Below.refl w.heap.size w) nq)
 replace c7 : (w.drewN nq).cell? ⟨d.wb, 7, none⟩ = _ := c7
 generalize w.drewN nq = W0 at HBQ c7 ⊢
 clear hl c8
 go_wp2_with fail
 refine (HSTEP.out _ HBQ.out).mono ?_
 intro en w2 hst
 have hor := WMid.stepped2 (WMid.below H.out HBQ.out) HT.out HC.out HBB.out hst (by rw [HS'.out]; exact HOK.out) (by rw [HS'.out]; exact HFULL.out)
 rw [HS'.out] at hor
 rcases hor with ⟨d1, ho, rfl, hw1, hf1, hsm, hT, hg, hP⟩ | ⟨j, t2, d1, ho, rfl, hw1, hf1, hsm, htj, hold, hts, hfree, hsig, hPs⟩
 ·have hf01 := (WFr.of_below HBQ.out).trans hf1
  have HFIN : Hid (IsDeed d (d.S.openE s') (d.S.movedS e s' (cv ps)) (N + 2) w (.returned (.int .i64 5)) w2) := Lib.hid ⟨d1, hw1.toIn hsm, hf01, hsm.wb, by rw [ho], by
   rw [if_neg (by rw [ho]; decide)]
   unfold WD.S
   rw [hsm.x, hsm.caps, hg, hP]⟩
  clear ho hT hg hP hw1 hf1 hsm hf01 hst
  go_wp2_with fail
  go_returns
  exact HFIN.out
 ·have hf01 := (WFr.of_below HBQ.out).trans hf1
  have hin1 := hw1.toIn hsm
  have he1 : e ∈ d1.x.ix.liveL := by rw [hsm.x]; exact HE.out
  have hperm : (d.x.ix.liveL).Perm (e :: d.x.ix.liveL.erase e) := List.perm_cons_erase HE.out
  have hdr := wDrop_any hw1 e H.out.hands HE.out hperm
  rw [hsm.wb] at hdr
  have HDR := Lib.hid hdr
  have HW1 := Lib.hid hw1
  have HSM := Lib.hid hsm
  have HF01 := Lib.hid hf01
  have HO := Lib.hid ho
  have HTJ := Lib.hid htj
  have HOLD := Lib.hid hold
  have HTS := Lib.hid hts
  have HFREE := Lib.hid hfree
  have HSIGS := Lib.hid hsig
  have HPS := Lib.hid hPs
  have HPERM := Lib.hid hperm
  clear ho hw1 hf1 hsm hf01 hin1 he1 hperm hdr htj hold hts hfree hsig hPs hst
  go_wp2_with fail
  refine HDR.out.mono ?_
  rintro en w3 ⟨rfl, i', d2, ⟨p, hp1, hp2⟩, hd⟩
  have hii : i' = i := by
   rw [HSM.out.pl, HPL.out] at hp1
   cases hp1; exact hp2.symm
  subst hii
  have htj2 : d2.T[j]? = some t2 := by rw [hd.tab j HOLD.out]; exact HTJ.out
  have hm2 := hd.mid
  obtain ⟨_, c7', _⟩ := hm2.raw.cells
  rw [hd.fr.wb, HSM.out.wb] at c7'
  have htab3 := table_any 0 d2.gb d2.g (j : Int) w3 hm2.raw.gr
  rw [hm2.ptr htj2] at htab3
  obtain ⟨v, hv, hV, hpt⟩ := hm2.tabv htj2
  have htin := hm2.tab htj2
  obtain ⟨_, hlike⟩ := hm2.like htj2
  have hlike : (idsTo t2.set 24).map (findC · d.g.cs) = t2.cs.map some := by
   have hcs : d2.g.cs = d.g.cs := by rw [hd.g]; exact HSM.out.cs
   rw [← hcs]; exact hlike
  have htset : t2.set = foldS (comps ps) := HTS.out.trans HFOLD.out.symm
  have haddE := HPO.out.addErr (e := e) htset hlike (by have := HEB.out; omega) HFREE.out
  have hf03 := HF01.out.trans hd.fr
  have hpin := HPIN.out.go hf03
  have hfit := HPO.out.hfit htin htset hlike hpin.wf
  have hadd := tabAdd_deed htin hV e ps pa pl pc (fun w' ho => hpin.at_ w' (ho.mono (fun b hb => .inl (.inr (.inr (.inr (.inr ⟨t2, List.mem_of_getElem? htj2, TabIn.cfoot_foot hb⟩))))))) hpin.len haddE hfit
  have hnotin : e ∉ d.x.ix.liveL.erase e := by
   have hnd := List.nodup_cons.1 (HPERM.out.nodup H.out.ok.nd)
   exact hnd.1
  have hpl2 : d2.pl e = none := hm2.ok.noPl hnotin
  have HTAB3 := Lib.hid htab3
  have HADD := Lib.hid hadd
  have HD := Lib.hid hd
  have HF3 := Lib.hid hf03
  have HV := Lib.hid hv
  have HPT := Lib.hid hpt
  have HPL2 := Lib.hid hpl2
  have HNOT := Lib.hid hnotin
  have HTJ2 := Lib.hid htj2
  have HROW := Lib.hid (addRow_vals htin.ids ps)
  clear hp1 hp2 htj2 htab3 hv hV hpt htin hlike htset haddE hf03 hpin hfit hadd hnotin hpl2 hd HDR hm2
  go_wp2_with fail
  refine HTAB3.out.mono ?_
  rintro en w4 ⟨rfl, rfl⟩
  go_wp2_with fail
  refine HADD.out.mono ?_
  rintro en w4 ⟨rfl, t', hdd, e1, e2, e3, hV'⟩
  obtain ⟨c8', w5, hput, d4, hr4, hf4, hP4, hx4, hc4, hg4, hwb4⟩ := HD.out.mid.raw.rowAdd (by have := HD.out.mid.lbd; omega) HTJ2.out HV.out HPL2.out (Int.le_of_lt HEB.out.1) HEB.out.2 hdd e1 e2 hV'
  rw [HD.out.fr.wb, HSM.out.wb] at c8'
  have hlen : (d.x.ix.liveL.erase e).length + 1 = d.x.ix.liveL.length := by rw [HPERM.out.length_eq]; rfl
  have hPok : d4.P.Ok d.x.ix.liveL := by
   rw [hP4]
   exact PS.Ok.add HD.out.mid.ok HPT.out HNOT.out HPERM.out _
  have hwho : d4.P.who = updW d.P.who e (some ⟨t2.set, some (addRow ps t2)⟩) := by
   refine updW_fun fun y => ?_
   rw [hP4, PS.Ok.add_who HD.out.mid.ok HPT.out (e := e) (addRow ps t2) y]
   split
   ·rfl
   ·rename_i hne
    rw [HD.out.who, updW_ne hne]
    rcases HPS.out with hh | ⟨_, hh⟩
    ·rw [hh]
    ·rw [hh]; exact H.out.ok.snoc_who s' y
  have HFIN : Hid (IsDeed d (d.S.openE s') (d.S.movedS e s' (cv ps)) (N + 2) w (.returned (.int .i64 0)) w5) := Lib.hid (by
   refine ⟨d4, ?_, HF3.out.trans hf4, (hwb4.trans HD.out.fr.wb).trans HSM.out.wb, by rw [HO.out], ?_⟩
   ·have hx : d4.x = d.x := (hx4.trans HD.out.x).trans HSM.out.x
    unfold WIn
    rw [hx]
    rw [hlen] at hr4
    exact HD.out.mid.fin hr4 hPok hg4 hx4 hc4 H.out.lbd
   ·rw [if_pos HO.out]
    have ew : (some ⟨t2.set, some (addRow ps t2)⟩ : Option Who) = some ⟨s', some (rowOfC (cv ps) s')⟩ := by rw [HROW.out, valsOf_cv, HTS.out]
    show WS.mk d4.caps d4.g.ver d4.g.cs d4.x.ix d4.g.sigs d4.P.who = _
    rw [hc4, hg4, hx4, hwho, ew, HD.out.caps, HD.out.g, HD.out.x, HSM.out.caps, HSM.out.x, HSIGS.out]
    rw [HSM.out.ver, HSM.out.cs]
    rfl)
  clear hdd e1 e2 e3 hV' hr4 hf4 hP4 hx4 hc4 hg4 hwb4 hPok hwho hlen
  go_wp2_with fail
  go_returns
  exact HFIN.out
set_option maxRecDepth 100000 in
set_option maxHeartbeats 8000000 in
theorem wMove_new_true (h : WIn w d N) (e : Int) (he : e ∈ d.x.ix.liveL) {i r : Nat} (hpl : d.pl e = some ⟨i, some r⟩) {t : TD} (ht : d.T[i]? = some t) {c : Int} (hc : (findC c d.g.cs).isSome = true) (hb : hasB t.set c = !true) (hN : N ≤ 999990) (hpin : PartsIn d w pa pl pc ps) (hpo : PartsOk d.g.cs ps) (hfold : foldS (comps ps) = upd t.set c true) (hp : posOf (upd t.set c true) d.g.sigs = none) : Calls Tryz.prog 49 #[.pointer (some ⟨d.wb, 0, none⟩), .int .u64 e, .int .i64 c, .bool true, .slice pa pl pc] w (IsDeed d (d.S.openE (upd t.set c true)) (d.S.movedS e (upd t.set c true) (cv ps)) (N + 2) w) := by
 have hrows := h.rows
 have hok : tableOk d.g.ver d.g.cs (upd t.set c true) d.g.rows = true := by
  rw [← hfold, hrows]
  exact hpo.tableOk h.sch h.caps.rows.1 h.caps.rows.2
 obtain ⟨h0, h1⟩ := h.bd he
 obtain ⟨_, c7, c8⟩ := h.raw.cells
 have hl := h.raw.atm.look h0 h1
 rw [show atV d.pl e = plV ⟨i, some r⟩ by unfold atV; rw [hpl], show plV ⟨i, some r⟩ = .agg #[.int .i64 (i : Int), .int .i64 (r : Int)] from rfl] at hl
 have hfd := field_pl0
 have hbd := WMid.bd h ht
 have hid := h.inv.ids c hc
 have hub := upd_bd (c := c) (b := true) hbd.1 hbd.2
 have hwo := sWithout_bd (n := c) hbd.1 hbd.2
 have htab := table_any 0 d.gb d.g (i : Int) w h.raw.gr
 rw [WMid.ptr h ht] at htab
 have HTAB := Lib.hid htab
 have HSIG := Lib.hid (tabSig_in (WMid.tab h ht))
 have HWO := Lib.hid (without_any t.set c w hbd.1 hbd.2)
 have hset := upd_set hbd.1 hbd.2 hid hb
 simp only [if_true] at hset
 have hwi := with_any (sWithout t.set c) c w hwo.1 hwo.2
 rw [hset] at hwi
 obtain ⟨s', hs'⟩ : ∃ s', upd t.set c true = s' := ⟨_, rfl⟩
 rw [hs'] at hset hub
 rw [hs'] at hfold ⊢
 have hfi := gfind_any 0 d.gb d.g s' w h.raw.gr hub.1 hub.2
 rw [hs'] at hwi
 have HWI := Lib.hid hwi
 clear hwi
 have HS' := Lib.hid hs'
 rw [hs'] at hok
 have hi64 : I64 c := by obtain ⟨m, rfl, m1, m2⟩ := idNat hid; exact ⟨by omega, by omega⟩
 have HSTEP := Lib.hid (fun (W : World) (hb : Below w.heap.size w W) => step_any 0 d.gb d.g (i : Int) c true W (h.below hb).raw.gr ⟨by omega, by have := (List.getElem?_eq_some_iff.1 ht).1; have := h.tlen; have := h.raw.gr; obtain ⟨_, _, _, _, _, hh⟩ := this; have := hh.wf; omega⟩ hi64 (by have := h.nw; omega))
 rw [hs'] at hp
 rw [hp] at hfi
 have hfull : ∀ j t2, posOf s' d.g.sigs = some j → d.T[j]? = some t2 → t2.free ≠ 0 := fun j t2 hj hjt => by
  rw [hp] at hj
  cases hj
 have HFI := Lib.hid hfi
 have HFULL := Lib.hid hfull
 have H := Lib.hid h
 have HT := Lib.hid ht
 have HC := Lib.hid hc
 have HBB := Lib.hid hb
 have HOK := Lib.hid hok
 have HE := Lib.hid he
 have HPL := Lib.hid hpl
 have HFOLD := Lib.hid hfold
 have HPO := Lib.hid hpo
 have HPIN := Lib.hid hpin
 have HEB := Lib.hid (h.hands e he)
 have HB0 := Lib.hid h.raw.blk
 clear h he hpl ht hc hb hfold hp hfi htab hset hs' hbd hub hwo hid hok hpo hpin hfull hrows hi64
 go_enter Tryz.func49, Tryz.ntmps49
 go_wp2_with fail
 refine HTAB.out.mono ?_
 rintro en w1 ⟨rfl, rfl⟩
 go_wp2_with fail
 refine HSIG.out.mono ?_
 rintro en w1 ⟨rfl, rfl⟩
 go_wp2_with fail
 refine HWO.out.mono ?_
 rintro en w1 ⟨rfl, rfl⟩
 go_wp2_with fail
 refine HWI.out.mono ?_
 rintro en w1 ⟨rfl, rfl⟩
 go_wp2_with fail
 refine HFI.out.mono ?_
 rintro en w1 ⟨rfl, rfl⟩
 go_wp2_with fail
 refine (HSTEP.out _ (Below.refl _ _)).mono ?_
 intro en w2 hst
 have hor := WMid.stepped2 (WMid.below H.out (Below.refl _ _)) HT.out HC.out HBB.out hst (by rw [HS'.out]; exact HOK.out) (by rw [HS'.out]; exact HFULL.out)
 rw [HS'.out] at hor
 rcases hor with ⟨d1, ho, rfl, hw1, hf1, hsm, hT, hg, hP⟩ | ⟨j, t2, d1, ho, rfl, hw1, hf1, hsm, htj, hold, hts, hfree, hsig, hPs⟩
 ·have hf01 := (WFr.of_below (Below.refl _ _)).trans hf1
  have HFIN : Hid (IsDeed d (d.S.openE s') (d.S.movedS e s' (cv ps)) (N + 2) w (.returned (.int .i64 5)) w2) := Lib.hid ⟨d1, hw1.toIn hsm, hf01, hsm.wb, by rw [ho], by
   rw [if_neg (by rw [ho]; decide)]
   unfold WD.S
   rw [hsm.x, hsm.caps, hg, hP]⟩
  clear ho hT hg hP hw1 hf1 hsm hf01 hst
  go_wp2_with fail
  go_returns
  exact HFIN.out
 ·have hf01 := (WFr.of_below (Below.refl _ _)).trans hf1
  have hin1 := hw1.toIn hsm
  have he1 : e ∈ d1.x.ix.liveL := by rw [hsm.x]; exact HE.out
  have hperm : (d.x.ix.liveL).Perm (e :: d.x.ix.liveL.erase e) := List.perm_cons_erase HE.out
  have hdr := wDrop_any hw1 e H.out.hands HE.out hperm
  rw [hsm.wb] at hdr
  have HDR := Lib.hid hdr
  have HW1 := Lib.hid hw1
  have HSM := Lib.hid hsm
  have HF01 := Lib.hid hf01
  have HO := Lib.hid ho
  have HTJ := Lib.hid htj
  have HOLD := Lib.hid hold
  have HTS := Lib.hid hts
  have HFREE := Lib.hid hfree
  have HSIGS := Lib.hid hsig
  have HPS := Lib.hid hPs
  have HPERM := Lib.hid hperm
  clear ho hw1 hf1 hsm hf01 hin1 he1 hperm hdr htj hold hts hfree hsig hPs hst
  go_wp2_with fail
  refine HDR.out.mono ?_
  rintro en w3 ⟨rfl, i', d2, ⟨p, hp1, hp2⟩, hd⟩
  have hii : i' = i := by
   rw [HSM.out.pl, HPL.out] at hp1
   cases hp1; exact hp2.symm
  subst hii
  have htj2 : d2.T[j]? = some t2 := by rw [hd.tab j HOLD.out]; exact HTJ.out
  have hm2 := hd.mid
  obtain ⟨_, c7', _⟩ := hm2.raw.cells
  rw [hd.fr.wb, HSM.out.wb] at c7'
  have htab3 := table_any 0 d2.gb d2.g (j : Int) w3 hm2.raw.gr
  rw [hm2.ptr htj2] at htab3
  obtain ⟨v, hv, hV, hpt⟩ := hm2.tabv htj2
  have htin := hm2.tab htj2
  obtain ⟨_, hlike⟩ := hm2.like htj2
  have hlike : (idsTo t2.set 24).map (findC · d.g.cs) = t2.cs.map some := by
   have hcs : d2.g.cs = d.g.cs := by rw [hd.g]; exact HSM.out.cs
   rw [← hcs]; exact hlike
  have htset : t2.set = foldS (comps ps) := HTS.out.trans HFOLD.out.symm
  have haddE := HPO.out.addErr (e := e) htset hlike (by have := HEB.out; omega) HFREE.out
  have hf03 := HF01.out.trans hd.fr
  have hpin := HPIN.out.go hf03
  have hfit := HPO.out.hfit htin htset hlike hpin.wf
  have hadd := tabAdd_deed htin hV e ps pa pl pc (fun w' ho => hpin.at_ w' (ho.mono (fun b hb => .inl (.inr (.inr (.inr (.inr ⟨t2, List.mem_of_getElem? htj2, TabIn.cfoot_foot hb⟩))))))) hpin.len haddE hfit
  have hnotin : e ∉ d.x.ix.liveL.erase e := by
   have hnd := List.nodup_cons.1 (HPERM.out.nodup H.out.ok.nd)
   exact hnd.1
  have hpl2 : d2.pl e = none := hm2.ok.noPl hnotin
  have HTAB3 := Lib.hid htab3
  have HADD := Lib.hid hadd
  have HD := Lib.hid hd
  have HF3 := Lib.hid hf03
  have HV := Lib.hid hv
  have HPT := Lib.hid hpt
  have HPL2 := Lib.hid hpl2
  have HNOT := Lib.hid hnotin
  have HTJ2 := Lib.hid htj2
  have HROW := Lib.hid (addRow_vals htin.ids ps)
  clear hp1 hp2 htj2 htab3 hv hV hpt htin hlike htset haddE hf03 hpin hfit hadd hnotin hpl2 hd HDR hm2
  go_wp2_with fail
  refine HTAB3.out.mono ?_
  rintro en w4 ⟨rfl, rfl⟩
  go_wp2_with fail
  refine HADD.out.mono ?_
  rintro en w4 ⟨rfl, t', hdd, e1, e2, e3, hV'⟩
  obtain ⟨c8', w5, hput, d4, hr4, hf4, hP4, hx4, hc4, hg4, hwb4⟩ := HD.out.mid.raw.rowAdd (by have := HD.out.mid.lbd; omega) HTJ2.out HV.out HPL2.out (Int.le_of_lt HEB.out.1) HEB.out.2 hdd e1 e2 hV'
  rw [HD.out.fr.wb, HSM.out.wb] at c8'
  have hlen : (d.x.ix.liveL.erase e).length + 1 = d.x.ix.liveL.length := by rw [HPERM.out.length_eq]; rfl
  have hPok : d4.P.Ok d.x.ix.liveL := by
   rw [hP4]
   exact PS.Ok.add HD.out.mid.ok HPT.out HNOT.out HPERM.out _
  have hwho : d4.P.who = updW d.P.who e (some ⟨t2.set, some (addRow ps t2)⟩) := by
   refine updW_fun fun y => ?_
   rw [hP4, PS.Ok.add_who HD.out.mid.ok HPT.out (e := e) (addRow ps t2) y]
   split
   ·rfl
   ·rename_i hne
    rw [HD.out.who, updW_ne hne]
    rcases HPS.out with hh | ⟨_, hh⟩
    ·rw [hh]
    ·rw [hh]; exact H.out.ok.snoc_who s' y
  have HFIN : Hid (IsDeed d (d.S.openE s') (d.S.movedS e s' (cv ps)) (N + 2) w (.returned (.int .i64 0)) w5) := Lib.hid (by
   refine ⟨d4, ?_, HF3.out.trans hf4, (hwb4.trans HD.out.fr.wb).trans HSM.out.wb, by rw [HO.out], ?_⟩
   ·have hx : d4.x = d.x := (hx4.trans HD.out.x).trans HSM.out.x
    unfold WIn
    rw [hx]
    rw [hlen] at hr4
    exact HD.out.mid.fin hr4 hPok hg4 hx4 hc4 H.out.lbd
   ·rw [if_pos HO.out]
    have ew : (some ⟨t2.set, some (addRow ps t2)⟩ : Option Who) = some ⟨s', some (rowOfC (cv ps) s')⟩ := by rw [HROW.out, valsOf_cv, HTS.out]
    show WS.mk d4.caps d4.g.ver d4.g.cs d4.x.ix d4.g.sigs d4.P.who = _
    rw [hc4, hg4, hx4, hwho, ew, HD.out.caps, HD.out.g, HD.out.x, HSM.out.caps, HSM.out.x, HSIGS.out]
    rw [HSM.out.ver, HSM.out.cs]
    rfl)
  clear hdd e1 e2 e3 hV' hr4 hf4 hP4 hx4 hc4 hg4 hwb4 hPok hwho hlen
  go_wp2_with fail
  go_returns
  exact HFIN.out
set_option maxRecDepth 100000 in
set_option maxHeartbeats 8000000 in
theorem wMove_has_false (h : WIn w d N) (e : Int) (he : e ∈ d.x.ix.liveL) {i r : Nat} (hpl : d.pl e = some ⟨i, some r⟩) {t : TD} (ht : d.T[i]? = some t) {c : Int} (hc : (findC c d.g.cs).isSome = true) (hb : hasB t.set c = !false) (hN : N ≤ 999990) (hpin : PartsIn d w pa pl pc ps) (hpo : PartsOk d.g.cs ps) (hfold : foldS (comps ps) = upd t.set c false) {j0 : Nat} {t0 : TD} (hp : posOf (upd t.set c false) d.g.sigs = some j0) (ht0 : d.T[j0]? = some t0) (hf : t0.free ≠ 0) : Calls Tryz.prog 49 #[.pointer (some ⟨d.wb, 0, none⟩), .int .u64 e, .int .i64 c, .bool false, .slice pa pl pc] w (IsDeed d (d.S.openE (upd t.set c false)) (d.S.movedS e (upd t.set c false) (cv ps)) (N + 2) w) := by
 have hrows := h.rows
 have hok : tableOk d.g.ver d.g.cs (upd t.set c false) d.g.rows = true := by
  rw [← hfold, hrows]
  exact hpo.tableOk h.sch h.caps.rows.1 h.caps.rows.2
 obtain ⟨h0, h1⟩ := h.bd he
 obtain ⟨_, c7, c8⟩ := h.raw.cells
 have hl := h.raw.atm.look h0 h1
 rw [show atV d.pl e = plV ⟨i, some r⟩ by unfold atV; rw [hpl], show plV ⟨i, some r⟩ = .agg #[.int .i64 (i : Int), .int .i64 (r : Int)] from rfl] at hl
 have hfd := field_pl0
 have hbd := WMid.bd h ht
 have hid := h.inv.ids c hc
 have hub := upd_bd (c := c) (b := false) hbd.1 hbd.2
 have hwo := sWithout_bd (n := c) hbd.1 hbd.2
 have htab := table_any 0 d.gb d.g (i : Int) w h.raw.gr
 rw [WMid.ptr h ht] at htab
 have HTAB := Lib.hid htab
 have HSIG := Lib.hid (tabSig_in (WMid.tab h ht))
 have HWO := Lib.hid (without_any t.set c w hbd.1 hbd.2)
 have hset := upd_set hbd.1 hbd.2 hid hb
 simp only [Bool.false_eq_true, if_false] at hset
 obtain ⟨s', hs'⟩ : ∃ s', upd t.set c false = s' := ⟨_, rfl⟩
 rw [hs'] at hset hub
 rw [hs'] at hfold ⊢
 have hfi := gfind_any 0 d.gb d.g s' w h.raw.gr hub.1 hub.2
 rw [hset] at HWO
 have HS' := Lib.hid hs'
 rw [hs'] at hok
 have hi64 : I64 c := by obtain ⟨m, rfl, m1, m2⟩ := idNat hid; exact ⟨by omega, by omega⟩
 have HSTEP := Lib.hid (fun (W : World) (hb : Below w.heap.size w W) => step_any 0 d.gb d.g (i : Int) c false W (h.below hb).raw.gr ⟨by omega, by have := (List.getElem?_eq_some_iff.1 ht).1; have := h.tlen; have := h.raw.gr; obtain ⟨_, _, _, _, _, hh⟩ := this; have := hh.wf; omega⟩ hi64 (by have := h.nw; omega))
 rw [hs'] at hp
 rw [hp] at hfi
 have htab0 := table_any 0 d.gb d.g (j0 : Int) w h.raw.gr
 rw [WMid.ptr h ht0] at htab0
 have hroom := tabRoom_in (WMid.tab h ht0)
 obtain ⟨fr, hfr⟩ : ∃ fr, t0.free = fr := ⟨_, rfl⟩
 rw [hfr] at hroom hf
 have e9 : ((fr : Int) == 0) = false := by simp; omega
 have hfull : ∀ j t2, posOf s' d.g.sigs = some j → d.T[j]? = some t2 → t2.free ≠ 0 := fun j t2 hj hjt => by
  rw [hp] at hj
  cases hj
  rw [ht0] at hjt
  cases hjt
  rw [hfr]; exact hf
 have HTAB0 := Lib.hid htab0
 have HROOM := Lib.hid hroom
 have HFI := Lib.hid hfi
 have HFULL := Lib.hid hfull
 have H := Lib.hid h
 have HT := Lib.hid ht
 have HC := Lib.hid hc
 have HBB := Lib.hid hb
 have HOK := Lib.hid hok
 have HE := Lib.hid he
 have HPL := Lib.hid hpl
 have HFOLD := Lib.hid hfold
 have HPO := Lib.hid hpo
 have HPIN := Lib.hid hpin
 have HEB := Lib.hid (h.hands e he)
 have HB0 := Lib.hid h.raw.blk
 clear h he hpl ht hc hb hfold hp hfi htab hset hs' hbd hub hwo hid hok hpo hpin hfull hrows ht0 hf htab0 hroom hfr hi64
 go_enter Tryz.func49, Tryz.ntmps49
 go_wp2_with fail
 refine HTAB.out.mono ?_
 rintro en w1 ⟨rfl, rfl⟩
 go_wp2_with fail
 refine HSIG.out.mono ?_
 rintro en w1 ⟨rfl, rfl⟩
 go_wp2_with fail
 refine HWO.out.mono ?_
 rintro en w1 ⟨rfl, rfl⟩
 go_wp2_with fail
 refine HFI.out.mono ?_
 rintro en w1 ⟨rfl, rfl⟩
 go_wp2_with fail
 refine HTAB0.out.mono ?_
 rintro en w1 ⟨rfl, rfl⟩
 go_wp2_with fail
 refine HROOM.out.mono ?_
 rintro en w1 ⟨rfl, nq, rfl⟩
 have HBQ := Lib.hid (below_drewN (Below.refl w.heap.size w) nq)
 replace c7 : (w.drewN nq).cell? ⟨d.wb, 7, none⟩ = _ := c7
 generalize w.drewN nq = W0 at HBQ c7 ⊢
 clear hl c8
 go_wp2_with fail
 refine (HSTEP.out _ HBQ.out).mono ?_
 intro en w2 hst
 have hor := WMid.stepped2 (WMid.below H.out HBQ.out) HT.out HC.out HBB.out hst (by rw [HS'.out]; exact HOK.out) (by rw [HS'.out]; exact HFULL.out)
 rw [HS'.out] at hor
 rcases hor with ⟨d1, ho, rfl, hw1, hf1, hsm, hT, hg, hP⟩ | ⟨j, t2, d1, ho, rfl, hw1, hf1, hsm, htj, hold, hts, hfree, hsig, hPs⟩
 ·have hf01 := (WFr.of_below HBQ.out).trans hf1
  have HFIN : Hid (IsDeed d (d.S.openE s') (d.S.movedS e s' (cv ps)) (N + 2) w (.returned (.int .i64 5)) w2) := Lib.hid ⟨d1, hw1.toIn hsm, hf01, hsm.wb, by rw [ho], by
   rw [if_neg (by rw [ho]; decide)]
   unfold WD.S
   rw [hsm.x, hsm.caps, hg, hP]⟩
  clear ho hT hg hP hw1 hf1 hsm hf01 hst
  go_wp2_with fail
  go_returns
  exact HFIN.out
 ·have hf01 := (WFr.of_below HBQ.out).trans hf1
  have hin1 := hw1.toIn hsm
  have he1 : e ∈ d1.x.ix.liveL := by rw [hsm.x]; exact HE.out
  have hperm : (d.x.ix.liveL).Perm (e :: d.x.ix.liveL.erase e) := List.perm_cons_erase HE.out
  have hdr := wDrop_any hw1 e H.out.hands HE.out hperm
  rw [hsm.wb] at hdr
  have HDR := Lib.hid hdr
  have HW1 := Lib.hid hw1
  have HSM := Lib.hid hsm
  have HF01 := Lib.hid hf01
  have HO := Lib.hid ho
  have HTJ := Lib.hid htj
  have HOLD := Lib.hid hold
  have HTS := Lib.hid hts
  have HFREE := Lib.hid hfree
  have HSIGS := Lib.hid hsig
  have HPS := Lib.hid hPs
  have HPERM := Lib.hid hperm
  clear ho hw1 hf1 hsm hf01 hin1 he1 hperm hdr htj hold hts hfree hsig hPs hst
  go_wp2_with fail
  refine HDR.out.mono ?_
  rintro en w3 ⟨rfl, i', d2, ⟨p, hp1, hp2⟩, hd⟩
  have hii : i' = i := by
   rw [HSM.out.pl, HPL.out] at hp1
   cases hp1; exact hp2.symm
  subst hii
  have htj2 : d2.T[j]? = some t2 := by rw [hd.tab j HOLD.out]; exact HTJ.out
  have hm2 := hd.mid
  obtain ⟨_, c7', _⟩ := hm2.raw.cells
  rw [hd.fr.wb, HSM.out.wb] at c7'
  have htab3 := table_any 0 d2.gb d2.g (j : Int) w3 hm2.raw.gr
  rw [hm2.ptr htj2] at htab3
  obtain ⟨v, hv, hV, hpt⟩ := hm2.tabv htj2
  have htin := hm2.tab htj2
  obtain ⟨_, hlike⟩ := hm2.like htj2
  have hlike : (idsTo t2.set 24).map (findC · d.g.cs) = t2.cs.map some := by
   have hcs : d2.g.cs = d.g.cs := by rw [hd.g]; exact HSM.out.cs
   rw [← hcs]; exact hlike
  have htset : t2.set = foldS (comps ps) := HTS.out.trans HFOLD.out.symm
  have haddE := HPO.out.addErr (e := e) htset hlike (by have := HEB.out; omega) HFREE.out
  have hf03 := HF01.out.trans hd.fr
  have hpin := HPIN.out.go hf03
  have hfit := HPO.out.hfit htin htset hlike hpin.wf
  have hadd := tabAdd_deed htin hV e ps pa pl pc (fun w' ho => hpin.at_ w' (ho.mono (fun b hb => .inl (.inr (.inr (.inr (.inr ⟨t2, List.mem_of_getElem? htj2, TabIn.cfoot_foot hb⟩))))))) hpin.len haddE hfit
  have hnotin : e ∉ d.x.ix.liveL.erase e := by
   have hnd := List.nodup_cons.1 (HPERM.out.nodup H.out.ok.nd)
   exact hnd.1
  have hpl2 : d2.pl e = none := hm2.ok.noPl hnotin
  have HTAB3 := Lib.hid htab3
  have HADD := Lib.hid hadd
  have HD := Lib.hid hd
  have HF3 := Lib.hid hf03
  have HV := Lib.hid hv
  have HPT := Lib.hid hpt
  have HPL2 := Lib.hid hpl2
  have HNOT := Lib.hid hnotin
  have HTJ2 := Lib.hid htj2
  have HROW := Lib.hid (addRow_vals htin.ids ps)
  clear hp1 hp2 htj2 htab3 hv hV hpt htin hlike htset haddE hf03 hpin hfit hadd hnotin hpl2 hd HDR hm2
  go_wp2_with fail
  refine HTAB3.out.mono ?_
  rintro en w4 ⟨rfl, rfl⟩
  go_wp2_with fail
  refine HADD.out.mono ?_
  rintro en w4 ⟨rfl, t', hdd, e1, e2, e3, hV'⟩
  obtain ⟨c8', w5, hput, d4, hr4, hf4, hP4, hx4, hc4, hg4, hwb4⟩ := HD.out.mid.raw.rowAdd (by have := HD.out.mid.lbd; omega) HTJ2.out HV.out HPL2.out (Int.le_of_lt HEB.out.1) HEB.out.2 hdd e1 e2 hV'
  rw [HD.out.fr.wb, HSM.out.wb] at c8'
  have hlen : (d.x.ix.liveL.erase e).length + 1 = d.x.ix.liveL.length := by rw [HPERM.out.length_eq]; rfl
  have hPok : d4.P.Ok d.x.ix.liveL := by
   rw [hP4]
   exact PS.Ok.add HD.out.mid.ok HPT.out HNOT.out HPERM.out _
  have hwho : d4.P.who = updW d.P.who e (some ⟨t2.set, some (addRow ps t2)⟩) := by
   refine updW_fun fun y => ?_
   rw [hP4, PS.Ok.add_who HD.out.mid.ok HPT.out (e := e) (addRow ps t2) y]
   split
   ·rfl
   ·rename_i hne
    rw [HD.out.who, updW_ne hne]
    rcases HPS.out with hh | ⟨_, hh⟩
    ·rw [hh]
    ·rw [hh]; exact H.out.ok.snoc_who s' y
  have HFIN : Hid (IsDeed d (d.S.openE s') (d.S.movedS e s' (cv ps)) (N + 2) w (.returned (.int .i64 0)) w5) := Lib.hid (by
   refine ⟨d4, ?_, HF3.out.trans hf4, (hwb4.trans HD.out.fr.wb).trans HSM.out.wb, by rw [HO.out], ?_⟩
   ·have hx : d4.x = d.x := (hx4.trans HD.out.x).trans HSM.out.x
    unfold WIn
    rw [hx]
    rw [hlen] at hr4
    exact HD.out.mid.fin hr4 hPok hg4 hx4 hc4 H.out.lbd
   ·rw [if_pos HO.out]
    have ew : (some ⟨t2.set, some (addRow ps t2)⟩ : Option Who) = some ⟨s', some (rowOfC (cv ps) s')⟩ := by rw [HROW.out, valsOf_cv, HTS.out]
    show WS.mk d4.caps d4.g.ver d4.g.cs d4.x.ix d4.g.sigs d4.P.who = _
    rw [hc4, hg4, hx4, hwho, ew, HD.out.caps, HD.out.g, HD.out.x, HSM.out.caps, HSM.out.x, HSIGS.out]
    rw [HSM.out.ver, HSM.out.cs]
    rfl)
  clear hdd e1 e2 e3 hV' hr4 hf4 hP4 hx4 hc4 hg4 hwb4 hPok hwho hlen
  go_wp2_with fail
  go_returns
  exact HFIN.out
set_option maxRecDepth 100000 in
set_option maxHeartbeats 8000000 in
theorem wMove_new_false (h : WIn w d N) (e : Int) (he : e ∈ d.x.ix.liveL) {i r : Nat} (hpl : d.pl e = some ⟨i, some r⟩) {t : TD} (ht : d.T[i]? = some t) {c : Int} (hc : (findC c d.g.cs).isSome = true) (hb : hasB t.set c = !false) (hN : N ≤ 999990) (hpin : PartsIn d w pa pl pc ps) (hpo : PartsOk d.g.cs ps) (hfold : foldS (comps ps) = upd t.set c false) (hp : posOf (upd t.set c false) d.g.sigs = none) : Calls Tryz.prog 49 #[.pointer (some ⟨d.wb, 0, none⟩), .int .u64 e, .int .i64 c, .bool false, .slice pa pl pc] w (IsDeed d (d.S.openE (upd t.set c false)) (d.S.movedS e (upd t.set c false) (cv ps)) (N + 2) w) := by
 have hrows := h.rows
 have hok : tableOk d.g.ver d.g.cs (upd t.set c false) d.g.rows = true := by
  rw [← hfold, hrows]
  exact hpo.tableOk h.sch h.caps.rows.1 h.caps.rows.2
 obtain ⟨h0, h1⟩ := h.bd he
 obtain ⟨_, c7, c8⟩ := h.raw.cells
 have hl := h.raw.atm.look h0 h1
 rw [show atV d.pl e = plV ⟨i, some r⟩ by unfold atV; rw [hpl], show plV ⟨i, some r⟩ = .agg #[.int .i64 (i : Int), .int .i64 (r : Int)] from rfl] at hl
 have hfd := field_pl0
 have hbd := WMid.bd h ht
 have hid := h.inv.ids c hc
 have hub := upd_bd (c := c) (b := false) hbd.1 hbd.2
 have hwo := sWithout_bd (n := c) hbd.1 hbd.2
 have htab := table_any 0 d.gb d.g (i : Int) w h.raw.gr
 rw [WMid.ptr h ht] at htab
 have HTAB := Lib.hid htab
 have HSIG := Lib.hid (tabSig_in (WMid.tab h ht))
 have HWO := Lib.hid (without_any t.set c w hbd.1 hbd.2)
 have hset := upd_set hbd.1 hbd.2 hid hb
 simp only [Bool.false_eq_true, if_false] at hset
 obtain ⟨s', hs'⟩ : ∃ s', upd t.set c false = s' := ⟨_, rfl⟩
 rw [hs'] at hset hub
 rw [hs'] at hfold ⊢
 have hfi := gfind_any 0 d.gb d.g s' w h.raw.gr hub.1 hub.2
 rw [hset] at HWO
 have HS' := Lib.hid hs'
 rw [hs'] at hok
 have hi64 : I64 c := by obtain ⟨m, rfl, m1, m2⟩ := idNat hid; exact ⟨by omega, by omega⟩
 have HSTEP := Lib.hid (fun (W : World) (hb : Below w.heap.size w W) => step_any 0 d.gb d.g (i : Int) c false W (h.below hb).raw.gr ⟨by omega, by have := (List.getElem?_eq_some_iff.1 ht).1; have := h.tlen; have := h.raw.gr; obtain ⟨_, _, _, _, _, hh⟩ := this; have := hh.wf; omega⟩ hi64 (by have := h.nw; omega))
 rw [hs'] at hp
 rw [hp] at hfi
 have hfull : ∀ j t2, posOf s' d.g.sigs = some j → d.T[j]? = some t2 → t2.free ≠ 0 := fun j t2 hj hjt => by
  rw [hp] at hj
  cases hj
 have HFI := Lib.hid hfi
 have HFULL := Lib.hid hfull
 have H := Lib.hid h
 have HT := Lib.hid ht
 have HC := Lib.hid hc
 have HBB := Lib.hid hb
 have HOK := Lib.hid hok
 have HE := Lib.hid he
 have HPL := Lib.hid hpl
 have HFOLD := Lib.hid hfold
 have HPO := Lib.hid hpo
 have HPIN := Lib.hid hpin
 have HEB := Lib.hid (h.hands e he)
 have HB0 := Lib.hid h.raw.blk
 clear h he hpl ht hc hb hfold hp hfi htab hset hs' hbd hub hwo hid hok hpo hpin hfull hrows hi64
 go_enter Tryz.func49, Tryz.ntmps49
 go_wp2_with fail
 refine HTAB.out.mono ?_
 rintro en w1 ⟨rfl, rfl⟩
 go_wp2_with fail
 refine HSIG.out.mono ?_
 rintro en w1 ⟨rfl, rfl⟩
 go_wp2_with fail
 refine HWO.out.mono ?_
 rintro en w1 ⟨rfl, rfl⟩
 go_wp2_with fail
 refine HFI.out.mono ?_
 rintro en w1 ⟨rfl, rfl⟩
 go_wp2_with fail
 refine (HSTEP.out _ (Below.refl _ _)).mono ?_
 intro en w2 hst
 have hor := WMid.stepped2 (WMid.below H.out (Below.refl _ _)) HT.out HC.out HBB.out hst (by rw [HS'.out]; exact HOK.out) (by rw [HS'.out]; exact HFULL.out)
 rw [HS'.out] at hor
 rcases hor with ⟨d1, ho, rfl, hw1, hf1, hsm, hT, hg, hP⟩ | ⟨j, t2, d1, ho, rfl, hw1, hf1, hsm, htj, hold, hts, hfree, hsig, hPs⟩
 ·have hf01 := (WFr.of_below (Below.refl _ _)).trans hf1
  have HFIN : Hid (IsDeed d (d.S.openE s') (d.S.movedS e s' (cv ps)) (N + 2) w (.returned (.int .i64 5)) w2) := Lib.hid ⟨d1, hw1.toIn hsm, hf01, hsm.wb, by rw [ho], by
   rw [if_neg (by rw [ho]; decide)]
   unfold WD.S
   rw [hsm.x, hsm.caps, hg, hP]⟩
  clear ho hT hg hP hw1 hf1 hsm hf01 hst
  go_wp2_with fail
  go_returns
  exact HFIN.out
 ·have hf01 := (WFr.of_below (Below.refl _ _)).trans hf1
  have hin1 := hw1.toIn hsm
  have he1 : e ∈ d1.x.ix.liveL := by rw [hsm.x]; exact HE.out
  have hperm : (d.x.ix.liveL).Perm (e :: d.x.ix.liveL.erase e) := List.perm_cons_erase HE.out
  have hdr := wDrop_any hw1 e H.out.hands HE.out hperm
  rw [hsm.wb] at hdr
  have HDR := Lib.hid hdr
  have HW1 := Lib.hid hw1
  have HSM := Lib.hid hsm
  have HF01 := Lib.hid hf01
  have HO := Lib.hid ho
  have HTJ := Lib.hid htj
  have HOLD := Lib.hid hold
  have HTS := Lib.hid hts
  have HFREE := Lib.hid hfree
  have HSIGS := Lib.hid hsig
  have HPS := Lib.hid hPs
  have HPERM := Lib.hid hperm
  clear ho hw1 hf1 hsm hf01 hin1 he1 hperm hdr htj hold hts hfree hsig hPs hst
  go_wp2_with fail
  refine HDR.out.mono ?_
  rintro en w3 ⟨rfl, i', d2, ⟨p, hp1, hp2⟩, hd⟩
  have hii : i' = i := by
   rw [HSM.out.pl, HPL.out] at hp1
   cases hp1; exact hp2.symm
  subst hii
  have htj2 : d2.T[j]? = some t2 := by rw [hd.tab j HOLD.out]; exact HTJ.out
  have hm2 := hd.mid
  obtain ⟨_, c7', _⟩ := hm2.raw.cells
  rw [hd.fr.wb, HSM.out.wb] at c7'
  have htab3 := table_any 0 d2.gb d2.g (j : Int) w3 hm2.raw.gr
  rw [hm2.ptr htj2] at htab3
  obtain ⟨v, hv, hV, hpt⟩ := hm2.tabv htj2
  have htin := hm2.tab htj2
  obtain ⟨_, hlike⟩ := hm2.like htj2
  have hlike : (idsTo t2.set 24).map (findC · d.g.cs) = t2.cs.map some := by
   have hcs : d2.g.cs = d.g.cs := by rw [hd.g]; exact HSM.out.cs
   rw [← hcs]; exact hlike
  have htset : t2.set = foldS (comps ps) := HTS.out.trans HFOLD.out.symm
  have haddE := HPO.out.addErr (e := e) htset hlike (by have := HEB.out; omega) HFREE.out
  have hf03 := HF01.out.trans hd.fr
  have hpin := HPIN.out.go hf03
  have hfit := HPO.out.hfit htin htset hlike hpin.wf
  have hadd := tabAdd_deed htin hV e ps pa pl pc (fun w' ho => hpin.at_ w' (ho.mono (fun b hb => .inl (.inr (.inr (.inr (.inr ⟨t2, List.mem_of_getElem? htj2, TabIn.cfoot_foot hb⟩))))))) hpin.len haddE hfit
  have hnotin : e ∉ d.x.ix.liveL.erase e := by
   have hnd := List.nodup_cons.1 (HPERM.out.nodup H.out.ok.nd)
   exact hnd.1
  have hpl2 : d2.pl e = none := hm2.ok.noPl hnotin
  have HTAB3 := Lib.hid htab3
  have HADD := Lib.hid hadd
  have HD := Lib.hid hd
  have HF3 := Lib.hid hf03
  have HV := Lib.hid hv
  have HPT := Lib.hid hpt
  have HPL2 := Lib.hid hpl2
  have HNOT := Lib.hid hnotin
  have HTJ2 := Lib.hid htj2
  have HROW := Lib.hid (addRow_vals htin.ids ps)
  clear hp1 hp2 htj2 htab3 hv hV hpt htin hlike htset haddE hf03 hpin hfit hadd hnotin hpl2 hd HDR hm2
  go_wp2_with fail
  refine HTAB3.out.mono ?_
  rintro en w4 ⟨rfl, rfl⟩
  go_wp2_with fail
  refine HADD.out.mono ?_
  rintro en w4 ⟨rfl, t', hdd, e1, e2, e3, hV'⟩
  obtain ⟨c8', w5, hput, d4, hr4, hf4, hP4, hx4, hc4, hg4, hwb4⟩ := HD.out.mid.raw.rowAdd (by have := HD.out.mid.lbd; omega) HTJ2.out HV.out HPL2.out (Int.le_of_lt HEB.out.1) HEB.out.2 hdd e1 e2 hV'
  rw [HD.out.fr.wb, HSM.out.wb] at c8'
  have hlen : (d.x.ix.liveL.erase e).length + 1 = d.x.ix.liveL.length := by rw [HPERM.out.length_eq]; rfl
  have hPok : d4.P.Ok d.x.ix.liveL := by
   rw [hP4]
   exact PS.Ok.add HD.out.mid.ok HPT.out HNOT.out HPERM.out _
  have hwho : d4.P.who = updW d.P.who e (some ⟨t2.set, some (addRow ps t2)⟩) := by
   refine updW_fun fun y => ?_
   rw [hP4, PS.Ok.add_who HD.out.mid.ok HPT.out (e := e) (addRow ps t2) y]
   split
   ·rfl
   ·rename_i hne
    rw [HD.out.who, updW_ne hne]
    rcases HPS.out with hh | ⟨_, hh⟩
    ·rw [hh]
    ·rw [hh]; exact H.out.ok.snoc_who s' y
  have HFIN : Hid (IsDeed d (d.S.openE s') (d.S.movedS e s' (cv ps)) (N + 2) w (.returned (.int .i64 0)) w5) := Lib.hid (by
   refine ⟨d4, ?_, HF3.out.trans hf4, (hwb4.trans HD.out.fr.wb).trans HSM.out.wb, by rw [HO.out], ?_⟩
   ·have hx : d4.x = d.x := (hx4.trans HD.out.x).trans HSM.out.x
    unfold WIn
    rw [hx]
    rw [hlen] at hr4
    exact HD.out.mid.fin hr4 hPok hg4 hx4 hc4 H.out.lbd
   ·rw [if_pos HO.out]
    have ew : (some ⟨t2.set, some (addRow ps t2)⟩ : Option Who) = some ⟨s', some (rowOfC (cv ps) s')⟩ := by rw [HROW.out, valsOf_cv, HTS.out]
    show WS.mk d4.caps d4.g.ver d4.g.cs d4.x.ix d4.g.sigs d4.P.who = _
    rw [hc4, hg4, hx4, hwho, ew, HD.out.caps, HD.out.g, HD.out.x, HSM.out.caps, HSM.out.x, HSIGS.out]
    rw [HSM.out.ver, HSM.out.cs]
    rfl)
  clear hdd e1 e2 e3 hV' hr4 hf4 hP4 hx4 hc4 hg4 hwb4 hPok hwho hlen
  go_wp2_with fail
  go_returns
  exact HFIN.out
theorem wMove_any (h : WIn w d N) (e : Int) (he : e ∈ d.x.ix.liveL) {i r : Nat} (hpl : d.pl e = some ⟨i, some r⟩) {t : TD} (ht : d.T[i]? = some t) {c : Int} {b : Bool} (hc : (findC c d.g.cs).isSome = true) (hb : hasB t.set c = !b) (hN : N ≤ 999990) (hpin : PartsIn d w pa pl pc ps) (hpo : PartsOk d.g.cs ps) (hfold : foldS (comps ps) = upd t.set c b) : Calls Tryz.prog 49 #[.pointer (some ⟨d.wb, 0, none⟩), .int .u64 e, .int .i64 c, .bool b, .slice pa pl pc] w (IsDeed d (d.S.openE (upd t.set c b)) (d.S.movedS e (upd t.set c b) (cv ps)) (N + 2) w) := by
 cases hp : posOf (upd t.set c b) d.g.sigs with
 | none =>
  cases b
  ·exact wMove_new_false h e he hpl ht hc hb hN hpin hpo hfold hp
  ·exact wMove_new_true h e he hpl ht hc hb hN hpin hpo hfold hp
 | some j =>
  obtain ⟨t2, ht2, _⟩ := WMid.of_pos h hp
  by_cases hf : t2.free = 0
  ·cases b
   ·exact wMove_full_false h e he hpl ht hc hb hfold hp ht2 hf
   ·exact wMove_full_true h e he hpl ht hc hb hfold hp ht2 hf
  ·cases b
   ·exact wMove_has_false h e he hpl ht hc hb hN hpin hpo hfold hp ht2 hf
   ·exact wMove_has_true h e he hpl ht hc hb hN hpin hpo hfold hp ht2 hf
end
end Go.Proofs.YthmpknlgkflhiabGreat
