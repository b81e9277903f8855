/- world.Schema, world.Match. · query.Rows; a nil cache's Tables. · QueryParts: its plain law: who lives is asked for, or not. · world.CheckCaps. -/
import Derived.Test.YtgebbmfoamkfnaaGreatDoorT37
import Derived.Test.YtgebbmfoamkfnaaGreatDoorT36
import Derived.Test.YtgebbmfoamkfnaaGreatDoorT30
namespace Go.Proofs.YtgebbmfoamkfnaaGreatDoor
open Go.RowKit
set_option linter.unusedVariables false
def WS.setOf (S : WS) (e : Int) : Int := match S.who e with | some x => x.set | none => 0
def WS.matchL (S : WS) (al no : Int) : List Int := S.ix.liveL.filter fun e => matchB al no (S.setOf e)
set_option maxRecDepth 100000 in
theorem gschema_ty (B1 gb : Nat) (g : GS) (w : World) {mb wb : Nat} {ta : Option Addr} {tc : Nat} (h : Graph B1 gb g mb wb ta tc w) : Calls Tryz.prog 47 #[.pointer (some ⟨gb, 0, none⟩)] w fun e w' => ∃ va vc, e = .returned (.agg #[.int .i64 g.ver, .slice va g.cs.length vc]) ∧ CompsAt w'.heap.size w' va g.cs.length g.cs ∧ CompsTy w' va g.cs.length g.cs ∧ Below w.heap.size w w' := by
 obtain ⟨ca, cl, cc, bs, ws, h⟩ := h
 have hcl : g.cs.length = cl := h.comps.1
 have hb0 : Below w.heap.size w (w.alloc (.cells #[.int .i64 0, .slice none 0 0] 24)) := by go_grown
 have hU := heap_alloc_new w (.cells #[.int .i64 0, .slice none 0 0] 24)
 have h' := h.below hb0
 have c0 := cell_at h'.blk 0
 have c1 := cell_at h'.blk 1
 simp at c0 c1
 have H := Lib.hid (And.intro h' (And.intro hU hb0))
 have HL := Lib.hid hcl
 clear h h' hU hb0 hcl
 go_enter Tryz.func47, Tryz.ntmps47
 go_wp2_with fail
 refine (schemaClone_any _ _ _ _ _ _ H.out.1.comps H.out.1.cn.2 H.out.1.wf.2.1 H.out.1.cn.1).mono ?_
 rintro e w2 ⟨va, vc, rfl, hcs2, hvn, hb2, hty2⟩
 have hU2 := keep hb2 H.out.2.1
 have f0 := free_at hU2 0
 have f1 := free_at hU2 1
 have u0 := cell_at hU2 0
 have u1 := cell_at hU2 1
 simp at u0 u1
 have HC := Lib.hid hcs2
 have HTY := Lib.hid hty2
 have HU2 := Lib.hid hU2
 have HB := Lib.hid hb2
 clear hcs2 hb2 hU2 hty2
 have hb3 : Below w.heap.size w ((w2.setCell ⟨w.heap.size, 0, none⟩ (.int .i64 g.ver)).setCell ⟨w.heap.size, 1, none⟩ (.slice va cl vc)) := ((H.out.2.2.trans (HB.out.mono H.out.2.2.size)).setCell (by simp) _).setCell (by simp) _
 have k2 := hset _ _ 1 (.slice va cl vc) _ _ _ (hset _ _ 0 (.int .i64 g.ver) _ _ _ HU2.out)
 simp at k2
 have r0 := cell_at (hset _ _ 0 (.int .i64 g.ver) _ _ _ HU2.out) 0
 have r1 := cell_at k2 1
 simp at r0 r1
 have hty : KeepsTy w2 ((w2.setCell ⟨w.heap.size, 0, none⟩ (.int .i64 g.ver)).setCell ⟨w.heap.size, 1, none⟩ (.slice va cl vc)) := by
  intro b c e fz hb he
  have hne : b ≠ w.heap.size := fun e' => by subst e'; rw [HU2.out] at hb; cases hb; rcases he with h | h <;> cases h
  rw [hset_ne _ _ _ _ hne, hset_ne _ _ _ _ hne]
  exact hb
 have HF := Lib.hid (And.intro hb3 (And.intro (HC.out.ty HTY.out hty) (HTY.out.hk hty)))
 clear hb3 k2 hty
 go_wp2_with fail
 refine bodyPost_ret (v := .agg #[.int .i64 g.ver, .slice va cl vc]) (by simp [results, Tryz.results47, go_sem, r0, r1]) rfl ?_
 refine ⟨va, vc, by rw [HL.out], ?_, by rw [HL.out]; exact HF.out.2.2, HF.out.1⟩
 rw [HL.out]
 simpa [World.setCell] using HF.out.2.1
section
variable {w w' : World} {d : WD} {N : Nat}
theorem WIn.setOf (h : WIn w d N) {e : Int} (he : e ∈ d.x.ix.liveL) : ∃ p t, d.pl e = some p ∧ d.T[p.tab]? = some t ∧ d.S.setOf e = t.set ∧ 0 ≤ t.set ∧ t.set ≤ 4294967295 := by
 obtain ⟨⟨i, r⟩, t, v, hp, ht, _⟩ := h.place he
 refine ⟨_, t, hp, ht, ?_, WMid.bd h ht⟩
 show (match d.P.who e with | some x => x.set | none => 0) = t.set
 cases r with
 | none => rw [WMid.who_wait h hp ht]
 | some r =>
  obtain ⟨v, row, _, _, _, _, _, hw, _⟩ := WMid.who_row h hp ht
  rw [hw]
theorem wSig_set (h : WIn w d N) {e : Int} (he : e ∈ d.x.ix.liveL) : (0 ≤ d.S.setOf e ∧ d.S.setOf e ≤ 4294967295) ∧ ∀ W, Below w.heap.size w W → Calls Tryz.prog 95 #[.pointer (some ⟨d.wb, 0, none⟩), .int .u64 e] W fun en w' => en = .returned (.tuple #[.int .u32 (d.S.setOf e), .int .i64 0]) ∧ Below W.heap.size W w' := by
 obtain ⟨p, t, hp, ht, hs, h0, h1⟩ := h.setOf he
 rw [hs]
 exact ⟨⟨h0, h1⟩, fun W hb => wSig_ok (h.below hb) e he hp ht⟩
set_option maxRecDepth 100000 in
set_option maxHeartbeats 2000000 in
theorem wMatch_any (h : WIn w d N) (al no : Int) (al0 : 0 ≤ al) (al1 : al ≤ 4294967295) (no0 : 0 ≤ no) (no1 : no ≤ 4294967295) : Calls Tryz.prog 56 #[.pointer (some ⟨d.wb, 0, none⟩), .int .u32 al, .int .u32 no] w (IsLive (d.S.matchL al no) w) := by
 obtain ⟨i0, hi, hz0, hz1, hz2⟩ := info_parts Tryz.infoE
 have hlv := wLive_any h
 have hlb : d.S.ix.liveL.length ≤ 257 := WMid.lbd h
 have hsg : ∀ e ∈ d.S.ix.liveL, (0 ≤ d.S.setOf e ∧ d.S.setOf e ≤ 4294967295) ∧ ∀ W, Below w.heap.size w W → Calls Tryz.prog 95 #[.pointer (some ⟨d.wb, 0, none⟩), .int .u64 e] W fun en w' => en = .returned (.tuple #[.int .u32 (d.S.setOf e), .int .i64 0]) ∧ Below W.heap.size W w' := fun e he => wSig_set h he
 unfold WS.matchL
 generalize d.S.ix.liveL = L at *
 generalize d.S.setOf = f at *
 have HLV := Lib.hid hlv
 have HSG := Lib.hid hsg
 clear h hlv hsg
 obtain ⟨n, hn⟩ : ∃ n, L.length = n := ⟨_, rfl⟩
 rw [hn] at hlb
 go_enter Tryz.func56, Tryz.ntmps56
 go_wp2_with fail
 refine HLV.out.mono ?_
 rintro e w1 ⟨la, lc, rfl, hlo, hlb1⟩
 rw [hn] at hlo ⊢
 have HN := Lib.hid hn
 have HLO := Lib.hid hlo
 have HB1 := Lib.hid hlb1
 clear hn hlo hlb1 HLV
 go_wp2_with fail
 go_loopw [7, 15] (fun o i wr => ∃ (k m : Nat) (oa : Option Addr) (oc : Nat), o = .slice oa m oc ∧ i = .int .i64 (k : Int) ∧ k ≤ n ∧ ((L.take k).filter fun e => matchB al no (f e)).length = m ∧ m ≤ k ∧ wr.ownsRow w1.heap.size 50 1 (.slice oa m oc) m (((L.take k).filter fun e => matchB al no (f e)).map (.int .u64)) ∧ Below w1.heap.size w1 wr) (fun _ i _ => n - (intOf i).toNat)
 case atStart => exact ⟨0, 0, none, 0, rfl, rfl, Nat.zero_le _, by simp, Nat.le_refl _, by simpa using World.ownsRow_nil _ _ _ _, Below.refl _ _⟩
 case round =>
  obtain ⟨k, m, oa, oc, rfl, rfl, hk, hfl, hmk, hown, hb⟩ := hrel
  by_cases hlt : k < n
  ·obtain ⟨q, rfl, hBq, hql, hqc⟩ := row_block (ownsRow_out HLO.out (Out.of hb (F := fun _ => False)) (fun _ _ hf => hf)) (by omega)
   obtain ⟨e, he⟩ : ∃ e, L[k]? = some e := ⟨_, List.getElem?_eq_getElem (by rw [HN.out]; exact hlt)⟩
   have e0 := hqc k (.int .u64 e) (by rw [List.getElem?_map, he]; rfl)
   have g0 : (0 : Int) ≤ (k : Int) := by omega
   have g1 : (k : Int) < (n : Int) := by omega
   have hsz := hb.size
   obtain ⟨⟨s0, s1⟩, hsig⟩ := HSG.out e (List.mem_of_getElem? he)
   have HSGE := Lib.hid (hsig wr (HB1.out.trans (hb.mono HB1.out.size)))
   have HTK := Lib.hid (take_snoc he)
   obtain ⟨s, hs⟩ : ∃ s, f e = s := ⟨_, rfl⟩
   rw [hs] at s0 s1 HSGE
   have HS := Lib.hid hs
   have HFL := Lib.hid hfl
   have HOWN := Lib.hid hown
   have HB := Lib.hid hb
   have HWI := Lib.hid (fun W => within_any al s W al0 al1 s0 s1)
   have HME := Lib.hid (fun W => meets_any no s W no0 no1 s0 s1)
   obtain ⟨r1, hr1⟩ : ∃ r, within al s = r := ⟨_, rfl⟩
   obtain ⟨r2, hr2⟩ : ∃ r, meets no s = r := ⟨_, rfl⟩
   rw [hr1] at HWI
   rw [hr2] at HME
   have HMT : Hid (matchB al no s = (r1 && !r2)) := Lib.hid (by unfold matchB; rw [hr1, hr2])
   clear he hqc hsig hs hfl hown hb hr1 hr2
   go_wp2_with fail
   refine HSGE.out.mono ?_
   rintro en w2 ⟨rfl, hb2⟩
   have HBR := Lib.hid (HB.out.trans (hb2.mono HB.out.size))
   have HOWN2 := Lib.hid (ownsRow_out HOWN.out (Out.of hb2 (F := fun _ => False)) (fun _ _ hf => hf))
   clear hb2
   go_wp2_with fail
   refine (HWI.out _).mono ?_
   rintro en w3 ⟨rfl, rfl⟩
   have hno : (r1 && !r2) = false → ((L.take (k + 1)).filter fun e => matchB al no (f e)) = (L.take k).filter fun e => matchB al no (f e) := fun hf => by
    rw [HTK.out, List.filter_append]
    simp [HS.out, HMT.out, hf]
   have hyes : (r1 && !r2) = true → ((L.take (k + 1)).filter fun e => matchB al no (f e)) = ((L.take k).filter fun e => matchB al no (f e)) ++ [e] := fun hf => by
    rw [HTK.out, List.filter_append]
    simp [HS.out, HMT.out, hf]
   have HNO := Lib.hid hno
   have HYES := Lib.hid hyes
   clear hno hyes
   cases r1
   ·go_wp2_with fail
    go_roundw
    case rel => exact ⟨k + 1, m, oa, oc, rfl, by go_num, by omega, by rw [HNO.out rfl]; exact HFL.out, by omega, by rw [HNO.out rfl]; exact HOWN2.out, HBR.out⟩
    case measure => simp [intOf]; omega
   ·go_wp2_with fail
    refine (HME.out _).mono ?_
    rintro en w4 ⟨rfl, rfl⟩
    cases r2
    ·have HA := Lib.hid (HOWN2.out.alloc (.cells #[.int .u64 e] 50))
     have hsz2 := HBR.out.size
     go_wp2_with (at_builtin; refine wpList_append_own _ rfl (.tmp 34) (.tmp 36) 57 rfl w1.heap.size 50 i0 (.int .u64 0) 1 8 Tryz.underlying57 hi hz0 hz1 hz2 rfl (by decide) (.slice oa m oc) m _ rfl HA.out ⟨w2.heap.size, 0, none⟩ 1 1 [.int .u64 e] rfl rfl (cell_one_new _ _ _) (ints_oneCell .u64 [e]) (by unfold maxLen; omega) (by omega) (by simp; omega) ?_)
     intro v' w5 hown5 hg5 _
     obtain ⟨va', vc', hv'⟩ := ownsRow_slice hown5
     rw [hv'] at hown5 ⊢
     clear hv'
     have HB5 := Lib.hid ((HBR.out.alloc hsz2 (.cells #[.int .u64 e] 50)).trans (below_own HA.out hg5 (by simp; omega)))
     have HO5 := Lib.hid hown5
     clear hown5 hg5 HA
     go_wp2_with fail
     go_roundw
     case rel => exact ⟨k + 1, m + 1, va', vc', rfl, by go_num, by omega, by rw [HYES.out rfl, List.length_append, HFL.out]; rfl, by omega, by rw [HYES.out rfl, List.map_append]; exact HO5.out, HB5.out⟩
     case measure => simp [intOf]; omega
    ·go_wp2_with fail
     go_roundw
     case rel => exact ⟨k + 1, m, oa, oc, rfl, by go_num, by omega, by rw [HNO.out rfl]; exact HFL.out, by omega, by rw [HNO.out rfl]; exact HOWN2.out, HBR.out⟩
     case measure => simp [intOf]; omega
  ·obtain rfl : k = n := by omega
   have hfull : L.take k = L := by rw [← HN.out, List.take_length]
   rw [hfull] at hfl hown
   have HFIN : Hid (wr.ownsRow w.heap.size 50 1 (.slice oa m oc) m ((L.filter fun e => matchB al no (f e)).map (.int .u64)) ∧ Below w.heap.size w wr ∧ (L.filter fun e => matchB al no (f e)).length = m) := Lib.hid ⟨ownsRow_mono hown HB1.out.size, HB1.out.trans (hb.mono HB1.out.size), hfl⟩
   clear hown hb hfull hfl
   go_wp2_with fail
   go_returns
   exact ⟨oa, oc, ret_sl HFIN.out.2.2.symm, by rw [HFIN.out.2.2]; exact HFIN.out.1, HFIN.out.2.1⟩
set_option maxRecDepth 100000 in
set_option maxHeartbeats 1000000 in
theorem wSchema_any (h : WIn w d N) : Calls Tryz.prog 55 #[.pointer (some ⟨d.wb, 0, none⟩)] w fun e w' => ∃ va vc, e = .returned (.agg #[.int .i64 d.g.ver, .slice va d.g.cs.length vc]) ∧ CompsAt w'.heap.size w' va d.g.cs.length d.g.cs ∧ Below w.heap.size w w' := by
 have hb0 : Below w.heap.size w (w.alloc (.cells #[.int .i64 0, .slice none 0 0] 24)) := by go_grown
 have hU := heap_alloc_new w (.cells #[.int .i64 0, .slice none 0 0] 24)
 have h' := h.below hb0
 obtain ⟨_, c7, _⟩ := h'.raw.cells
 have HSC := Lib.hid (gschema_ty 0 d.gb d.g _ h'.raw.gr)
 have HU := Lib.hid hU
 have HB0 := Lib.hid hb0
 obtain ⟨cs, hcs⟩ : ∃ cs, d.g.cs = cs := ⟨_, rfl⟩
 obtain ⟨n, hn⟩ : ∃ n, cs.length = n := ⟨_, rfl⟩
 rw [hcs, hn] at HSC ⊢
 clear h h' hU hb0 hcs hn
 go_enter Tryz.func55, Tryz.ntmps55
 go_wp2_with fail
 refine HSC.out.mono ?_
 rintro e w2 ⟨va, vc, rfl, hcs2, hty2, hb2⟩
 have hU2 := keep hb2 HU.out
 have f0 := free_at hU2 0
 have f1 := free_at hU2 1
 have u0 := cell_at hU2 0
 have u1 := cell_at hU2 1
 simp at u0 u1
 have hb3 : Below w.heap.size w ((w2.setCell ⟨w.heap.size, 0, none⟩ (.int .i64 d.g.ver)).setCell ⟨w.heap.size, 1, none⟩ (.slice va n vc)) := ((HB0.out.trans (hb2.mono HB0.out.size)).setCell (by simp) _).setCell (by simp) _
 have k2 := hset _ _ 1 (.slice va n vc) _ _ _ (hset _ _ 0 (.int .i64 d.g.ver) _ _ _ hU2)
 simp at k2
 have r0 := cell_at (hset _ _ 0 (.int .i64 d.g.ver) _ _ _ hU2) 0
 have r1 := cell_at k2 1
 simp at r0 r1
 have hty : KeepsTy w2 ((w2.setCell ⟨w.heap.size, 0, none⟩ (.int .i64 d.g.ver)).setCell ⟨w.heap.size, 1, none⟩ (.slice va n vc)) := by
  intro b c e fz hb he
  have hne : b ≠ w.heap.size := fun e' => by subst e'; rw [hU2] at hb; cases hb; rcases he with h | h <;> cases h
  rw [hset_ne _ _ _ _ hne, hset_ne _ _ _ _ hne]
  exact hb
 have HF := Lib.hid (And.intro hb3 (hcs2.ty hty2 hty))
 have HU2 := Lib.hid hU2
 clear hb3 k2 hU2 hcs2 hb2 hty hty2
 go_wp2_with fail
 refine bodyPost_ret (v := .agg #[.int .i64 d.g.ver, .slice va n vc]) (by simp [results, Tryz.results55, go_sem, r0, r1]) rfl ?_
 refine ⟨va, vc, rfl, ?_, HF.out.1⟩
 simpa [World.setCell] using HF.out.2
end
end Go.Proofs.YtgebbmfoamkfnaaGreatDoor
namespace Go.Proofs.YtgebbmfoamkfnaaGreatDoor
open Go.RowKit
set_option linter.unusedVariables false
def IsSch (ver : Int) (cs : List Cmp) (n : Nat) (v : Value) (w : World) : Prop := ∃ va vc, v = .agg #[.int .i64 ver, .slice va n vc] ∧ CompsAt w.heap.size w va n cs
theorem lasts_sch (ver : Int) (cs : List Cmp) (n : Nat) : Lasts (IsSch ver cs n) := fun _ _ _ ⟨va, vc, h1, h2⟩ hb => ⟨va, vc, h1, (h2.below hb).mono hb.size⟩
def rq_list (wb : Nat) (ver : Int) (cs : List Cmp) (n : Nat) (al no ck : Int) : List (Value → World → Prop) :=
 [IsV (.pointer (some ⟨wb, 0, none⟩)), IsSch ver cs n, IsV (.agg #[.int .u32 al, .int .u32 no]), IsV (.int .i64 ck), IsV (.int .i64 ck)]
theorem rq_list_lasts (wb : Nat) (ver : Int) (cs : List Cmp) (n : Nat) (al no ck : Int) : ∀ p ∈ rq_list wb ver cs n al no ck, Lasts p := by
 simp only [rq_list, List.mem_cons, List.not_mem_nil, or_false]
 rintro p hp
 repeat (rcases hp with rfl | hp; first | exact lasts_v _ | exact lasts_sch _ _ _)
 first | exact hp ▸ lasts_v _ | skip
structure RQ where
 ent : Int
 pa : Option Addr
 pn : Nat
 pc : Nat
def rqCells (r : RQ) : List Value := [.int .u64 r.ent, .slice r.pa r.pn r.pc]
def WS.rowN (S : WS) (al : Int) (e : Int) : Nat := match S.rowAt e with
 | some (s, row) => ((cvOf s row).filter fun p => hasB al p.1).length
 | none => 0
def RowsOk (S : WS) (al : Int) (l : List Int) (R : List RQ) : Prop := R.map (·.ent) = l ∧ ∀ r ∈ R, r.pn = S.rowN al r.ent
theorem RowsOk.snoc {S : WS} {al : Int} {l : List Int} {R : List RQ} (h : RowsOk S al l R) (r : RQ) (hr : r.pn = S.rowN al r.ent) : RowsOk S al (l ++ [r.ent]) (R ++ [r]) := by
 refine ⟨by rw [List.map_append, h.1]; rfl, fun x hx => ?_⟩
 rcases List.mem_append.1 hx with hx | hx
 ·exact h.2 x hx
 ·rw [List.mem_singleton.1 hx]; exact hr
theorem Tryz.infoQR : (Tryz.prog.info? 61).map (fun i => (i.zero, i.size, i.bytes)) = some (some (.agg #[.int .u64 0, .slice none 0 0]), 2, 32) := by kernel_rfl
theorem cv_count (al : Int) (ps : List PW) : ((cv ps).filter fun p => hasB al p.1).length = (ps.filter fun p => hasB al p.comp).length := by
 unfold cv
 rw [List.filter_map, List.length_map]; rfl
theorem cvOf_len (s : Int) (row : List (List WI)) : (cvOf s row).length ≤ 100000 := by
 unfold cvOf
 rw [List.length_zip]
 have : (idsTo s 24).length ≤ 24 := idsTo_len s 24
 omega
section
variable {w w' : World} {d : WD} {N : Nat}
theorem wParts_live (h : WIn w d N) (al : Int) {e : Int} (he : e ∈ d.x.ix.liveL) : ∀ W, Below w.heap.size w W → Calls Tryz.prog 57 #[.pointer (some ⟨d.wb, 0, none⟩), .int .u64 e] W fun en w' => ∃ pa n pc ps c, en = .returned (.tuple #[.slice pa n pc, .int .i64 c]) ∧ PO W.heap.size w' pa n pc ps ∧ n ≤ 100000 ∧ (ps.filter fun p => hasB al p.comp).length = d.S.rowN al e ∧ Below W.heap.size W w' := by
 intro W hb
 have hW := h.below hb
 rcases h.cases he with ⟨i, t, hp, ht⟩ | ⟨i, r, t, hp, ht⟩
 ·refine (wParts_wait hW e he hp).mono ?_
  rintro en w2 ⟨rfl, hb2⟩
  refine ⟨none, 0, 0, [], 7, rfl, ⟨World.ownsRow_nil _ _ _ _, by simp, rfl⟩, by omega, ?_, hb2⟩
  unfold WS.rowN
  rw [rowAt_wait (show d.S.who e = _ from WMid.who_wait h hp ht)]
  rfl
 ·obtain ⟨v, row, hv, hvr, hV, hrl, _, hw, _⟩ := WMid.who_row h hp ht
  have hra := h.rowAt_row hp ht hw
  refine (wParts_ok hW e he hra).mono ?_
  rintro en w2 ⟨pa, pc, ps, rfl, hpo, hcv, hb2⟩
  refine ⟨pa, _, pc, ps, 0, rfl, hpo, cvOf_len _ _, ?_, hb2⟩
  unfold WS.rowN
  rw [hra, ← cv_count, hcv]
def IsRows (S : WS) (al : Int) (l : List Int) (w : World) (e : Ending) (w' : World) : Prop := ∃ va vc R, e = .returned (.tuple #[.slice va l.length vc, .int .i64 0]) ∧ RowsOk S al l R ∧ w'.ownsRow w.heap.size 61 2 (.slice va l.length vc) l.length (R.flatMap rqCells) ∧ Below w.heap.size w w'
def IsRowsE (c : Int) (S : WS) (al : Int) (l : List Int) (w : World) (e : Ending) (w' : World) : Prop :=
 if c ≠ 0 then e = .returned (.tuple #[.slice none 0 0, .int .i64 c]) ∧ Below w.heap.size w w' else IsRows S al l w e w'
set_option maxRecDepth 100000 in
set_option maxHeartbeats 4000000 in
theorem qRows_any (h : WIn w d N) (al no : Int) (hq : QWf (al, no)) : Calls Tryz.prog 19 #[.pointer (some ⟨d.wb, 0, none⟩), .agg #[.int .u32 al, .int .u32 no]] w (IsRowsE (checkQ d.S.ver d.S.cs al no) d.S al (d.S.matchL al no) w) := by
 obtain ⟨i0, hi, hz0, hz1, hz2⟩ := info_parts Tryz.infoQR
 have hb0 : Below w.heap.size w (w.alloc (.cells #[.int .u32 al, .int .u32 no] 30)) := (Below.refl _ w).alloc (Nat.le_refl _) _
 have hqb := heap_alloc_new w (.cells #[.int .u32 al, .int .u32 no] 30)
 have h1 := h.below hb0
 have hgr : CompsWf d.g.cs ∧ d.g.cs.length ≤ 100000 := by
  obtain ⟨ca, cl, cc, bs, ws, hg⟩ := h.raw.gr
  exact ⟨hg.wf.1, by rw [hg.comps.1]; exact hg.cn.2⟩
 obtain ⟨W0, hW0⟩ : ∃ W0, w.alloc (.cells #[.int .u32 al, .int .u32 no] 30) = W0 := ⟨_, rfl⟩
 have hsz0 : w.heap.size + 1 = W0.heap.size := by rw [← hW0]; simp
 rw [hW0] at hb0 hqb h1
 have HSC := Lib.hid (fun W (hb : Below W0.heap.size W0 W) => wSchema_any (h1.below hb))
 have HCK := Lib.hid (fun W va vc (hc : CompsAt W.heap.size W va d.g.cs.length d.g.cs) => qCheck_any d.g.ver d.g.cs va d.g.cs.length vc al no W hc hgr.1 hgr.2 hq)
 have HMA := Lib.hid (fun W (hb : Below W0.heap.size W0 W) => wMatch_any (h1.below hb) al no hq.1.1 hq.1.2 hq.2.1 hq.2.2)
 have HPA : Hid (∀ e ∈ d.S.matchL al no, ∀ W, Below W0.heap.size W0 W → Calls Tryz.prog 57 #[.pointer (some ⟨d.wb, 0, none⟩), .int .u64 e] W fun en w' => ∃ pa n pc ps c, en = .returned (.tuple #[.slice pa n pc, .int .i64 c]) ∧ PO W.heap.size w' pa n pc ps ∧ n ≤ 100000 ∧ (ps.filter fun p => hasB al p.comp).length = d.S.rowN al e ∧ Below W.heap.size W w') := Lib.hid (fun e he W hb => wParts_live h1 al (List.mem_filter.1 he).1 W hb)
 have hlen : (d.S.matchL al no).length ≤ 257 := Nat.le_trans (List.length_filter_le _ _) (WMid.lbd h)
 obtain ⟨ck, hck⟩ : ∃ ck, checkQ d.g.ver d.g.cs al no = ck := ⟨_, rfl⟩
 have hck' : checkQ d.S.ver d.S.cs al no = ck := hck
 rw [hck'] 
 rw [hck] at HCK
 clear hck hck' h h1 hgr
 generalize d.S.matchL al no = L at *
 generalize d.S = S at *
 generalize d.g.cs = cs at *
 generalize d.g.ver = ver at *
 generalize d.wb = wb at *
 obtain ⟨⟨al0, al1⟩, no0, no1⟩ := hq
 have HQB := Lib.hid hqb
 have HB0 := Lib.hid hb0
 obtain ⟨n, hn⟩ : ∃ n, L.length = n := ⟨_, rfl⟩
 have HLN := Lib.hid hn
 rw [hn] at hlen
 clear hqb hb0 hn
 go_enter Tryz.func19, Tryz.ntmps19
 go_wp2_with fail
 clear hW0
 refine wp_region_frame (by kernel_rfl) (by kernel_rfl) (by kernel_rfl) (byList (rq_list wb ver cs cs.length al no ck)) (lasts_list (rq_list_lasts wb ver cs cs.length al no ck)) ?_ ?_
 ·intro vs w' iq o A F hb ho hd
  have m0 : A.tmps[0]?.getD undef = (.pointer (some ⟨wb, 0, none⟩)) := F.m (by kernel_rfl) rfl
  have m3 : A.tmps[3]?.getD undef = (.pointer (some ⟨w.heap.size, 0, none⟩)) := F.m (by kernel_rfl) rfl
  have G := F.light (n := 48) (by kernel_rfl)
  clear F
  have z0 := cell_at (keep hb HQB.out) 0
  have z1 := cell_at (keep hb HQB.out) 1
  simp at z0 z1
  revert ho hd
  match iq with
  | 0 => intro ho hd; obtain rfl := (Option.some.inj ho).symm; clear hd ho; refine step_open rfl ?_; clear G; exact step_run (v := (.pointer (some ⟨wb, 0, none⟩))) (by go_simp) rfl
  | 1 => intro ho hd; obtain rfl := (Option.some.inj ho).symm; have d0 : vs 0 = (.pointer (some ⟨wb, 0, none⟩)) := hd ⟨0, .data⟩ (by simp) rfl; clear hd ho; have h14 := G.h (j := 0) (d := 14) rfl (by decide) d0; refine step_open rfl ?_; clear G; go_simp; refine (HSC.out _ hb).mono ?_; rintro e w9 ⟨va, vc, rfl, hcs9, hb9⟩; exact ⟨_, rfl, ⟨va, vc, rfl, by have := hcs9.1; exact hcs9⟩, hb9⟩
  | 2 => intro ho hd; obtain rfl := (Option.some.inj ho).symm; clear hd ho; refine step_open rfl ?_; clear G; exact step_run (v := (.agg #[.int .u32 al, .int .u32 no])) (by go_simp) rfl
  | 3 => intro ho hd; obtain rfl := (Option.some.inj ho).symm; obtain ⟨va, vc, d1, hcs1⟩ : IsSch ver cs cs.length (vs 1) w' := hd ⟨1, .data⟩ (by simp) rfl; have d2 : vs 2 = (.agg #[.int .u32 al, .int .u32 no]) := hd ⟨2, .data⟩ (by simp) rfl; clear hd ho; have h15 := G.h (j := 1) (d := 15) rfl (by decide) d1; have h16 := G.h (j := 2) (d := 16) rfl (by decide) d2; refine step_open rfl ?_; clear G; go_simp; refine (HCK.out _ va vc hcs1).mono ?_; rintro e w9 ⟨rfl, hb9⟩; exact ⟨_, rfl, rfl, hb9⟩
  | 4 => intro ho hd; obtain rfl := (Option.some.inj ho).symm; have d3 : vs 3 = (.int .i64 ck) := hd ⟨3, .data⟩ (by simp) rfl; clear hd ho; have h17 := G.h (j := 3) (d := 17) rfl (by decide) d3; refine step_open rfl ?_; clear G; exact step_run (v := (.int .i64 ck)) (by go_simp) rfl
  | n + 5 => intro ho hd; simp at ho
 ·intro vs W1 hb hR
  have hv : vs 4 = .int .i64 ck := hR 4 (by simp)
  simp only [putAll, Act.put, List.setIfInBounds_toArray, List.set_cons_succ, List.set_cons_zero]
  rw [hv]
  have HB1 := Lib.hid hb
  have HQ1 := Lib.hid (keep hb HQB.out)
  have HF1 := Lib.hid (HB0.out.trans (hb.mono HB0.out.size))
  clear hR hb hv
  rcases (Decidable.em (ck = 0)).symm with hck | hck
  ·go_wp2_with fail
   go_returns
   unfold IsRowsE
   rw [if_pos hck]
   exact ⟨rfl, HF1.out⟩
  subst hck
  have z0 := cell_at HQ1.out 0
  have z1 := cell_at HQ1.out 1
  simp at z0 z1
  have HMA1 := Lib.hid (HMA.out W1 HB1.out)
  go_wp2_with fail
  refine HMA1.out.mono ?_
  rintro e W2 ⟨la, lc, rfl, hlo, hb2⟩
  rw [HLN.out] at hlo ⊢
  have HLO := Lib.hid hlo
  have HB2 := Lib.hid (HB1.out.trans (hb2.mono HB1.out.size))
  have HQ2 := Lib.hid (keep hb2 HQ1.out)
  have HF2 := Lib.hid (HF1.out.trans (hb2.mono HF1.out.size))
  clear hlo hb2 HMA1 HMA z0 z1
  go_wp2_with fail
  go_loopw [7, 28] (fun o i wr => ∃ (k : Nat) (R : List RQ) (oa : Option Addr) (oc : Nat), o = .slice oa k oc ∧ i = .int .i64 (k : Int) ∧ k ≤ n ∧ RowsOk S al (L.take k) R ∧ wr.ownsRow W2.heap.size 61 2 (.slice oa k oc) k (R.flatMap rqCells) ∧ Below W2.heap.size W2 wr) (fun _ i _ => n - (intOf i).toNat)
  case atStart => exact ⟨0, [], none, 0, rfl, rfl, Nat.zero_le _, ⟨rfl, by simp⟩, World.ownsRow_nil _ _ _ _, Below.refl _ _⟩
  case round =>
   obtain ⟨k, R, oa, oc, rfl, rfl, hk, hro, hown, hb⟩ := hrel
   by_cases hlt : k < n
   ·obtain ⟨q, rfl, hBq, hql, hqc⟩ := row_block (ownsRow_out HLO.out (Out.of hb (F := fun _ => False)) (fun _ _ hf => hf)) (by omega)
    obtain ⟨e, he⟩ : ∃ e, L[k]? = some e := ⟨_, List.getElem?_eq_getElem (by rw [HLN.out]; exact hlt)⟩
    have e0 := hqc k (.int .u64 e) (by rw [List.getElem?_map, he]; rfl)
    have g0 : (0 : Int) ≤ (k : Int) := by omega
    have g1 : (k : Int) < (n : Int) := by omega
    have HP := Lib.hid (HPA.out e (List.mem_of_getElem? he) wr (HB2.out.trans (hb.mono HB2.out.size)))
    have HTK := Lib.hid (take_snoc he)
    have HRO := Lib.hid hro
    have HOWN := Lib.hid hown
    have HB := Lib.hid hb
    have hqr := keep hb HQ2.out
    have HQR := Lib.hid hqr
    have hwq : w.heap.size < wr.heap.size := lt_some hqr
    clear he hqc hro hown hb hqr
    go_wp2_with fail
    refine HP.out.mono ?_
    rintro en w2 ⟨pa, pn, pc, ps, c, rfl, hpo, hpn, hrn, hb2⟩
    have HDEL := Lib.hid (delQ_any wr.heap.size w.heap.size al al0 al1 pa pn pc ps w2 hpo hwq hb2.size (by rw [cell_at (keep hb2 HQR.out)]; rfl) hpn)
    have HRN := Lib.hid hrn
    have HB2x := Lib.hid hb2
    clear hpo hrn hb2 HP
    unfold rqClo at HDEL
    go_wp2_with fail
    refine HDEL.out.mono ?_
    rintro en w3 ⟨m, rfl, hpo3, hmn, hb3⟩
    have hb23 := HB2x.out.trans hb3
    have hpm : m = S.rowN al e := by rw [← HRN.out]; exact hpo3.len.symm
    have hbr := HB.out.trans (hb23.mono HB.out.size)
    have HBR := Lib.hid hbr
    have hsz3 := hbr.size
    have HA := Lib.hid ((ownsRow_out HOWN.out (Out.of hb23 (F := fun _ => False)) (fun _ _ hf => hf)).alloc (.cells #[.int .u64 e, .slice pa m pc] 61))
    have HRO3 := Lib.hid (HRO.out.snoc ⟨e, pa, m, pc⟩ hpm)
    have HNEWS : Hid (∀ j u, ([.int .u64 e, .slice pa m pc] : List Value)[j]? = some u → (w3.alloc (.cells #[.int .u64 e, .slice pa m pc] 61)).cell? ((⟨w3.heap.size, 0, none⟩ : Addr).add j) = some u) := Lib.hid (World.news_of_block (w := w3.alloc (.cells #[.int .u64 e, .slice pa m pc] 61)) (cs := #[.int .u64 e, .slice pa m pc]) (t := 61) (fr := (0, 0)) (heap_alloc_new w3 _))
    clear hb23 hbr hpo3 hb3 HDEL hpm HRN HB2x
    go_wp2_with (at_builtin; refine wpList_append_own _ rfl (.tmp 38) (.tmp 44) 54 rfl W2.heap.size 61 i0 (.agg #[.int .u64 0, .slice none 0 0]) 2 32 Tryz.underlying54 hi hz0 hz1 hz2 rfl (by decide) (.slice oa k oc) k _ rfl HA.out ⟨w3.heap.size, 0, none⟩ 1 1 [.int .u64 e, .slice pa m pc] rfl rfl HNEWS.out (fun u hu => by simp at hu; rcases hu with rfl | rfl <;> rfl) (by unfold maxLen; omega) (by omega) (by simp; omega) ?_)
    intro v' w5 hown5 hg5 _
    obtain ⟨va', vc', hv'⟩ := ownsRow_slice hown5
    rw [hv'] at hown5 ⊢
    clear hv'
    have HB5 := Lib.hid ((HBR.out.alloc hsz3 (.cells #[.int .u64 e, .slice pa m pc] 61)).trans (below_own HA.out hg5 (by simp; omega)))
    have HO5 := Lib.hid hown5
    clear hown5 hg5 HA HNEWS HBR
    go_wp2_with fail
    go_roundw
    case rel => exact ⟨k + 1, R ++ [⟨e, pa, m, pc⟩], va', vc', rfl, by go_num, by omega, by rw [HTK.out]; exact HRO3.out, by rw [List.flatMap_append]; exact HO5.out, HB5.out⟩
    case measure => simp [intOf]; omega
   ·obtain rfl : k = n := by omega
    have hfull : L.take k = L := by rw [← HLN.out, List.take_length]
    rw [hfull] at hro
    have HFIN : Hid (RowsOk S al L R ∧ wr.ownsRow w.heap.size 61 2 (.slice oa k oc) k (R.flatMap rqCells) ∧ Below w.heap.size w wr) := Lib.hid ⟨hro, ownsRow_mono hown HF2.out.size, HF2.out.trans (hb.mono HF2.out.size)⟩
    clear hown hb hfull hro
    go_wp2_with fail
    go_returns
    unfold IsRowsE
    rw [if_neg (by simp)]
    unfold IsRows
    rw [HLN.out]
    exact ⟨oa, oc, R, rfl, HFIN.out⟩
end
end Go.Proofs.YtgebbmfoamkfnaaGreatDoor
namespace Go.Proofs.YtgebbmfoamkfnaaGreatDoor
open Go.RowKit
set_option linter.unusedVariables false
def u32B (x : Int) : Prop := 0 ≤ x ∧ x ≤ 4294967295
theorem within_zero {s : Int} (h : u32B s) : within 0 s = true := by
  rw [within_iff ⟨by omega, by omega⟩ ⟨h.1, by have := h.2; omega⟩]
  intro i _ hi
  rw [has_zero] at hi
  cases hi
theorem meets_zero {s : Int} (h : u32B s) : meets 0 s = false := by
  cases hm : meets 0 s with
  | false => rfl
  | true =>
    obtain ⟨i, _, hi, _⟩ := (meets_iff ⟨by omega, by omega⟩ ⟨h.1, by have := h.2; omega⟩).1 hm
    rw [has_zero] at hi
    cases hi
def oneQ (id : Int) : Int := sWith 0 id
theorem oneQ_bd (id : Int) : u32B (oneQ id) := withBd (by omega) (by omega)
theorem oneQ_has {id i : Int} (hi : idB i = true) : hasB (oneQ id) i = (idB id && decide (i = id)) := by
  unfold oneQ
  cases hid : idB id with
  | true => rw [has_with (by omega) (by omega) hid hi, has_zero]; simp
  | false =>
    have : sWith 0 id = 0 := by unfold sWith; rw [hid]; simp
    rw [this, has_zero]; simp
theorem oneQ_ne {id : Int} (h : oneQ id ≠ 0) : idB id = true := by
  cases hid : idB id with
  | true => rfl
  | false => exact absurd (by unfold oneQ sWith; rw [hid]; simp) h
/-- A set of one is within a set just if it meets it. -/
theorem one_same {id s : Int} (h : oneQ id ≠ 0) (hs : u32B s) : within (oneQ id) s = meets (oneQ id) s := by
  have hb := oneQ_bd id
  have hid := oneQ_ne h
  have h1 : setOk (oneQ id) := ⟨hb.1, by have := hb.2; omega⟩
  have h2 : setOk s := ⟨hs.1, by have := hs.2; omega⟩
  apply Bool.eq_iff_iff.2
  rw [within_iff h1 h2, meets_iff h1 h2]
  have hself : hasB (oneQ id) id = true := by rw [oneQ_has hid, hid]; simp
  constructor
  · intro hw
    exact ⟨id, hid, hself, hw id hid hself⟩
  · rintro ⟨i, hi, h3, h4⟩ j hj h5
    rw [oneQ_has hi, hid] at h3
    rw [oneQ_has hj, hid] at h5
    have e1 : i = id := by simpa using h3
    have e2 : j = id := by simpa using h5
    rw [e2, ← e1]
    exact h4
/-- Those who live, by whether a query finds them. -/
structure QW (S : WS) : Prop where
  ok : S.ix.Ok
  set : ∀ e ∈ S.ix.liveL, u32B (S.setOf e)
section
variable {S : WS}
theorem match_all (h : QW S) {e : Int} (he : e ∈ S.ix.liveL) (a : Int) : matchB a 0 (S.setOf e) = within a (S.setOf e) := by
  unfold matchB
  rw [meets_zero (h.set e he)]; simp
theorem match_none (h : QW S) {e : Int} (he : e ∈ S.ix.liveL) (a : Int) : matchB 0 a (S.setOf e) = !meets a (S.setOf e) := by
  unfold matchB
  rw [within_zero (h.set e he)]; simp
theorem apart (h : QW S) {id : Int} (hn : oneQ id ≠ 0) {e : Int} (h2 : e ∈ S.matchL 0 (oneQ id)) : e ∉ S.matchL (oneQ id) 0 := fun h1 => by
  obtain ⟨he, h2⟩ := List.mem_filter.1 h2
  obtain ⟨_, h1⟩ := List.mem_filter.1 h1
  rw [match_none h he] at h2
  rw [match_all h he, one_same hn (h.set e he)] at h1
  rw [h1] at h2
  cases h2
end
end Go.Proofs.YtgebbmfoamkfnaaGreatDoor
namespace Go.Proofs.YtgebbmfoamkfnaaGreatDoor
open Go.RowKit
set_option linter.unusedVariables false
section
variable {w w' : World}
theorem isWithin_any (x lo hi : Int) (w : World) : Calls Tryz.prog 80 #[.int .i64 x, .int .i64 lo, .int .i64 hi] w fun e w' => e = .returned (.bool (decide (lo ≤ x ∧ x ≤ hi))) ∧ w = w' := by
 by_cases h1 : lo ≤ x
 ·by_cases h2 : x ≤ hi
  ·have h3 : decide (lo ≤ x ∧ x ≤ hi) = true := by simp [h1, h2]
   rw [h3]
   go_enter Tryz.func80, Tryz.ntmps80
   go_wp2_with fail
   go_ret
   exact ⟨rfl, rfl⟩
  ·have h3 : decide (lo ≤ x ∧ x ≤ hi) = false := by simp [h2]
   rw [h3]
   go_enter Tryz.func80, Tryz.ntmps80
   go_wp2_with fail
   go_ret
   exact ⟨rfl, rfl⟩
 ·have h3 : decide (lo ≤ x ∧ x ≤ hi) = false := by simp [h1]
  rw [h3]
  go_enter Tryz.func80, Tryz.ntmps80
  go_wp2_with fail
  go_ret
  exact ⟨rfl, rfl⟩
set_option maxRecDepth 100000 in
set_option maxHeartbeats 1000000 in
theorem checkCaps_ok (c : CapsD) (h : CapsOk c) (w : World) : Calls Tryz.prog 43 #[.agg #[.int .i64 c.ents, .int .i64 c.rows, .int .i64 c.archs, .int .i64 c.cmds, .int .i64 c.fuel, .int .i64 c.gens]] w fun e w' => e = .returned (.int .i64 0) ∧ Below w.heap.size w w' := by
 obtain ⟨a1, a2, a3, a4, a5, a6, hcc⟩ : ∃ a1 a2 a3 a4 a5 a6, c = ⟨a1, a2, a3, a4, a5, a6⟩ := ⟨_, _, _, _, _, _, rfl⟩
 subst hcc
 have k1 := fun (W : World) => isWithin_any a1 1 256 W
 have k2 := fun (W : World) => isWithin_any a2 1 256 W
 have k3 := fun (W : World) => isWithin_any a3 1 64 W
 have k4 := fun (W : World) => isWithin_any a4 0 64 W
 have k5 := fun (W : World) => isWithin_any a5 0 4096 W
 have k6 := fun (W : World) => isWithin_any a6 1 65535 W
 rw [decide_eq_true h.ents] at k1
 rw [decide_eq_true h.rows] at k2
 rw [decide_eq_true h.archs] at k3
 rw [decide_eq_true h.cmds] at k4
 rw [decide_eq_true h.fuel] at k5
 rw [decide_eq_true h.gens] at k6
 have K1 := Lib.hid k1
 have K2 := Lib.hid k2
 have K3 := Lib.hid k3
 have K4 := Lib.hid k4
 have K5 := Lib.hid k5
 have K6 := Lib.hid k6
 clear k1 k2 k3 k4 k5 k6 h
 go_enter Tryz.func43, Tryz.ntmps43
 go_wp2_with fail
 refine (K1.out _).mono ?_
 rintro e w1 ⟨rfl, rfl⟩
 go_wp2_with fail
 refine (K2.out _).mono ?_
 rintro e w1 ⟨rfl, rfl⟩
 go_wp2_with fail
 refine (K3.out _).mono ?_
 rintro e w1 ⟨rfl, rfl⟩
 go_wp2_with fail
 refine (K4.out _).mono ?_
 rintro e w1 ⟨rfl, rfl⟩
 go_wp2_with fail
 refine (K5.out _).mono ?_
 rintro e w1 ⟨rfl, rfl⟩
 go_wp2_with fail
 refine (K6.out _).mono ?_
 rintro e w1 ⟨rfl, rfl⟩
 go_wp2_with fail
 go_ret
 exact ⟨rfl, by go_grown⟩
end
end Go.Proofs.YtgebbmfoamkfnaaGreatDoor
