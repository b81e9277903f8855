/- A world's Spawn. · A world's Get; a component of a row. · A world's Set. · A world's Add: what it does. · slices.DeleteFunc with Remove's closure, where one part goes. · slices.DeleteFunc with the closure of query.Rows. -/
import Derived.Test.YtgebbmfoamkfnaaGreatDoorT36
import Derived.Deep.RegionHeld3
import Derived.Deep.AppendLies
import Derived.Laws.OwnMore
import Derived.Laws.IdiomCopy
import Derived.Test.YtgebbmfoamkfnaaGreatDoorT32
namespace Go.Proofs.YtgebbmfoamkfnaaGreatDoor
open Go.RowKit
set_option linter.unusedVariables false
section
variable {w w' w1 : World} {d : WD} {L L' : List Int} {N n : Nat} {pa : Option Addr} {pl pc : Nat} {ps : List PW}
theorem WRaw.rowAdd (h : WRaw w d n) (hn : n < 1000000) {i : Nat} {t t' : TD} {v : List (List (List WI))} {row : List (List WI)} {e : Int} (hi : d.T[i]? = some t) (hv : d.V[i]? = some v) (hpl : d.pl e = none) (h0 : 0 ≤ e) (h1 : e < 18446744073709551616) (hd : TDeed 0 t t' w w1) (e1 : t'.ents = t.ents ++ [e]) (e2 : t'.kept = t.kept) (hV' : Vals t' (v ++ [row])) :
  w1.cell? ⟨d.wb, 8, none⟩ = some (.map (some d.ab)) ∧ ∃ w2, (Instr.mapUpdate 109 (.map (some d.ab)) (.int .u64 e) (.agg #[.int .i64 (i : Int), .int .i64 (t.ents.length : Int)])).run Tryz.prog w1 = .ok () w2 ∧ ∃ d', WRaw w2 d' (n + 1) ∧ WFr d d' w w2 ∧ d'.P = d.P.add i (PTof t v) e row ∧ d'.x = d.x ∧ d'.caps = d.caps ∧ d'.g = d.g ∧ d'.wb = d.wb := by
 obtain ⟨k1, k2⟩ := h.tdeed hi hd hV'
 obtain ⟨_, _, c8⟩ := k1.cells
 obtain ⟨w2, hput, hr, hf⟩ := putRun k1 hn e h0 h1 ⟨i, some t.ents.length⟩
 have hne : (WD.pl { d with T := d.T.set i t', V := d.V.set i (v ++ [row]) } e).isSome = false := by show (d.pl e).isSome = false; rw [hpl]; rfl
 rw [hne] at hr
 refine ⟨c8, w2, hput, _, hr, k2.trans hf, ?_, rfl, rfl, rfl, rfl⟩
 ·show (⟨List.zipWith PTof (d.T.set i t') (d.V.set i (v ++ [row])), updP d.pl e _⟩ : PS) = ⟨d.P.tabs.set i _, updP d.pl e _⟩
  rw [zip_set]
  unfold PTof
  rw [hd.set, e1, e2]; rfl
theorem WMid.xgo (h : WMid w d L N) {x' : XD} (hx : XIn w1 x') (hs : XStep d.x x' w w1) (hm : x'.ix.most = d.x.ix.most) (hl : x'.ix.gens.length = d.x.ix.gens.length) : WMid w1 { d with x := x' } L N ∧ WFr d { d with x := x' } w w1 := by
 obtain ⟨k1, k2⟩ := h.raw.xdeed hx hs.xb hs.out hs.foot
 exact ⟨⟨k1, h.ok, h.inv, h.nw, h.archs, h.rows, by show x'.ix.most = _; rw [hm]; exact h.gens, by show (x'.ix.gens.length : Int) = _; rw [hl]; exact h.ents, h.sch, h.caps, h.lbd⟩, k2⟩
theorem spawnS_eq {S : WS} {l : List (Int × List WI)} {id : Nat} (h : S.ix.next = some id) : S.spawnS l = { S with ix := S.ix.spawn id, sets := S.openS (setC l), who := updW S.who (hOf id (S.ix.gen id)) (some ⟨setC l, some (rowOfC l (setC l))⟩) } ∧ S.spawnH = hOf id (S.ix.gen id) := by
 unfold WS.spawnS WS.spawnH
 rw [h]; exact ⟨rfl, rfl⟩
set_option maxRecDepth 100000 in
set_option maxHeartbeats 4000000 in
theorem wSpawn_full (h : WIn w d N) (hp : PartsIn d w pa pl pc ps) (hc : cpC d.g.cs (cv ps) = 0) (hn : d.x.ix.next = none) : Calls Tryz.prog 17 #[.pointer (some ⟨d.wb, 0, none⟩), .slice pa pl pc] w (IsSpawn d (cv ps) N w) := by
 obtain ⟨c6, c7, _⟩ := h.raw.cells
 have hS : d.S.spawnE (cv ps) = 5 := by
  show (if cpC d.g.cs (cv ps) ≠ 0 then cpC d.g.cs (cv ps) else if d.x.ix.next = none then 5 else _) = _
  rw [hc, if_neg (by simp), if_pos hn]
 have hfr : d.x.fr = [] := by
  cases hf : d.x.fr with
  | nil => rfl
  | cons a r =>
   obtain ⟨id, hid, _⟩ := h.raw.ix.free.next (by rw [hf]; simp)
   rw [hn] at hid; cases hid
 have hck := chkParts h hp
 rw [hc] at hck
 have HCK := Lib.hid hck
 have HB6 := Lib.hid h.raw.blk
 have HX := Lib.hid (fun (W : World) (hb : Below w.heap.size w W) => xFree_any d.x W (h.below hb).raw.ix.toXMem)
 have HFR : Hid (d.x.fr.length = 0) := Lib.hid (by rw [hfr]; rfl)
 have HFIN := Lib.hid (fun (W : World) (hb : Below w.heap.size w W) => show IsSpawn d (cv ps) N w (.returned (.tuple #[.int .u64 0, .int .i64 5])) W from ⟨d, h.below hb, WFr.of_below hb, rfl, .inl ⟨by rw [hS]; decide, by rw [hS], rfl⟩⟩)
 clear h hp hS hck hc hn hfr
 go_enter Tryz.func17, Tryz.ntmps17
 go_wp2_with fail
 refine HCK.out.mono ?_
 rintro e w1 ⟨va, vc, rfl, hb, hcp⟩
 have HCP := Lib.hid hcp
 have HB := Lib.hid hb
 clear hcp hb
 go_wp2_with fail
 refine HCP.out.mono ?_
 rintro e w2 ⟨rfl, hb2⟩
 have HB2 := Lib.hid (HB.out.trans (hb2.mono HB.out.size))
 clear hb2 c6 c7
 have hk := keep HB2.out HB6.out
 have c6 := cell_at hk 6
 simp at c6
 clear hk
 go_wp2_with fail
 refine (HX.out _ HB2.out).mono ?_
 rintro e w3 ⟨rfl, rfl⟩
 rw [HFR.out]
 have HF := Lib.hid (HFIN.out w2 HB2.out)
 go_wp2_with fail
 go_ret2
 exact HF.out
set_option maxRecDepth 100000 in
set_option maxHeartbeats 8000000 in
theorem wSpawn_go (h : WIn w d N) (hp : PartsIn d w pa pl pc ps) (hc : cpC d.g.cs (cv ps) = 0) {id : Nat} (hn : d.x.ix.next = some id) : Calls Tryz.prog 17 #[.pointer (some ⟨d.wb, 0, none⟩), .slice pa pl pc] w (IsSpawn d (cv ps) N w) := by
 obtain ⟨c6, c7, c8⟩ := h.raw.cells
 have hpo : PartsOk d.g.cs ps := PartsOk.of h.sch (by rw [← cpC_cv]; exact hc)
 have hset : setC (cv ps) = foldS (comps ps) := setC_cv ps
 obtain ⟨s, hs⟩ : ∃ s, foldS (comps ps) = s := ⟨_, rfl⟩
 have hbd := foldS_bd (comps ps)
 rw [hs] at hset hbd
 have hS : d.S.spawnE (cv ps) = d.S.openE s := by
  show (if cpC d.g.cs (cv ps) ≠ 0 then cpC d.g.cs (cv ps) else if d.x.ix.next = none then 5 else d.S.openE (setC (cv ps))) = _
  rw [hc, if_neg (by simp), if_neg (by rw [hn]; simp), hset]
 have hfr : d.x.fr.length ≠ 0 := fun hf => by
  have := h.raw.ix.free
  rw [List.eq_nil_of_length_eq_zero hf] at this
  rw [this.next_none] at hn; cases hn
 have hck := chkParts h hp
 rw [hc] at hck
 have hsp := fun (W : World) (hb : Below w.heap.size w W) => sigParts_any ps pa pl pc W (hp.below hb).now hp.len
 rw [hpo.parts, hs] at hsp
 have HSP := Lib.hid hsp
 have HCK := Lib.hid hck
 have HB6 := Lib.hid h.raw.blk
 have HX := Lib.hid (fun (W : World) (hb : Below w.heap.size w W) => xFree_any d.x W (h.below hb).raw.ix.toXMem)
 have HROOM := Lib.hid (fun (W : World) (hb : Below w.heap.size w W) => wRoom_any (h.below hb) s hbd.1 hbd.2)
 obtain ⟨q, hq⟩ : ∃ q, d.x.fr.length = q := ⟨_, rfl⟩
 have e0 : ((q : Int) == 0) = false := by simp; omega
 rw [hq] at HX
 have H := Lib.hid h
 have HP := Lib.hid hp
 have HS := Lib.hid hS
 have HN := Lib.hid hn
 have HPO := Lib.hid hpo
 have HSET := Lib.hid hset
 have HFS := Lib.hid hs
 clear h hp hS hck hc hn hfr hq hsp hpo hset hs
 go_enter Tryz.func17, Tryz.ntmps17
 go_wp2_with fail
 refine HCK.out.mono ?_
 rintro e w1 ⟨va, vc, rfl, hb, hcp⟩
 have HCP := Lib.hid hcp
 have HB := Lib.hid hb
 clear hcp hb
 go_wp2_with fail
 refine HCP.out.mono ?_
 rintro e w2 ⟨rfl, hb2⟩
 have HB2 := Lib.hid (HB.out.trans (hb2.mono HB.out.size))
 clear hb2 c6 c7 c8
 have hk := keep HB2.out HB6.out
 have c6 := cell_at hk 6
 simp at c6
 clear hk
 go_wp2_with fail
 refine (HX.out _ HB2.out).mono ?_
 rintro e w3 ⟨rfl, rfl⟩
 go_wp2_with fail
 refine (HSP.out _ HB2.out).mono ?_
 rintro e w3 ⟨rfl, hb3⟩
 have HB3 := Lib.hid (HB2.out.trans (hb3.mono HB2.out.size))
 clear hb3 c6
 go_wp2_with fail
 refine (HROOM.out _ HB3.out).mono ?_
 rintro e w4 ⟨d1, hw1, hf1, hsm, hor⟩
 have hf01 := (WFr.of_below HB3.out).trans hf1
 rcases hor with ⟨ho, rfl, hT, hg, hP⟩ | ⟨ho, i, t, rfl, ht, hts, hfree, hsig, hPs⟩
 ·have HFIN : Hid (IsSpawn d (cv ps) N w (.returned (.tuple #[.int .u64 0, .int .i64 (d.S.openE s)])) w4) := Lib.hid ⟨d1, hw1, hf01, hsm.wb, .inl ⟨by rw [HS.out]; exact ho, by rw [HS.out], by
   unfold WD.S
   rw [hsm.x, hsm.caps, hg, hP]⟩⟩
  have hkn : (d.S.openE s != 0) = true := by simpa using ho
  clear ho hT hg hP hw1 hf1 hsm hf01
  go_wp2_with fail
  go_ret2
  exact HFIN.out
 ·have HO := Lib.hid ho
  have HPS := Lib.hid hPs
  have HSIG := Lib.hid hsig
  have HTS := Lib.hid hts
  have HFREE := Lib.hid hfree
  have HT := Lib.hid ht
  have HSM := Lib.hid hsm
  have HW1 := Lib.hid hw1
  have HF1 := Lib.hid hf01
  have hwb := hsm.wb
  have hx1 := hsm.x
  obtain ⟨c6, _, _⟩ := hw1.raw.cells
  rw [hwb, hx1] at c6
  have hspn := xSpawn_ok d1.x w4 hw1.raw.ix (id := id) (by rw [hx1]; exact HN.out)
  rw [hx1] at hspn
  have HSPN := Lib.hid hspn
  clear ho hPs hsig hts hfree ht hsm hw1 hf1 hf01 hwb hx1 hspn
  go_wp2_with fail
  refine HSPN.out.mono ?_
  rintro e w5 ⟨rfl, x', hxi, hxin, hxst⟩
  obtain ⟨E, hE⟩ : ∃ E, hOf (id : Int) (d.x.ix.gen id) = E := ⟨_, rfl⟩
  rw [hE]
  have hxok := H.out.raw.ix.ok
  obtain ⟨hok', hEn, hperm⟩ := hxok.spawn HN.out
  rw [hE] at hEn hperm
  have hEb := hok'.live_bd (hperm.mem_iff.2 List.mem_cons_self)
  have hxst' : XStep d1.x x' w4 w5 := by rw [HSM.out.x]; exact hxst
  have hmost : x'.ix.most = d1.x.ix.most := by rw [hxi, HSM.out.x]; rfl
  have hgl : x'.ix.gens.length = d1.x.ix.gens.length := by rw [hxi, HSM.out.x]; rfl
  obtain ⟨hm2, hf2⟩ := WMid.xgo HW1.out hxin hxst' hmost hgl
  rw [show d1.x.ix.liveL = d.x.ix.liveL by rw [HSM.out.x]] at hm2
  obtain ⟨_, c7, _⟩ := hm2.raw.cells
  replace c7 : w5.cell? ⟨d.wb, 7, none⟩ = some (.pointer (some ⟨d1.gb, 0, none⟩)) := by rw [← HSM.out.wb]; exact c7
  have htab := table_any 0 d1.gb d1.g (i : Int) w5 hm2.raw.gr
  rw [show tabPtr d1.g i = some ⟨t.tb, 0, none⟩ from hm2.ptr HT.out] at htab
  obtain ⟨v, hv, hV, hpt⟩ := hm2.tabv HT.out
  have htin := hm2.tab HT.out
  obtain ⟨hmost2, hlike⟩ := hm2.like HT.out
  have hlike : (idsTo t.set 24).map (findC · d.g.cs) = t.cs.map some := by rw [← HSM.out.cs]; exact hlike
  have htset : t.set = foldS (comps ps) := HTS.out.trans HFS.out.symm
  have haddE := HPO.out.addErr (e := E) htset hlike (by omega) HFREE.out
  have hf02 := HF1.out.trans hf2
  have hpin := HP.out.go hf02
  have hfit := HPO.out.hfit htin htset hlike hpin.wf
  have hadd := tabAdd_deed htin hV E ps pa pl pc (fun w' ho => hpin.at_ w' (ho.mono (fun b hb => .inl (.inr (.inr (.inr (.inr ⟨t, List.mem_of_getElem? HT.out, TabIn.cfoot_foot hb⟩))))))) hpin.len haddE hfit
  have hpl1 : d1.pl E = none := hm2.ok.noPl hEn
  have HTAB := Lib.hid htab
  have HADD := Lib.hid hadd
  have HM2 := Lib.hid hm2
  have HF2 := Lib.hid hf02
  have HV := Lib.hid hv
  have HPT := Lib.hid hpt
  have HXI := Lib.hid hxi
  have HPERM := Lib.hid hperm
  have HEN := Lib.hid hEn
  have HPL1 := Lib.hid hpl1
  have HROW := Lib.hid (addRow_vals htin.ids ps)
  have HE := Lib.hid hE
  have hE0 : 0 ≤ E := by omega
  have hE1 : E < 18446744073709551616 := by omega
  have HLB := Lib.hid (show x'.ix.liveL.length ≤ 257 by rw [hxi]; have := hok'.liveL_len; have := hok'.n2; omega)
  have HLN : Hid (d.x.ix.liveL.length < 300) := Lib.hid (by have := H.out.lbd; omega)
  clear hE hxi hxin hxst hxok hok' hEn hperm hEb hxst' hmost hgl hm2 hf2 htab hv hV hpt htin hmost2 hlike htset haddE hf02 hpin hfit hadd hpl1 HSPN c6
  go_wp2_with fail
  refine HTAB.out.mono ?_
  rintro e w6 ⟨rfl, rfl⟩
  go_wp2_with fail
  refine HADD.out.mono ?_
  rintro e w6 ⟨rfl, t', hd, e1, e2, e3, hV'⟩
  obtain ⟨c8, w7, hput, d4, hr4, hf4, hP4, hx4, hc4, hg4, hwb4⟩ := HM2.out.raw.rowAdd (by have := HLN.out; omega) HT.out HV.out HPL1.out hE0 hE1 hd e1 e2 hV'
  replace c8 : w6.cell? ⟨d.wb, 8, none⟩ = some (.map (some d1.ab)) := by rw [← HSM.out.wb]; exact c8
  replace hput : (Instr.mapUpdate 109 (.map (some d1.ab)) (.int .u64 E) (.agg #[.int .i64 (i : Int), .int .i64 (t.ents.length : Int)])).run Tryz.prog w6 = .ok () w7 := hput
  have hPok : d4.P.Ok x'.ix.liveL := by
   rw [hP4]
   refine PS.Ok.add HM2.out.ok HPT.out HEN.out ?_ _
   rw [HXI.out]; exact HPERM.out
  have hwho : d4.P.who = updW d.P.who E (some ⟨t.set, some (addRow ps t)⟩) := by
   refine updW_fun fun y => ?_
   rw [hP4]
   have h1 := PS.Ok.add_who HM2.out.ok HPT.out (e := E) (addRow ps t) y
   rw [h1]
   have h2 : d1.P.who y = d.P.who y := by
    rcases HPS.out with hh | ⟨_, hh⟩
    ·rw [hh]
    ·rw [hh]; exact H.out.ok.snoc_who s y
   split
   ·rfl
   ·exact h2
  have HFIN : Hid (IsSpawn d (cv ps) N w (.returned (.tuple #[.int .u64 E, .int .i64 0])) w7) := Lib.hid (by
   obtain ⟨q1, q2⟩ := spawnS_eq (S := d.S) (l := cv ps) (id := id) HN.out
   refine ⟨d4, ?_, HF2.out.trans hf4, hwb4.trans HSM.out.wb, .inr ⟨by rw [HS.out]; exact HO.out, by rw [q2]; exact congrArg (fun z => Ending.returned (.tuple #[.int .u64 z, .int .i64 0])) HE.out.symm, ?_⟩⟩
   ·have hlv : d4.x.ix.liveL = x'.ix.liveL := by rw [hx4]
    have hll : x'.ix.liveL.length = d.x.ix.liveL.length + 1 := by rw [HXI.out, HPERM.out.length_eq]; rfl
    unfold WIn
    rw [hlv]
    exact HM2.out.fin (by rw [hll]; exact hr4) hPok hg4 hx4 hc4 HLB.out
   ·rw [q1]
    have ew : (some ⟨t.set, some (addRow ps t)⟩ : Option Who) = some ⟨setC (cv ps), some (rowOfC (cv ps) (setC (cv ps)))⟩ := by rw [HROW.out, valsOf_cv, HTS.out, HSET.out]
    show WS.mk d4.caps d4.g.ver d4.g.cs d4.x.ix d4.g.sigs d4.P.who = _
    rw [hc4, hg4, hx4, hwho, ew]
    show WS.mk d1.caps d1.g.ver d1.g.cs x'.ix d1.g.sigs _ = _
    rw [HSM.out.caps, HSM.out.ver, HSM.out.cs, HXI.out, HSIG.out, ← HE.out, HSET.out]
    rfl)
  clear hd e1 e2 e3 hV' hr4 hf4 hP4 hx4 hc4 hg4 hwb4 hPok hwho
  go_wp2_with fail
  go_ret2
  exact HFIN.out
theorem wSpawn_any (h : WIn w d N) (hp : PartsIn d w pa pl pc ps) : Calls Tryz.prog 17 #[.pointer (some ⟨d.wb, 0, none⟩), .slice pa pl pc] w (IsSpawn d (cv ps) N w) := by
 by_cases hc : cpC d.g.cs (cv ps) = 0
 ·cases hn : d.x.ix.next with
  | none => exact wSpawn_full h hp hc hn
  | some id => exact wSpawn_go h hp hc hn
 ·exact wSpawn_parts h hp hc
end
end Go.Proofs.YtgebbmfoamkfnaaGreatDoor
namespace Go.Proofs.YtgebbmfoamkfnaaGreatDoor
open Go.RowKit
set_option linter.unusedVariables false
section
variable {w w' : World} {d : WD} {L : List Int} {N n : Nat}
theorem putC_other {l : List Int} {m : List (List WI)} {c : Int} {v : List WI} (h : c ∉ l) : putC (l.zip m) (c, v) = l.zip m := by
 unfold putC
 refine Eq.trans (List.map_congr_left fun q hq => ?_) (List.map_id _)
 obtain ⟨a, b⟩ := q
 rw [if_neg (fun e => h (by have hh := (List.of_mem_zip hq).1; have e' : a = c := e; rwa [e'] at hh))]
 rfl
theorem putC_idx : ∀ {ids : List Int}, ids.Nodup → ∀ {r : List (List WI)} {i : Nat} {c : Int} (v : List WI), r.length = ids.length → ids[i]? = some c → putC (ids.zip r) (c, v) = ids.zip (r.set i v)
 | [], _, _, _, _, _, _, h => by simp at h
 | x :: l, hn, [], _, _, _, h, _ => by simp at h
 | x :: l, hn, u :: m, 0, c, v, h1, h2 => by
  simp at h2
  subst h2
  rw [List.nodup_cons] at hn
  have hh := putC_other (m := m) (v := v) hn.1
  rw [List.zip_cons_cons, List.set_cons_zero, List.zip_cons_cons]
  unfold putC at hh ⊢
  rw [List.map_cons, hh]
  simp
 | x :: l, hn, u :: m, i + 1, c, v, h1, h2 => by
  rw [List.nodup_cons] at hn
  have h2' : l[i]? = some c := by simpa using h2
  have hne : ¬ x = c := fun e => hn.1 (e ▸ List.mem_of_getElem? h2')
  have hh := putC_idx hn.2 v (show m.length = l.length by simpa using h1) h2'
  rw [List.zip_cons_cons, List.set_cons_succ, List.zip_cons_cons]
  unfold putC at hh ⊢
  rw [List.map_cons, hh]
  simp [hne]
theorem setRow {s : Int} {r : List (List WI)} {i : Nat} {c : Int} (v : List WI) (h : r.length = (idsTo s 24).length) (hi : (idsTo s 24)[i]? = some c) : rowOfC (putC (cvOf s r) (c, v)) s = r.set i v := by
 unfold cvOf
 rw [putC_idx (idsTo_nodup _ _) v h hi]
 exact row_back (by simpa using h)
end
end Go.Proofs.YtgebbmfoamkfnaaGreatDoor
namespace Go.Proofs.YtgebbmfoamkfnaaGreatDoor
open Go.RowKit
set_option linter.unusedVariables false
section
variable {w w' : World} {d : WD} {L : List Int} {N n : Nat} {va : Option Addr} {vl vc : Nat} {v : List WI}
def IntIn (d : WD) (w : World) (va : Option Addr) (vl vc : Nat) (v : List WI) : Prop := ∀ w', Out d.foot w w' → IntsAt w'.heap.size w' va vl vc v
theorem IntIn.now (h : IntIn d w va vl vc v) : IntsAt w.heap.size w va vl vc v := h w (Out.refl _ _)
theorem IntIn.go {d d' : WD} (h : IntIn d w va vl vc v) (hf : WFr d d' w w') : IntIn d' w' va vl vc v := fun w2 ho => h w2 (hf.out.trans ho hf.foot)
theorem IntIn.below (h : IntIn d w va vl vc v) (hb : Below w.heap.size w w') : IntIn d w' va vl vc v := h.go (WFr.of_below hb)
end
end Go.Proofs.YtgebbmfoamkfnaaGreatDoor
namespace Go.Proofs.YtgebbmfoamkfnaaGreatDoor
open Go.RowKit
set_option linter.unusedVariables false
theorem comps_cv (ps : List PW) : comps ps = (cv ps).map (·.1) := by unfold comps cv; rw [List.map_map]; rfl
theorem PartsOk.cv {cs : List Cmp} {ps : List PW} (nd : ((cv ps).map (·.1)).Nodup) (fit : ∀ q ∈ cv ps, fC cs q = 0) (ids : ((cv ps).map (·.1)).all idB = true) : PartsOk cs ps :=
 ⟨by rw [comps_cv]; exact nd, fun p hp => fit (p.comp, p.val) (List.mem_map.2 ⟨p, hp, rfl⟩), by rw [comps_cv]; exact ids⟩
theorem cvOf_ids {s : Int} {r : List (List WI)} (h : r.length = (idsTo s 24).length) : (cvOf s r).map (·.1) = idsTo s 24 := by
 unfold cvOf
 exact List.map_fst_zip (by omega)
section
variable {w w' : World} {d : WD} {L : List Int} {N n : Nat} {va : Option Addr} {vl vc : Nat} {v : List WI}
theorem WMid.fits (h : WMid w d L N) {e : Int} {i r : Nat} (hp : d.pl e = some ⟨i, some r⟩) {t : TD} (ht : d.T[i]? = some t) {row : List (List WI)} (hw : d.P.who e = some ⟨t.set, some row⟩) : row.length = (idsTo t.set 24).length ∧ ∀ q ∈ cvOf t.set row, fC d.g.cs q = 0 := by
 obtain ⟨V, row', hv, hvr, hV, hrl, _, hw', hrow⟩ := WMid.who_row h hp ht
 rw [hw] at hw'
 cases hw'
 have hT := WMid.tab h ht
 have hlen : row.length = (idsTo t.set 24).length := by rw [hrow, ← hT.ids, List.length_map]
 refine ⟨hlen, fun q hq => ?_⟩
 obtain ⟨j, hj⟩ := List.mem_iff_getElem?.1 hq
 unfold cvOf at hj
 obtain ⟨c, u⟩ := q
 rw [List.getElem?_zip_eq_some] at hj
 obtain ⟨j1, j2⟩ := hj
 have j1 : (idsTo t.set 24)[j]? = some c := j1
 have j2 : row[j]? = some u := j2
 have hjl : j < t.cps.length := by rw [← hrow]; exact (List.getElem?_eq_some_iff.1 j2).1
 have hx : t.cps[j]? = some t.cps[j] := List.getElem?_eq_getElem hjl
 have hd : t.cols[j]? = some (t.cols[j]'(by rw [hT.len]; exact hjl)) := List.getElem?_eq_getElem _
 obtain ⟨_, hfit, _⟩ := hV.at_ r j row u _ _ hvr j2 hx hd
 obtain ⟨_, hlike⟩ := WMid.like h ht
 have hfc : findC c d.g.cs = some t.cps[j].c := by
  have hh := congrArg (·[j]?) hlike
  simp only [List.getElem?_map, j1] at hh
  have hcx : t.cs[j]? = some t.cps[j].c := by unfold TD.cs; rw [List.getElem?_map, hx]; rfl
  rw [hcx] at hh
  simpa using hh
 show cpF d.g.cs (pwOf (c, u)) = 0
 unfold cpF pwOf
 rw [hfc]
 exact hfit
theorem WMid.added (h : WMid w d L N) {e : Int} {i r : Nat} (hp : d.pl e = some ⟨i, some r⟩) {t : TD} (ht : d.T[i]? = some t) {row : List (List WI)} (hw : d.P.who e = some ⟨t.set, some row⟩) (hs : sIs t.set = true) {c : Int} (hk : fC d.g.cs (c, v) = 0) (hbt : hasB t.set c = false) {ps : List PW} (hps : cv ps = cvOf t.set row ++ [(c, v)]) : PartsOk d.g.cs ps ∧ foldS (comps ps) = sWith t.set c := by
 obtain ⟨hlen, hfit⟩ := h.fits hp ht hw
 obtain ⟨cm, hcm, _⟩ := cpF_find (show cpF d.g.cs (pwOf (c, v)) = 0 from hk)
 have hid : idB c = true := h.inv.ids c (by rw [show (pwOf (c, v)).comp = c from rfl] at hcm; rw [hcm]; rfl)
 have hbd := WMid.bd h ht
 have hids : (cv ps).map (·.1) = idsTo t.set 24 ++ [c] := by rw [hps, List.map_append, cvOf_ids hlen]; rfl
 have hni : c ∉ idsTo t.set 24 := fun hm => by rw [mem_ids, hbt] at hm; cases hm
 have hall : (idsTo t.set 24 ++ [c]).all idB = true := by rw [List.all_append, ids_all]; simp [hid]
 refine ⟨PartsOk.cv ?_ ?_ ?_, ?_⟩
 ·rw [hids, List.nodup_append]
  refine ⟨idsTo_nodup _ _, by simp, fun a ha b hb => ?_⟩
  obtain rfl : b = c := by simpa using hb
  exact fun e => hni (e ▸ ha)
 ·intro q hq
  rw [hps] at hq
  rcases List.mem_append.1 hq with hq | hq
  ·exact hfit q hq
  ·obtain rfl : q = (c, v) := by simpa using hq
   exact hk
 ·rw [hids]; exact hall
 ·rw [comps_cv, hids]
  have hwb := sWith_bd (n := c) hbd.1 hbd.2
  refine fold_of hwb.1 hwb.2 (sIs_with hbd.1 hbd.2 hid hs) hall fun n hn => ?_
  rw [has_with hbd.1 hbd.2 hid hn, List.mem_append, mem_ids]
  simp
  exact or_comm
end
end Go.Proofs.YtgebbmfoamkfnaaGreatDoor
namespace Go.Proofs.YtgebbmfoamkfnaaGreatDoor
open Go.RowKit
set_option linter.unusedVariables false
theorem Tryz.zeroPart (w : World) : (zeroValue 85).run Tryz.prog w = .ok (.agg #[.int .i64 0, .slice none 0 0]) w := by kernel_rfl
theorem flatP_len (l : List PW) : (l.flatMap partL).length = l.length * 2 := by
  induction l with
  | nil => rfl
  | cons x r ih => rw [List.flatMap_cons, List.length_append, ih, List.length_cons]; show 2 + r.length * 2 = _; omega
theorem flatP_set : ∀ (l : List PW) (i : Nat) (x : PW), ((l.flatMap partL).set (i * 2) (.int .i64 x.comp)).set (i * 2 + 1) (.slice x.va x.vl x.vc) = (l.set i x).flatMap partL
  | [], i, x => rfl
  | y :: r, 0, x => rfl
  | y :: r, i + 1, x => by
    have hh := flatP_set r i x
    rw [show (i + 1) * 2 = i * 2 + 1 + 1 by omega, List.flatMap_cons, List.set_cons_succ, List.flatMap_cons, ← hh]
    rfl
theorem flatP_take (l : List PW) (m : Nat) : (l.flatMap partL).take (m * 2) = (l.take m).flatMap partL := by
  induction l generalizing m with
  | nil => simp
  | cons x r ih =>
    cases m with
    | zero => simp
    | succ m =>
      rw [show (m + 1) * 2 = m * 2 + 1 + 1 by omega, List.flatMap_cons, List.take_succ_cons, List.flatMap_cons, ← ih m]
      rfl
section
variable {w w' : World}
theorem ownsRow_cut {b s : Nat} {e : TypeId} {q n c m : Nat} {xs : List Value} (h : w.ownsRow b e s (.slice (some ⟨q, 0, none⟩) n c) n xs) (hm : m ≤ n) : w.ownsRow b e s (.slice (some ⟨q, 0, none⟩) m c) m (xs.take (m * s)) := by
  have hmn : m * s ≤ n * s := Nat.mul_le_mul_right s hm
  refine ⟨by rw [List.length_take, h.1]; omega, ?_⟩
  rcases h.2 with ⟨hv, _⟩ | ⟨g, cap, cur, hv, hg, hh, hc1, hc2, hc3, hc4⟩
  · cases hv
  · cases hv
    exact .inr ⟨q, c, cur, rfl, hg, hh, by omega, hc2, hc3, by rw [← hc4, List.take_take, Nat.min_eq_left hmn]⟩
end
end Go.Proofs.YtgebbmfoamkfnaaGreatDoor
namespace Go.Proofs.YtgebbmfoamkfnaaGreatDoor
open Go.RowKit
set_option linter.unusedVariables false
def rqClo (b : Nat) : Value := .func (.func 59) #[] #[.pointer (some ⟨b, 0, none⟩)]
section
variable {w w' : World}
set_option maxRecDepth 100000 in
theorem rqClo_any (b : Nat) (al : Int) (w : World) (al0 : 0 ≤ al) (al1 : al ≤ 4294967295) (hb : w.cell? ⟨b, 0, none⟩ = some (.int .u32 al)) (x : Int) (va : Option Addr) (vl vc : Nat) : Calls Tryz.prog 59 #[.agg #[.int .i64 x, .slice va vl vc], .pointer (some ⟨b, 0, none⟩)] w fun e w' => e = .returned (.bool (!hasB al x)) ∧ Below w.heap.size w w' := by
 have hn := World.new_ne w _ hb
 have hlt := World.block_lt_of_cell? w _ hb
 have HH := fun W => has_any al x W al0 al1
 obtain ⟨r, hr⟩ : ∃ r, hasB al x = r := ⟨_, rfl⟩
 simp only [hr] at HH ⊢
 go_enter Tryz.func59, Tryz.ntmps59
 go_wp2_with fail
 refine (HH _).mono ?_
 rintro e w2 ⟨rfl, rfl⟩
 go_wp2_with fail
 go_ret
 exact ⟨rfl, by go_grown⟩
set_option maxRecDepth 100000 in
set_option maxHeartbeats 1000000 in
theorem idxQ_any (b : Nat) (al : Int) (al0 : 0 ≤ al) (al1 : al ≤ 4294967295) (pa : Option Addr) (n pc : Nat) (ps : List PW) (w : World) (hcs : PartsAt w.heap.size w pa n pc ps) (hb : w.cell? ⟨b, 0, none⟩ = some (.int .u32 al)) (hn : n ≤ 100000) :
  Calls Tryz.prog 98 #[.slice pa n pc, rqClo b] w fun e w' => Below w.heap.size w w' ∧ ((e = .returned (.int .i64 (-1)) ∧ ∀ p ∈ ps, hasB al p.comp = true) ∨ ∃ (k : Nat) (p : PW), e = .returned (.int .i64 (k : Int)) ∧ ps[k]? = some p ∧ hasB al p.comp = false ∧ ∀ q ∈ ps.take k, hasB al q.comp = true) := by
 obtain ⟨h1, h2, h3, _, h5⟩ := hcs
 have hlt := World.block_lt_of_cell? w _ hb
 have HH := Lib.hid h5
 have HB := Lib.hid hb
 have HL := Lib.hid h1
 clear h1 h5 hb
 unfold rqClo
 go_enter Tryz.func98, Tryz.ntmps98
 go_wp2_with fail
 go_loopw [8] (fun j wr => ∃ m : Nat, m ≤ n ∧ j = .int .i64 (m : Int) ∧ (∀ q ∈ ps.take m, hasB al q.comp = true) ∧ Below w.heap.size w wr) (fun j _ => n - (intOf j).toNat)
 case atStart => exact ⟨0, by omega, rfl, by simp, Below.refl _ _⟩
 case round =>
  obtain ⟨m, hm, rfl, hall, hbr⟩ := hrel
  by_cases hml : m < n
  ·rcases HH.out with h0 | ⟨q, off, rfl, hq, hcell⟩
   ·omega
   obtain ⟨x, hx⟩ : ∃ x, ps[m]? = some x := ⟨_, List.getElem?_eq_getElem (by rw [HL.out]; exact hml)⟩
   obtain ⟨z0, z1⟩ := hcell m x hx
   have y0 := (World.cell?_of_block (a := ⟨q, off + m * 2, none⟩) (hbr.block _ hq)).trans z0
   have y1 := (World.cell?_of_block (a := ⟨q, off + m * 2 + 1, none⟩) (hbr.block _ hq)).trans z1
   have i1 : (0 : Int) ≤ (m : Int) := by omega
   have i2 : (m : Int) < (n : Int) := by omega
   have HBR := Lib.hid hbr
   have HALL := Lib.hid hall
   have HX := Lib.hid hx
   have HTK := Lib.hid (take_snoc hx)
   have HCL := Lib.hid (rqClo_any b al wr al0 al1 ((World.cell?_of_block (a := ⟨b, 0, none⟩) (hbr.block _ hlt)).trans HB.out) x.comp x.va x.vl x.vc)
   obtain ⟨r, hr⟩ : ∃ r, hasB al x.comp = r := ⟨_, rfl⟩
   rw [hr] at HCL
   have HR := Lib.hid hr
   clear z0 z1 hx hbr hcell hr hall
   cases r
   ·go_wp2_with fail
    refine HCL.out.mono ?_
    rintro e w2 ⟨rfl, hb2⟩
    have HF2 := Lib.hid (HBR.out.trans (hb2.mono HBR.out.size))
    clear hb2
    go_wp2_with fail
    go_ret
    exact ⟨HF2.out, .inr ⟨m, x, rfl, HX.out, HR.out, HALL.out⟩⟩
   ·go_wp2_with fail
    refine HCL.out.mono ?_
    rintro e w2 ⟨rfl, hb2⟩
    have HF2 := Lib.hid (HBR.out.trans (hb2.mono HBR.out.size))
    clear hb2
    go_wp2_with fail
    go_roundw
    case rel => exact ⟨m + 1, by omega, by go_num, by
     rw [HTK.out]
     intro q hq
     rcases List.mem_append.1 hq with hq | hq
     ·exact HALL.out q hq
     ·rw [List.mem_singleton.1 hq]; exact HR.out, HF2.out⟩
    case measure => simp [intOf]; omega
  ·obtain rfl : m = n := by omega
   have hfull : ps.take m = ps := by rw [← HL.out, List.take_length]
   rw [hfull] at hall
   have HALL := Lib.hid hall
   have HBR := Lib.hid hbr
   clear hall hbr hfull
   go_wp2_with fail
   go_ret
   exact ⟨HBR.out, .inl ⟨rfl, HALL.out⟩⟩
theorem owns_setCells {B q n c s : Nat} {e : TypeId} : ∀ (vs : List Value) (o : Nat) (xs : List Value) (w : World), w.ownsRow B e s (.slice (some ⟨q, 0, none⟩) n c) n xs → ∃ ys, (w.setCells q o vs).ownsRow B e s (.slice (some ⟨q, 0, none⟩) n c) n ys ∧ ys.take o = xs.take o ∧ Out (fun b => b = q) w (w.setCells q o vs)
 | [], o, xs, w, h => ⟨xs, h, rfl, Out.refl _ _⟩
 | v :: r, o, xs, w, h => by
  obtain ⟨h1, g1⟩ := h.stored o v
  obtain ⟨ys, h2, h3, h4⟩ := owns_setCells r (o + 1) _ _ h1
  refine ⟨ys, h2, ?_, (Out.only (F := fun b => b = q) (Only.at w q o v) rfl).trans h4 (fun _ => .inl)⟩
  have h5 := congrArg (List.take o) h3
  rw [List.take_take, List.take_take, Nat.min_eq_left (Nat.le_succ o)] at h5
  rw [h5]
  exact List.take_set_of_le (Nat.le_refl _)
def zpL (m : Nat) : List Value := (Builtin.zeroCells (Value.agg #[.int .i64 0, .slice none 0 0]).cells m).toList
theorem zpL_len (m : Nat) : (zpL m).length = m * 2 := by
 unfold zpL Builtin.zeroCells
 simp [Value.cells]
theorem zpL_one (m : Nat) : ∀ v ∈ zpL m, v.oneCell' = true := by
 intro v hv
 unfold zpL Builtin.zeroCells at hv
 simp [Value.cells] at hv
 obtain ⟨i, _, rfl⟩ := hv
 rcases (by omega : i % 2 = 0 ∨ i % 2 = 1) with h | h <;> simp [h] <;> rfl
theorem run_clearParts (q o m c : Nat) (hm : 0 < m) (W : World) (h : ∀ j, j < m * 2 → (W.cell? ⟨q, o + j, none⟩).isSome = true) (f : ∀ j, j < m * 2 → W.frozen? ⟨q, o + j, none⟩ = false) (ty : TypeId) :
  (Builtin.clear_ #[48] ty #[.slice (some ⟨q, o, none⟩) m c]).run Tryz.prog W = .ok (.tuple #[]) (W.setCells q o (zpL m)) := by
 have hst := run_storeCells_cells (P := Tryz.prog) q o (zpL m) 0 W (by rw [zpL_len]; simpa using h) (by rw [zpL_len]; simpa using f) (zpL_one m)
 simp only [Nat.add_zero] at hst
 obtain ⟨k, rfl⟩ : ∃ k, m = k + 1 := ⟨m - 1, by omega⟩
 have hz : (Builtin.zeroCells (Value.agg #[.int .i64 0, .slice none 0 0]).cells (k + 1)).toList = zpL (k + 1) := rfl
 simp [Builtin.clear_, run_underlying Tryz.underlying48, Tryz.zeroPart W, hz, hst]
def Moved (al : Int) (ps R : List PW) (i j : Nat) : Prop := R.length = ps.length ∧ i < j ∧ R.take i = (ps.take j).filter (fun p => hasB al p.comp) ∧ R.drop j = ps.drop j
theorem Moved.start {al : Int} {ps : List PW} {k : Nat} {p : PW} (hk : ps[k]? = some p) (hp : hasB al p.comp = false) (hall : ∀ q ∈ ps.take k, hasB al q.comp = true) : Moved al ps ps k (k + 1) := by
 refine ⟨rfl, Nat.lt_succ_self _, ?_, rfl⟩
 rw [take_snoc hk, List.filter_append, List.filter_eq_self.2 hall]
 simp [hp]
theorem Moved.at {al : Int} {ps R : List PW} {i j : Nat} {x : PW} (h : Moved al ps R i j) (hx : ps[j]? = some x) : R[j]? = some x := by
 have h1 := congrArg (·[0]?) h.2.2.2
 simp only [List.getElem?_drop, Nat.add_zero] at h1
 rw [h1, hx]
theorem Moved.skip {al : Int} {ps R : List PW} {i j : Nat} {x : PW} (h : Moved al ps R i j) (hx : ps[j]? = some x) (hn : hasB al x.comp = false) : Moved al ps R i (j + 1) := by
 refine ⟨h.1, Nat.lt_succ_of_lt h.2.1, ?_, ?_⟩
 ·rw [h.2.2.1, take_snoc hx, List.filter_append]
  simp [hn]
 ·have h1 := congrArg (List.drop 1) h.2.2.2
  rw [List.drop_drop, List.drop_drop] at h1
  exact h1
theorem Moved.move {al : Int} {ps R : List PW} {i j : Nat} {x : PW} (h : Moved al ps R i j) (hx : ps[j]? = some x) (hn : hasB al x.comp = true) : Moved al ps (R.set i x) (i + 1) (j + 1) := by
 have hj : j < ps.length := (List.getElem?_eq_some_iff.1 hx).1
 have hi : i < R.length := by rw [h.1]; have := h.2.1; omega
 refine ⟨by rw [List.length_set]; exact h.1, Nat.succ_lt_succ h.2.1, ?_, ?_⟩
 ·rw [take_snoc (x := x) (by rw [List.getElem?_set_self hi]), List.take_set_of_le (Nat.le_refl _), h.2.2.1, take_snoc hx, List.filter_append]
  simp [hn]
 ·rw [List.drop_set_of_lt (Nat.lt_succ_of_lt h.2.1)]
  have h1 := congrArg (List.drop 1) h.2.2.2
  rw [List.drop_drop, List.drop_drop] at h1
  exact h1
set_option maxRecDepth 100000 in
set_option maxHeartbeats 4000000 in
theorem delQ_any (B b : Nat) (al : Int) (al0 : 0 ≤ al) (al1 : al ≤ 4294967295) (pa : Option Addr) (n pc : Nat) (ps : List PW) (w : World) (hpo : PO B w pa n pc ps) (hbB : b < B) (hB : B ≤ w.heap.size) (hb : w.cell? ⟨b, 0, none⟩ = some (.int .u32 al)) (hn : n ≤ 100000) :
  Calls Tryz.prog 58 #[.slice pa n pc, rqClo b] w fun e w' => ∃ m, e = .returned (.slice pa m pc) ∧ PO B w' pa m pc (ps.filter fun p => hasB al p.comp) ∧ m ≤ n ∧ Below B w w' := by
 have hlen := hpo.len
 have HIX := Lib.hid (idxQ_any b al al0 al1 pa n pc ps w hpo.at hb hn)
 obtain ⟨hnc, hcm⟩ := own_max hpo.row
 have hmx : maxLen = 9223372036854775807 := rfl
 have HPO := Lib.hid hpo
 have HB := Lib.hid hb
 have HLN := Lib.hid hlen
 clear hpo hb hlen
 unfold rqClo at HIX ⊢
 go_enter Tryz.func58, Tryz.ntmps58
 go_wp2_with fail
 refine HIX.out.mono ?_
 rintro e w1 ⟨hb1, hor⟩
 have HB1x := Lib.hid hb1
 have HP1 := Lib.hid (HPO.out.below hb1)
 clear hb1 HIX
 rcases hor with ⟨rfl, hall⟩ | ⟨k, p, rfl, hk, hp, hall⟩
 ·have HALL := Lib.hid hall
  clear hall
  go_wp2_with fail
  go_ret
  refine ⟨n, rfl, ?_, Nat.le_refl _, HB1x.out.mono hB⟩
  rw [List.filter_eq_self.2 HALL.out]
  exact HP1.out
 have hkn : k < n := by rw [← HLN.out]; exact (List.getElem?_eq_some_iff.1 hk).1
 have HM := Lib.hid (Moved.start hk hp hall)
 obtain ⟨q, hpa, hBq, hql, _⟩ := row_block HPO.out.row (by omega)
 subst hpa
 have hk1 : ((k : Int) == -1) = false := by simp
 clear hk hp hall
 go_wp2_with fail
 go_loopw [5, 6] (fun i j wr => ∃ (m J : Nat) (R : List PW), Moved al ps R m J ∧ J ≤ n ∧ i = .int .i64 (m : Int) ∧ j = .int .i64 (J : Int) ∧ wr.ownsRow B 85 2 (.slice (some ⟨q, 0, none⟩) n pc) n (R.flatMap partL) ∧ Out (fun x => x = q) w wr) (fun _ j _ => n + 1 - (intOf j).toNat)
 case atStart => exact ⟨k, k + 1, ps, HM.out, hkn, by go_num, by go_num, HP1.out.row, Out.of HB1x.out⟩
 case round =>
  obtain ⟨m, J, R, hmv, hJn, rfl, rfl, hrow, hout⟩ := hrel
  have hmJ := hmv.2.1
  have hRl : R.length = n := by rw [hmv.1, HLN.out]
  have hBw := hout.below (B := B) (fun x hx => by rw [hx]; exact hBq) hB
  have hBr : B ≤ wr.heap.size := Nat.le_trans hB hout.size
  obtain ⟨q', hq', _, hqr, hqc⟩ := row_block hrow (by omega)
  obtain rfl : q = q' := by cases hq'; rfl
  clear hq'
  by_cases hJ : J < n
  ·obtain ⟨x, hx⟩ : ∃ x, ps[J]? = some x := ⟨_, List.getElem?_eq_getElem (by rw [HLN.out]; exact hJ)⟩
   obtain ⟨g0, g1⟩ := partL_at _ _ _ (hmv.at hx)
   have z0 := hqc _ _ g0
   have z1 := hqc _ _ g1
   obtain ⟨y, hy⟩ : ∃ y, R[m]? = some y := ⟨_, List.getElem?_eq_getElem (by omega)⟩
   have i1 : (0 : Int) ≤ (J : Int) := by omega
   have i2 : (J : Int) < (n : Int) := by omega
   have i3 : (0 : Int) ≤ (m : Int) := by omega
   have i4 : (m : Int) < (n : Int) := by omega
   have hbA : Below B wr (wr.alloc (.cells #[.int .i64 x.comp, .slice x.va x.vl x.vc] 85)) := (Below.refl _ wr).alloc hBr _
   have hcb : (wr.alloc (.cells #[.int .i64 x.comp, .slice x.va x.vl x.vc] 85)).cell? ⟨b, 0, none⟩ = some (.int .u32 al) := (World.cell?_of_block (a := ⟨b, 0, none⟩) ((hBw.trans hbA).block _ hbB)).trans HB.out
   have hcl := rqClo_any b al _ al0 al1 hcb x.comp x.va x.vl x.vc
   obtain ⟨r, hr⟩ : ∃ r, hasB al x.comp = r := ⟨_, rfl⟩
   rw [hr] at hcl
   have HR := Lib.hid hr
   have HX := Lib.hid hx
   have HMV := Lib.hid hmv
   have HCL := Lib.hid hcl
   have HROW := Lib.hid hrow
   have HOUT := Lib.hid hout
   have HY := Lib.hid (partL_at _ _ _ hy)
   have HNB := Lib.hid (heap_alloc_new wr (.cells #[.int .i64 x.comp, .slice x.va x.vl x.vc] 85))
   have hOA : Out (fun y => y = q) wr (wr.alloc (.cells #[.int .i64 x.comp, .slice x.va x.vl x.vc] 85)) := Out.of ((Below.refl _ wr).alloc (Nat.le_refl _) _)
   have HOA := Lib.hid hOA
   clear hr hx hmv hy g0 g1 hqc hbA hcb hcl hrow hout hBw hOA
   cases r
   ·go_wp2_with fail
    refine HCL.out.mono ?_
    rintro e w3 ⟨rfl, hb3⟩
    have HROW3 := Lib.hid (ownsRow_below (HROW.out.alloc (.cells #[.int .i64 x.comp, .slice x.va x.vl x.vc] 85)) hb3)
    have HO3 := Lib.hid ((HOUT.out.trans HOA.out (fun _ => .inl)).trans (Out.of (F := fun y => y = q) hb3) (fun _ => .inl))
    clear hb3 z0 z1
    go_wp2_with fail
    go_roundw
    case rel =>
     exact ⟨m, J + 1, R, HMV.out.skip HX.out HR.out, hJ, by go_num, by go_num, HROW3.out, HO3.out⟩
    case measure => simp [intOf]; omega
   ·go_wp2_with fail
    refine HCL.out.mono ?_
    rintro e w3 ⟨rfl, hb3⟩
    have hrow3 := ownsRow_below (HROW.out.alloc (.cells #[.int .i64 x.comp, .slice x.va x.vl x.vc] 85)) hb3
    obtain ⟨q', hq', _, hqr3, hqc3⟩ := row_block hrow3 (by omega)
    obtain rfl : q = q' := by cases hq'; rfl
    have t0 := hqc3 _ _ HY.out.1
    have t1 := hqc3 _ _ HY.out.2
    have f0 := hrow3.frozenAt (m * 2)
    have f1 := hrow3.frozenAt (m * 2 + 1)
    have hnb3 := keep hb3 HNB.out
    have v0 := cell_at hnb3 0
    have v1 := cell_at hnb3 1
    simp at v0 v1
    obtain ⟨s1, gr1⟩ := hrow3.stored (m * 2) (.int .i64 x.comp)
    obtain ⟨s2, gr2⟩ := s1.stored (m * 2 + 1) (.slice x.va x.vl x.vc)
    rw [flatP_set] at s2
    have hO3 := (HOUT.out.trans HOA.out (fun _ => .inl)).trans (Out.of (F := fun y => y = q) hb3) (fun _ => .inl)
    have HO3 := Lib.hid ((hO3.trans (Out.only (F := fun y => y = q) (Only.at _ q _ _) rfl) (fun _ => .inl)).trans (Out.only (F := fun y => y = q) (Only.at (w3.setCell ⟨q, m * 2, none⟩ (.int .i64 x.comp)) q (m * 2 + 1) (.slice x.va x.vl x.vc)) rfl) (fun _ => .inl))
    have HS2 := Lib.hid s2
    clear hb3 hrow3 hq' hqc3 hnb3 s1 gr1 s2 gr2 z0 z1 hO3
    go_wp2_with fail
    go_roundw
    case rel =>
     exact ⟨m + 1, J + 1, _, HMV.out.move HX.out HR.out, hJ, by go_num, by go_num, HS2.out, HO3.out⟩
    case measure => simp [intOf]; omega
  ·obtain rfl : J = n := by omega
   obtain ⟨m', hm'⟩ : ∃ m', J - m = m' := ⟨_, rfl⟩
   have hcl := run_clearParts q (m * 2) m' (pc - m) (by omega) wr (fun j hj => by
    obtain ⟨u, hu⟩ : ∃ u, (R.flatMap partL)[m * 2 + j]? = some u := ⟨_, List.getElem?_eq_getElem (by rw [flatP_len]; omega)⟩
    rw [hqc _ _ hu]; rfl) (fun j _ => hrow.frozenAt (m * 2 + j))
   have i3 : (0 : Int) ≤ (m : Int) := by omega
   have i4 : (m : Int) ≤ (J : Int) := by omega
   have i5 : (m : Int) ≤ (pc : Int) := by omega
   obtain ⟨ys, o1, o2, o3⟩ := owns_setCells (zpL m') (m * 2) _ _ hrow
   have s3 := ownsRow_cut o1 (show m ≤ J by omega)
   have hfl : R.take m = ps.filter fun p => hasB al p.comp := by
    rw [hmv.2.2.1, List.take_of_length_le (by rw [HLN.out]; exact Nat.le_refl _)]
   rw [o2, flatP_take, hfl] at s3
   have hO := hout.trans o3 (fun _ => .inl)
   have hfn : (ps.filter fun p => hasB al p.comp).length = m := by rw [← hfl, List.length_take]; omega
   have HFIN : Hid (PO B (wr.setCells q (m * 2) (zpL m')) (some ⟨q, 0, none⟩) m pc (ps.filter fun p => hasB al p.comp) ∧ m ≤ J ∧ Below B w (wr.setCells q (m * 2) (zpL m'))) := Lib.hid (by
    refine ⟨⟨s3, fun p' hp' => ?_, hfn⟩, by omega, hO.below (fun x hx => by rw [hx]; exact hBq) hB⟩
    have hv := HPO.out.vals p' ((List.mem_filter.1 hp').1)
    refine ⟨ownsRow_out hv.1 hO fun x hx hxq => ?_, hv.2⟩
    rcases ownsRow_ne hv.1 HPO.out.row (by decide) with h | h
    ·rw [h] at hx; cases hx
    ·exact h (by rw [hx, hxq]; rfl))
   clear hrow hout hqc hBw o1 o2 o3 s3 hO hfl hfn hmv
   generalize wr.setCells q (m * 2) (zpL m') = W9 at HFIN hcl
   go_wp2_with fail
   go_ret
   exact ⟨m, rfl, HFIN.out.1, HFIN.out.2.1, HFIN.out.2.2⟩
end
end Go.Proofs.YtgebbmfoamkfnaaGreatDoor
