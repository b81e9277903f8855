/- A world's Despawn. · What a deed does to all: plain. · A world's Get; a component of a row. · A world's Set. · A world's Add: what it does. · world.CheckCaps. · world.New: the walk. · A new world. · The worlds' laws: great schemas, rows of numbers, the schema of two. · A world's await: somebody whose values aren't there yet. -/
import Derived.Test.YtnhlnnehpmjeiaaGreatDoorP31
import Derived.Test.YtnhlnnehpmjeiaaGreatDoorP29
import Derived.Deep.RegionHeld3
import Derived.Deep.AppendLies
import Derived.Laws.OwnMore
import Derived.Laws.IdiomCopy
import Derived.Laws.StructEq
namespace Go.Proofs.YtnhlnnehpmjeiaaGreatDoor
open Go.RowKit
set_option linter.unusedVariables false
section
variable {w w' w1 : World} {d : WD} {L L' : List Int} {N n : Nat} {pa : Option Addr} {pl pc : Nat} {ps : List PW}
theorem wDrop_any (h : WMid w d L N) (e : Int) (hL : Hands L) (he : e ∈ L) (hp : L.Perm (e :: L')) : Calls Tryz.prog 142 #[.pointer (some ⟨d.wb, 0, none⟩), .int .u64 e] w fun en w' => en = .returned (.tuple #[]) ∧ ∃ i d', (∃ p, d.pl e = some p ∧ p.tab = i) ∧ Dropd d e i L' N w d' w' := by
  obtain ⟨⟨i, r⟩, t, v, hpl, ht, _⟩ := h.at he
  cases r with
  | none =>
    refine (wDrop_wait h e hL hp hpl).mono ?_
    rintro en w' ⟨he, d', hd⟩
    exact ⟨he, i, d', ⟨_, hpl, rfl⟩, hd⟩
  | some r =>
    refine (wDrop_row h e hL hp hpl).mono ?_
    rintro en w' ⟨he, d', hd⟩
    exact ⟨he, i, d', ⟨_, hpl, rfl⟩, hd⟩
/-- The answer of a deed on somebody. -/
def IsDeed (d : WD) (err : Int) (S' : WS) (M : Nat) (w : World) (en : Ending) (w' : World) : Prop :=
  ∃ d', WIn w' d' M ∧ WFr d d' w w' ∧ d'.wb = d.wb ∧ en = .returned (.int .i64 err) ∧ d'.S = if err = 0 then S' else d.S
theorem WIn.idMem (h : WIn w d N) {e : Int} (he : e ∈ d.x.ix.liveL) : ∃ id : Nat, d.x.ix.live id = true ∧ e = hOf id (d.x.ix.gen id) ∧ (e % 4294967296).toNat = id := by
  obtain ⟨id, h1, h2, h3, _⟩ := h.raw.ix.ok.live_id he
  exact ⟨id, h1, h2, h3⟩
set_option maxRecDepth 100000 in
theorem wDespawn_no (h : WIn w d N) (e : Int) (h0 : 0 ≤ e) (h1 : e < 18446744073709551616) (he : e ∉ d.x.ix.liveL) : Calls Tryz.prog 131 #[.pointer (some ⟨d.wb, 0, none⟩), .int .u64 e] w (IsDeed d (d.S.deadE e) (d.S.despawnS e) N w) := by
  have hc := wLives_any h e h0 h1
  rw [h.dead0 he h0] at hc ⊢
  have HC := Lib.hid hc
  have H := Lib.hid h
  clear h hc he
  go_enter Tryz.func131, Tryz.ntmps131
  go_wp2_with fail
  refine HC.out.mono ?_
  rintro en w1 ⟨rfl, hb⟩
  have HF := Lib.hid (show IsDeed d 11 (d.S.despawnS e) N w (.returned (.int .i64 11)) w1 from ⟨d, H.out.below hb, WFr.of_below hb, rfl, rfl, rfl⟩)
  go_wp2_with fail
  go_returns
  exact HF.out
set_option maxRecDepth 100000 in
set_option maxHeartbeats 2000000 in
theorem wDespawn_ok (h : WIn w d N) (e : Int) (he : e ∈ d.x.ix.liveL) : Calls Tryz.prog 131 #[.pointer (some ⟨d.wb, 0, none⟩), .int .u64 e] w (IsDeed d (d.S.deadE e) (d.S.despawnS e) N w) := by
  obtain ⟨h0, h1⟩ := h.bd he
  obtain ⟨id, hlv, hE, hid⟩ := h.idMem he
  obtain ⟨hko, hperm⟩ := h.raw.ix.ok.kill hlv
  rw [← hE] at hperm
  have hc := wLives_any h e h0 h1
  rw [h.live0 he] at hc ⊢
  have hdr := fun (W : World) (hb : Below w.heap.size w W) => wDrop_any (h.below hb) e (h.below hb).hands he hperm
  have ha : d.x.ix.alive e = true := (alive_in h h0).2 he
  have HC := Lib.hid hc
  have HDR := Lib.hid hdr
  have H := Lib.hid h
  have HID := Lib.hid hid
  have HA := Lib.hid ha
  have HKO := Lib.hid hko
  have HPM := Lib.hid hperm
  clear h hc he hdr hlv hE hid hko hperm ha
  go_enter Tryz.func131, Tryz.ntmps131
  go_wp2_with fail
  refine HC.out.mono ?_
  rintro en w1 ⟨rfl, hb⟩
  have HB := Lib.hid hb
  clear hb
  go_wp2_with fail
  refine (HDR.out _ HB.out).mono ?_
  rintro en w2 ⟨rfl, i, d1, _, hd⟩
  obtain ⟨c6, _, _⟩ := hd.mid.raw.cells
  rw [hd.fr.wb, hd.x] at c6
  have hk := xKill_ok d1.x w2 hd.mid.raw.ix e h0 h1 (by rw [hd.x]; exact HA.out)
  rw [hd.x, HID.out] at hk
  have HK := Lib.hid hk
  have HD := Lib.hid hd
  clear hd hk
  go_wp2_with fail
  refine HK.out.mono ?_
  rintro en w3 ⟨rfl, x', hxi, hxin, hxst⟩
  have HF : Hid (IsDeed d 0 (d.S.despawnS e) N w (.returned (.int .i64 0)) w3) := Lib.hid (by
    have hst' : XStep d1.x x' w2 w3 := by rw [HD.out.x]; exact hxst
    obtain ⟨k1, k2⟩ := WMid.xgo HD.out.mid hxin hst' (by rw [hxi, HD.out.x]; rfl) (by rw [hxi, HD.out.x]; simp [IX.kill])
    refine ⟨{ d1 with x := x' }, ?_, ((WFr.of_below HB.out).trans HD.out.fr).trans k2, HD.out.fr.wb, rfl, ?_⟩
    · unfold WIn
      show WMid w3 _ x'.ix.liveL N
      rw [hxi]
      exact k1
    · rw [if_pos rfl]
      show WS.mk d1.caps d1.g.ver d1.g.cs x'.ix d1.g.sigs d1.P.who = _
      rw [HD.out.caps, HD.out.g, HD.out.who, hxi]
      unfold WS.despawnS
      rw [HID.out]
      rfl)
  clear hxi hxin hxst HD
  go_wp2_with fail
  go_returns
  exact HF.out
theorem wDespawn_any (h : WIn w d N) (e : Int) (h0 : 0 ≤ e) (h1 : e < 18446744073709551616) : Calls Tryz.prog 131 #[.pointer (some ⟨d.wb, 0, none⟩), .int .u64 e] w (IsDeed d (d.S.deadE e) (d.S.despawnS e) N w) := by
  by_cases he : e ∈ d.x.ix.liveL
  · exact wDespawn_ok h e he
  · exact wDespawn_no h e h0 h1 he
end
end Go.Proofs.YtnhlnnehpmjeiaaGreatDoor
namespace Go.Proofs.YtnhlnnehpmjeiaaGreatDoor
open Go.RowKit
set_option linter.unusedVariables false
/-- Whoever lives has a row, of a set that has a table. -/
structure RowOk (S : WS) (s : Int) (r : List (List WI)) : Prop where
  s0 : 0 ≤ s
  s1 : s ≤ 4294967295
  is : sIs s = true
  len : r.length = (idsTo s 24).length
  mem : s ∈ S.sets
def WS.AllRow (S : WS) : Prop := ∀ e ∈ S.ix.liveL, ∃ s r, S.who e = some ⟨s, some r⟩ ∧ RowOk S s r
/-- A deed on h that answers err, and brings dn more. -/
structure Deed (S S' : WS) (h err dn : Int) : Prop where
  keep : ∀ x ∈ S.ix.liveL, ¬ (x = h ∧ err = 0) → x ∈ S'.ix.liveL ∧ S'.who x = S.who x
  count : (S'.ix.liveL.length : Int) = S.ix.liveL.length + dn
  sets : err ≠ 0 → S'.sets = S.sets
  all : S'.AllRow
  caps : S'.caps = S.caps
section
variable {S S' : WS} {h err c : Int} {l : List (Int × List WI)} {p : Int × List WI}
theorem Deed.same (ha : S.AllRow) (h err : Int) : Deed S S h err 0 := ⟨fun x hx _ => ⟨hx, rfl⟩, by omega, fun _ => rfl, ha, rfl⟩
theorem RowOk.sets {s : Int} {r : List (List WI)} (h : RowOk S s r) (hm : ∀ x ∈ S.sets, x ∈ S'.sets) : RowOk S' s r := ⟨h.s0, h.s1, h.is, h.len, hm _ h.mem⟩
/-- Somebody who lives gets another row. -/
theorem AllRow.put (ha : S.AllRow) {sets : List Int} {s : Int} {r : List (List WI)} (hs : ∀ x ∈ S.sets, x ∈ sets) (h0 : 0 ≤ s) (h1 : s ≤ 4294967295) (his : sIs s = true) (hl : r.length = (idsTo s 24).length) (hm : s ∈ sets) (h : Int) :
    WS.AllRow { S with sets := sets, who := updW S.who h (some ⟨s, some r⟩) } := by
  intro e he
  by_cases hx : e = h
  · subst hx
    exact ⟨s, r, updW_same _ _ _, h0, h1, his, hl, hm⟩
  · obtain ⟨s', r', hw, hr⟩ := ha e he
    exact ⟨s', r', (updW_ne hx).trans hw, hr.s0, hr.s1, hr.is, hr.len, hs _ hr.mem⟩
theorem Deed.put (ha : S.AllRow) {sets : List Int} {s : Int} {r : List (List WI)} (hs : ∀ x ∈ S.sets, x ∈ sets) (h0 : 0 ≤ s) (h1 : s ≤ 4294967295) (his : sIs s = true) (hl : r.length = (idsTo s 24).length) (hm : s ∈ sets) (h : Int) :
    Deed S { S with sets := sets, who := updW S.who h (some ⟨s, some r⟩) } h 0 0 :=
  ⟨fun x hx hn => ⟨hx, updW_ne fun e => hn ⟨e, rfl⟩⟩, by show (S.ix.liveL.length : Int) = _; omega, fun hn => absurd rfl hn, AllRow.put ha hs h0 h1 his hl hm h, rfl⟩
theorem rowAt_who {e s : Int} {r : List (List WI)} (h : S.rowAt e = some (s, r)) : S.who e = some ⟨s, some r⟩ := by
  unfold WS.rowAt at h
  split at h
  · rename_i hw; cases h; exact hw
  · cases h
theorem AllRow.row (ha : S.AllRow) (hx : S.ix.Ok) (h0 : 0 ≤ h) (hal : S.ix.alive h = true) : ∃ s r, S.rowAt h = some (s, r) ∧ RowOk S s r := by
  obtain ⟨s, r, hw, hr⟩ := ha h ((hx.alive_iff h h0).1 hal)
  exact ⟨s, r, by unfold WS.rowAt; rw [hw], hr⟩
theorem AllRow.is (ha : S.AllRow) (hx : S.ix.Ok) {e s : Int} {r : List (List WI)} (hd : ∀ e, (S.who e).isSome = true → e ∈ S.ix.liveL) (h : S.rowAt e = some (s, r)) : sIs s = true := by
  have hw := rowAt_who h
  obtain ⟨s', r', hw', hr⟩ := ha e (hd e (by rw [hw]; rfl))
  rw [hw] at hw'
  cases hw'
  exact hr.is
/-- Who is kept has just what they had. -/
theorem Deed.parts {dn : Int} (h' : Deed S S' h err dn) {x : Int} (hx : x ∈ S.ix.liveL) (hn : ¬ (x = h ∧ err = 0)) : x ∈ S'.ix.liveL ∧ S'.rowAt x = S.rowAt x := by
  obtain ⟨h1, h2⟩ := h'.keep x hx hn
  exact ⟨h1, by unfold WS.rowAt; rw [h2]⟩
/-- The tables' counts are together as many as live. -/
theorem sum_count {l : List Int} {f : Int → Int → Bool} : ∀ (sets : List Int), sets.Nodup → (∀ e ∈ l, ∃ s ∈ sets, ∀ t, f t e = decide (t = s)) → (sets.map fun s => l.countP (f s)).sum = l.length := by
  induction l with
  | nil => intro sets _ _; induction sets <;> simp_all
  | cons e l ih =>
    intro sets hn h
    have h1 := ih sets hn fun e he => h e (List.mem_cons_of_mem _ he)
    obtain ⟨s, hs, hf⟩ := h e List.mem_cons_self
    have h2 : ∀ (m : List Int), m.Nodup → (m.map fun t => (e :: l).countP (f t)).sum = (m.map fun t => l.countP (f t)).sum + if s ∈ m then 1 else 0 := by
      intro m
      induction m with
      | nil => intro _; simp
      | cons t m ihm =>
        intro hm
        have hmn := List.nodup_cons.1 hm
        rw [List.map_cons, List.sum_cons, List.map_cons, List.sum_cons, ihm hmn.2, List.countP_cons, hf t]
        by_cases e' : t = s
        · subst e'
          simp [hmn.1]; omega
        · have : ¬ s = t := fun x => e' x.symm
          simp [e', this]; omega
    rw [h2 sets hn, h1, if_pos hs, List.length_cons]
theorem AllRow.sum (ha : S.AllRow) (hn : S.sets.Nodup) : (S.sets.map S.cnt).sum = S.ix.liveL.length := by
  refine sum_count S.sets hn fun e he => ?_
  obtain ⟨s, r, hw, hr⟩ := ha e he
  refine ⟨s, hr.mem, fun t => ?_⟩
  rw [hw]
  show decide (s = t) = decide (t = s)
  exact decide_eq_decide.2 ⟨fun e => e.symm, fun e => e.symm⟩
end
end Go.Proofs.YtnhlnnehpmjeiaaGreatDoor
namespace Go.Proofs.YtnhlnnehpmjeiaaGreatDoor
open Go.RowKit
set_option linter.unusedVariables false
section
variable {w w' : World} {d : WD} {L : List Int} {N n : Nat}
theorem putC_other {l : List Int} {m : List (List WI)} {c : Int} {v : List WI} (h : c ∉ l) : putC (l.zip m) (c, v) = l.zip m := by
  unfold putC
  refine Eq.trans (List.map_congr_left fun q hq => ?_) (List.map_id _)
  obtain ⟨a, b⟩ := q
  rw [if_neg (fun e => h (by have hh := (List.of_mem_zip hq).1; have e' : a = c := e; rwa [e'] at hh))]
  rfl
theorem putC_idx : ∀ {ids : List Int}, ids.Nodup → ∀ {r : List (List WI)} {i : Nat} {c : Int} (v : List WI), r.length = ids.length → ids[i]? = some c → putC (ids.zip r) (c, v) = ids.zip (r.set i v)
  | [], _, _, _, _, _, _, h => by simp at h
  | x :: l, hn, [], _, _, _, h, _ => by simp at h
  | x :: l, hn, u :: m, 0, c, v, h1, h2 => by
    simp at h2
    subst h2
    rw [List.nodup_cons] at hn
    have hh := putC_other (m := m) (v := v) hn.1
    rw [List.zip_cons_cons, List.set_cons_zero, List.zip_cons_cons]
    unfold putC at hh ⊢
    rw [List.map_cons, hh]
    simp
  | x :: l, hn, u :: m, i + 1, c, v, h1, h2 => by
    rw [List.nodup_cons] at hn
    have h2' : l[i]? = some c := by simpa using h2
    have hne : ¬ x = c := fun e => hn.1 (e ▸ List.mem_of_getElem? h2')
    have hh := putC_idx hn.2 v (show m.length = l.length by simpa using h1) h2'
    rw [List.zip_cons_cons, List.set_cons_succ, List.zip_cons_cons]
    unfold putC at hh ⊢
    rw [List.map_cons, hh]
    simp [hne]
theorem setRow {s : Int} {r : List (List WI)} {i : Nat} {c : Int} (v : List WI) (h : r.length = (idsTo s 24).length) (hi : (idsTo s 24)[i]? = some c) : rowOfC (putC (cvOf s r) (c, v)) s = r.set i v := by
  unfold cvOf
  rw [putC_idx (idsTo_nodup _ _) v h hi]
  exact row_back (by simpa using h)
end
end Go.Proofs.YtnhlnnehpmjeiaaGreatDoor
namespace Go.Proofs.YtnhlnnehpmjeiaaGreatDoor
open Go.RowKit
set_option linter.unusedVariables false
section
variable {w w' : World} {d : WD} {L : List Int} {N n : Nat} {va : Option Addr} {vl vc : Nat} {v : List WI}
/-- Whole numbers that a world's deeds leave alone. -/
def IntIn (d : WD) (w : World) (va : Option Addr) (vl vc : Nat) (v : List WI) : Prop := ∀ w', Out d.foot w w' → IntsAt w'.heap.size w' va vl vc v
theorem IntIn.now (h : IntIn d w va vl vc v) : IntsAt w.heap.size w va vl vc v := h w (Out.refl _ _)
theorem IntIn.go {d d' : WD} (h : IntIn d w va vl vc v) (hf : WFr d d' w w') : IntIn d' w' va vl vc v := fun w2 ho => h w2 (hf.out.trans ho hf.foot)
theorem IntIn.below (h : IntIn d w va vl vc v) (hb : Below w.heap.size w w') : IntIn d w' va vl vc v := h.go (WFr.of_below hb)
end
end Go.Proofs.YtnhlnnehpmjeiaaGreatDoor
namespace Go.Proofs.YtnhlnnehpmjeiaaGreatDoor
open Go.RowKit
set_option linter.unusedVariables false
theorem comps_cv (ps : List PW) : comps ps = (cv ps).map (·.1) := by unfold comps cv; rw [List.map_map]; rfl
theorem PartsOk.cv {cs : List Cmp} {ps : List PW} (nd : ((cv ps).map (·.1)).Nodup) (fit : ∀ q ∈ cv ps, fC cs q = 0) (ids : ((cv ps).map (·.1)).all idB = true) : PartsOk cs ps :=
  ⟨by rw [comps_cv]; exact nd, fun p hp => fit (p.comp, p.val) (List.mem_map.2 ⟨p, hp, rfl⟩), by rw [comps_cv]; exact ids⟩
theorem cvOf_ids {s : Int} {r : List (List WI)} (h : r.length = (idsTo s 24).length) : (cvOf s r).map (·.1) = idsTo s 24 := by
  unfold cvOf
  exact List.map_fst_zip (by omega)
section
variable {w w' : World} {d : WD} {L : List Int} {N n : Nat} {va : Option Addr} {vl vc : Nat} {v : List WI}
/-- A row's parts fit the schema. -/
theorem WMid.fits (h : WMid w d L N) {e : Int} {i r : Nat} (hp : d.pl e = some ⟨i, some r⟩) {t : TD} (ht : d.T[i]? = some t) {row : List (List WI)} (hw : d.P.who e = some ⟨t.set, some row⟩) : row.length = (idsTo t.set 24).length ∧ ∀ q ∈ cvOf t.set row, fC d.g.cs q = 0 := by
  obtain ⟨V, row', hv, hvr, hV, hrl, _, hw', hrow⟩ := WMid.who_row h hp ht
  rw [hw] at hw'
  cases hw'
  have hT := WMid.tab h ht
  have hlen : row.length = (idsTo t.set 24).length := by rw [hrow, ← hT.ids, List.length_map]
  refine ⟨hlen, fun q hq => ?_⟩
  obtain ⟨j, hj⟩ := List.mem_iff_getElem?.1 hq
  unfold cvOf at hj
  obtain ⟨c, u⟩ := q
  rw [List.getElem?_zip_eq_some] at hj
  obtain ⟨j1, j2⟩ := hj
  have j1 : (idsTo t.set 24)[j]? = some c := j1
  have j2 : row[j]? = some u := j2
  have hjl : j < t.cps.length := by rw [← hrow]; exact (List.getElem?_eq_some_iff.1 j2).1
  have hx : t.cps[j]? = some t.cps[j] := List.getElem?_eq_getElem hjl
  have hd : t.cols[j]? = some (t.cols[j]'(by rw [hT.len]; exact hjl)) := List.getElem?_eq_getElem _
  obtain ⟨_, hfit, _⟩ := hV.at_ r j row u _ _ hvr j2 hx hd
  obtain ⟨_, hlike⟩ := WMid.like h ht
  have hfc : findC c d.g.cs = some t.cps[j].c := by
    have hh := congrArg (·[j]?) hlike
    simp only [List.getElem?_map, j1] at hh
    have hcx : t.cs[j]? = some t.cps[j].c := by unfold TD.cs; rw [List.getElem?_map, hx]; rfl
    rw [hcx] at hh
    simpa using hh
  show cpF d.g.cs (pwOf (c, u)) = 0
  unfold cpF pwOf
  rw [hfc]
  exact hfit
/-- A row with a part more. -/
theorem WMid.added (h : WMid w d L N) {e : Int} {i r : Nat} (hp : d.pl e = some ⟨i, some r⟩) {t : TD} (ht : d.T[i]? = some t) {row : List (List WI)} (hw : d.P.who e = some ⟨t.set, some row⟩) (hs : sIs t.set = true) {c : Int} (hk : fC d.g.cs (c, v) = 0) (hbt : hasB t.set c = false) {ps : List PW} (hps : cv ps = cvOf t.set row ++ [(c, v)]) : PartsOk d.g.cs ps ∧ foldS (comps ps) = sWith t.set c := by
  obtain ⟨hlen, hfit⟩ := h.fits hp ht hw
  obtain ⟨cm, hcm, _⟩ := cpF_find (show cpF d.g.cs (pwOf (c, v)) = 0 from hk)
  have hid : idB c = true := h.inv.ids c (by rw [show (pwOf (c, v)).comp = c from rfl] at hcm; rw [hcm]; rfl)
  have hbd := WMid.bd h ht
  have hids : (cv ps).map (·.1) = idsTo t.set 24 ++ [c] := by rw [hps, List.map_append, cvOf_ids hlen]; rfl
  have hni : c ∉ idsTo t.set 24 := fun hm => by rw [mem_ids, hbt] at hm; cases hm
  have hall : (idsTo t.set 24 ++ [c]).all idB = true := by rw [List.all_append, ids_all]; simp [hid]
  refine ⟨PartsOk.cv ?_ ?_ ?_, ?_⟩
  · rw [hids, List.nodup_append]
    refine ⟨idsTo_nodup _ _, by simp, fun a ha b hb => ?_⟩
    obtain rfl : b = c := by simpa using hb
    exact fun e => hni (e ▸ ha)
  · intro q hq
    rw [hps] at hq
    rcases List.mem_append.1 hq with hq | hq
    · exact hfit q hq
    · obtain rfl : q = (c, v) := by simpa using hq
      exact hk
  · rw [hids]; exact hall
  · rw [comps_cv, hids]
    have hwb := sWith_bd (n := c) hbd.1 hbd.2
    refine fold_of hwb.1 hwb.2 (sIs_with hbd.1 hbd.2 hid hs) hall fun n hn => ?_
    rw [has_with hbd.1 hbd.2 hid hn, List.mem_append, mem_ids]
    simp
    exact or_comm
end
end Go.Proofs.YtnhlnnehpmjeiaaGreatDoor
namespace Go.Proofs.YtnhlnnehpmjeiaaGreatDoor
open Go.RowKit
set_option linter.unusedVariables false
section
variable {w w' : World}
theorem isWithin_any (x lo hi : Int) (w : World) : Calls Tryz.prog 57 #[.int .i64 x, .int .i64 lo, .int .i64 hi] w fun e w' => e = .returned (.bool (decide (lo ≤ x ∧ x ≤ hi))) ∧ w = w' := by
  by_cases h1 : lo ≤ x
  · by_cases h2 : x ≤ hi
    · have h3 : decide (lo ≤ x ∧ x ≤ hi) = true := by simp [h1, h2]
      rw [h3]
      go_enter Tryz.func57, Tryz.ntmps57
      go_wp2_with fail
      go_ret
      exact ⟨rfl, rfl⟩
    · have h3 : decide (lo ≤ x ∧ x ≤ hi) = false := by simp [h2]
      rw [h3]
      go_enter Tryz.func57, Tryz.ntmps57
      go_wp2_with fail
      go_ret
      exact ⟨rfl, rfl⟩
  · have h3 : decide (lo ≤ x ∧ x ≤ hi) = false := by simp [h1]
    rw [h3]
    go_enter Tryz.func57, Tryz.ntmps57
    go_wp2_with fail
    go_ret
    exact ⟨rfl, rfl⟩
set_option maxRecDepth 100000 in
set_option maxHeartbeats 1000000 in
theorem checkCaps_ok (c : CapsD) (h : CapsOk c) (w : World) : Calls Tryz.prog 35 #[.agg #[.int .i64 c.ents, .int .i64 c.rows, .int .i64 c.archs, .int .i64 c.cmds, .int .i64 c.fuel, .int .i64 c.gens]] w fun e w' => e = .returned (.int .i64 0) ∧ Below w.heap.size w w' := by
  obtain ⟨a1, a2, a3, a4, a5, a6, hcc⟩ : ∃ a1 a2 a3 a4 a5 a6, c = ⟨a1, a2, a3, a4, a5, a6⟩ := ⟨_, _, _, _, _, _, rfl⟩
  subst hcc
  have k1 := fun (W : World) => isWithin_any a1 1 256 W
  have k2 := fun (W : World) => isWithin_any a2 1 256 W
  have k3 := fun (W : World) => isWithin_any a3 1 64 W
  have k4 := fun (W : World) => isWithin_any a4 0 64 W
  have k5 := fun (W : World) => isWithin_any a5 0 4096 W
  have k6 := fun (W : World) => isWithin_any a6 1 65535 W
  rw [decide_eq_true h.ents] at k1
  rw [decide_eq_true h.rows] at k2
  rw [decide_eq_true h.archs] at k3
  rw [decide_eq_true h.cmds] at k4
  rw [decide_eq_true h.fuel] at k5
  rw [decide_eq_true h.gens] at k6
  have K1 := Lib.hid k1
  have K2 := Lib.hid k2
  have K3 := Lib.hid k3
  have K4 := Lib.hid k4
  have K5 := Lib.hid k5
  have K6 := Lib.hid k6
  clear k1 k2 k3 k4 k5 k6 h
  go_enter Tryz.func35, Tryz.ntmps35
  go_wp2_with fail
  refine (K1.out _).mono ?_
  rintro e w1 ⟨rfl, rfl⟩
  go_wp2_with fail
  refine (K2.out _).mono ?_
  rintro e w1 ⟨rfl, rfl⟩
  go_wp2_with fail
  refine (K3.out _).mono ?_
  rintro e w1 ⟨rfl, rfl⟩
  go_wp2_with fail
  refine (K4.out _).mono ?_
  rintro e w1 ⟨rfl, rfl⟩
  go_wp2_with fail
  refine (K5.out _).mono ?_
  rintro e w1 ⟨rfl, rfl⟩
  go_wp2_with fail
  refine (K6.out _).mono ?_
  rintro e w1 ⟨rfl, rfl⟩
  go_wp2_with fail
  go_ret
  exact ⟨rfl, by go_grown⟩
end
end Go.Proofs.YtnhlnnehpmjeiaaGreatDoor
namespace Go.Proofs.YtnhlnnehpmjeiaaGreatDoor
open Go.RowKit
set_option linter.unusedVariables false
section
variable {w w' : World}
theorem gNew_ok (ver : Int) (cs : List Cmp) (a : Option Addr) (len cap : Nat) (archs rows : Int) (w : World) (hcs : CompsAt w.heap.size w a len cs) (hw : CompsWf cs) (hl : len ≤ 100000) (hf : ∀ c ∈ cs, c.fields.length ≤ 100000) (hn : a = none → len = 0 ∧ cap = 0) (hs : schemaCheck ver cs = 0) (a1 : 1 ≤ archs ∧ archs ≤ 64) (r1 : 1 ≤ rows ∧ rows ≤ 256) :
    Calls Tryz.prog 37 #[.agg #[.int .i64 ver, .slice a len cap], .int .i64 archs, .int .i64 rows] w fun e w' => ∃ gb mb wmb ta tc, e = .returned (.pointer (some ⟨gb, 0, none⟩)) ∧ Graph 0 gb (GS0 ver cs archs rows) mb wmb ta tc w' ∧ (∀ b, gfoot gb mb wmb ta b → w.heap.size ≤ b) ∧ Below w.heap.size w w' := by
  refine (graphNew_any ver cs a len cap archs rows w hcs hw hl hf hn).mono ?_
  rintro e w' ⟨hb, hif⟩
  rw [if_pos (show newOk ver cs archs rows = true by simp [newOk, hs]; omega)] at hif
  obtain ⟨B1, gb, mb, wb, ta, tc, rfl, h1, h2, h3⟩ := hif
  exact ⟨gb, mb, wb, ta, tc, rfl, h2.mono0, h3, hb⟩
/-- The answer of world.New: its parts' places. -/
def NewW (c : CapsD) (ver : Int) (cs : List Cmp) (n : Nat) (w : World) (w' : World) (wb : Nat) : Prop :=
  ∃ x gb mb wmb ta tc ab, x.ix = newIX n c.gens ∧ XIn w' x ∧ Graph 0 gb (GS0 ver cs c.archs c.rows) mb wmb ta tc w' ∧ w'.heap[ab]? = some (.map #[] 0) ∧
    (∀ b, x.foot b → w.heap.size ≤ b) ∧ (∀ b, gfoot gb mb wmb ta b → w.heap.size ≤ b) ∧ w.heap.size ≤ ab ∧ w.heap.size ≤ wb ∧ Below w.heap.size w w' ∧ ab ≠ mb ∧ ab ≠ wmb ∧
    w'.heap[wb]? = some (.cells #[.int .i64 c.ents, .int .i64 c.rows, .int .i64 c.archs, .int .i64 c.cmds, .int .i64 c.fuel, .int .i64 c.gens, .pointer (some ⟨x.xb, 0, none⟩), .pointer (some ⟨gb, 0, none⟩), .map (some ab)] 92 (0, 0))
theorem gfoot_lt {gb mb wmb tc : Nat} {g : GS} {ta : Option Addr} {W : World} (h : Graph 0 gb g mb wmb ta tc W) {b : Nat} (hb : gfoot gb mb wmb ta b) : b < W.heap.size := by
  rcases h.kin hb with k | ⟨k, _⟩
  · obtain ⟨_, _, _, h1, _⟩ := k
    exact lt_some h1
  · obtain ⟨_, _, h1⟩ := k
    exact lt_some h1
theorem newW_end {c : CapsD} {ver : Int} {cs : List Cmp} {n : Nat} {w W : World} {x : XD} {gb mb wmb tc ab : Nat} {ta : Option Addr} (hB : Below w.heap.size w W) (hix : x.ix = newIX n c.gens) (hX : XIn W x) (hG : Graph 0 gb (GS0 ver cs c.archs c.rows) mb wmb ta tc W) (hab : W.heap[ab]? = some (.map #[] 0))
    (hxf : ∀ b, x.foot b → w.heap.size ≤ b) (hgf : ∀ b, gfoot gb mb wmb ta b → w.heap.size ≤ b) (ha : w.heap.size ≤ ab) (hn : ab ≠ mb ∧ ab ≠ wmb) :
    NewW c ver cs n w (W.alloc (.cells #[.int .i64 c.ents, .int .i64 c.rows, .int .i64 c.archs, .int .i64 c.cmds, .int .i64 c.fuel, .int .i64 c.gens, .pointer (some ⟨x.xb, 0, none⟩), .pointer (some ⟨gb, 0, none⟩), .map (some ab)] 92)) W.heap.size := by
  have hA : Below W.heap.size W (W.alloc (.cells #[.int .i64 c.ents, .int .i64 c.rows, .int .i64 c.archs, .int .i64 c.cmds, .int .i64 c.fuel, .int .i64 c.gens, .pointer (some ⟨x.xb, 0, none⟩), .pointer (some ⟨gb, 0, none⟩), .map (some ab)] 92)) := (Below.refl _ W).alloc (Nat.le_refl _) _
  exact ⟨x, gb, mb, wmb, ta, tc, ab, hix, hX.below hA, hG.below hA, (hA.block _ (by rcases Nat.lt_or_ge ab W.heap.size with h | h; exact h; rw [Array.getElem?_eq_none h] at hab; cases hab)).trans hab, hxf, hgf, ha, hB.size, hB.trans (hA.mono hB.size), hn.1, hn.2, heap_alloc_new W _⟩
set_option maxRecDepth 100000 in
set_option maxHeartbeats 4000000 in
theorem wNew_walk (c : CapsD) (h : CapsOk c) (ver : Int) (cs : List Cmp) (a : Option Addr) (len cap n : Nat) (hn : c.ents = (n : Int)) (w : World) (hcs : CompsAt w.heap.size w a len cs) (hw : CompsWf cs) (hl : len ≤ 100000) (hf : ∀ c ∈ cs, c.fields.length ≤ 100000) (hna : a = none → len = 0 ∧ cap = 0) (hs : schemaCheck ver cs = 0) :
    Calls Tryz.prog 15 #[.agg #[.int .i64 ver, .slice a len cap], .agg #[.int .i64 c.ents, .int .i64 c.rows, .int .i64 c.archs, .int .i64 c.cmds, .int .i64 c.fuel, .int .i64 c.gens]] w fun e w' => ∃ wb, e = .returned (.pointer (some ⟨wb, 0, none⟩)) ∧ NewW c ver cs n w w' wb := by
  have HCC := Lib.hid (fun (W : World) => checkCaps_ok c h W)
  obtain ⟨a1, a2, a3, a4, a5, a6, hcc⟩ : ∃ a1 a2 a3 a4 a5 a6, c = ⟨a1, a2, a3, a4, a5, a6⟩ := ⟨_, _, _, _, _, _, rfl⟩
  subst hcc
  have hn : a1 = (n : Int) := hn
  subst hn
  have hb0 : Below w.heap.size w ((w.alloc (.cells #[.int .i64 ver, .slice a len cap] 43)).alloc (.cells #[.int .i64 (n : Int), .int .i64 a2, .int .i64 a3, .int .i64 a4, .int .i64 a5, .int .i64 a6] 55)) := by go_grown
  have HB0 := Lib.hid hb0
  have HS0 := Lib.hid (keepA (.cells #[.int .i64 (n : Int), .int .i64 a2, .int .i64 a3, .int .i64 a4, .int .i64 a5, .int .i64 a6] 55) (heap_alloc_new w (.cells #[.int .i64 ver, .slice a len cap] 43)))
  have HC0 := Lib.hid (heap_alloc_new (w.alloc (.cells #[.int .i64 ver, .slice a len cap] 43)) (.cells #[.int .i64 (n : Int), .int .i64 a2, .int .i64 a3, .int .i64 a4, .int .i64 a5, .int .i64 a6] 55))
  have hsc := fun (W : World) (hb : Below w.heap.size w W) => schemaCheck_any ver cs a len cap W ((hcs.below hb).mono hb.size) hw
  rw [hs] at hsc
  have HSC := Lib.hid hsc
  have HG := Lib.hid (fun (W : World) (hb : Below w.heap.size w W) => gNew_ok ver cs a len cap a3 a2 W ((hcs.below hb).mono hb.size) hw hl hf hna hs h.archs h.rows)
  have hen := h.ents
  have hge := h.gens
  have HX := Lib.hid (fun (W : World) => xNew_ok n a6 W (by have h1 : (1 : Int) ≤ (n : Int) := hen.1; omega) (by have h1 : (n : Int) ≤ 256 := hen.2; omega) hge.1 hge.2)
  clear h hb0 hcs hw hl hf hna hs hsc hen hge
  go_enter Tryz.func15, Tryz.ntmps15
  go_wp2_with fail
  refine (HSC.out _ HB0.out).mono ?_
  rintro e w1 ⟨rfl, hb1⟩
  have hc1 := keep hb1 HC0.out
  have x0 := cell_at hc1 0
  have x1 := cell_at hc1 1
  have x2 := cell_at hc1 2
  have x3 := cell_at hc1 3
  have x4 := cell_at hc1 4
  have x5 := cell_at hc1 5
  simp at x0 x1 x2 x3 x4 x5
  go_wp2_with fail
  refine (HCC.out _).mono ?_
  rintro e w2 ⟨rfl, hb2⟩
  have HB2 := Lib.hid (HB0.out.trans ((hb1.mono HB0.out.size).trans (hb2.mono (HB0.out.trans (hb1.mono HB0.out.size)).size)))
  have hs2 := keep hb2 (keep hb1 HS0.out)
  have hc2 := keep hb2 hc1
  have u0 := cell_at hs2 0
  have u1 := cell_at hs2 1
  have y0 := cell_at hc2 0
  have y1 := cell_at hc2 1
  have y2 := cell_at hc2 2
  have y3 := cell_at hc2 3
  have y4 := cell_at hc2 4
  have y5 := cell_at hc2 5
  simp at u0 u1 y0 y1 y2 y3 y4 y5
  have hl2 := lt_some hs2
  have hl3 : w.heap.size + 1 < w2.heap.size := by have := lt_some hc2; simpa using this
  have hdz : w2.drew.heap.size = w2.heap.size := rfl
  clear x0 x1 x2 x3 x4 x5 hs2 hc2 hc1 hb1 hb2
  have hmm := @run_makeMap Tryz.prog
  have hsz : ∀ (W : World) (o : Obj), (W.alloc o).heap.size = W.heap.size + 1 := fun W o => by simp
  go_upto_region 3 with (fail)
  go_region_held3 (fun w' => Below w.heap.size w w' ∧ w.heap.size + 1 < w'.heap.size ∧ w'.cell? ⟨w.heap.size, 0, none⟩ = some (.int .i64 ver) ∧ w'.cell? ⟨w.heap.size, 1, none⟩ = some (.slice a len cap) ∧ w'.cell? ⟨w.heap.size + 1, 0, none⟩ = some (.int .i64 (n : Int)) ∧ w'.cell? ⟨w.heap.size + 1, 1, none⟩ = some (.int .i64 a2) ∧ w'.cell? ⟨w.heap.size + 1, 2, none⟩ = some (.int .i64 a3) ∧ w'.cell? ⟨w.heap.size + 1, 3, none⟩ = some (.int .i64 a4) ∧ w'.cell? ⟨w.heap.size + 1, 4, none⟩ = some (.int .i64 a5) ∧ w'.cell? ⟨w.heap.size + 1, 5, none⟩ = some (.int .i64 a6))
    ((go_split_ands
      refine ⟨by first | exact HB2.out.drew | assumption | (exact Below.trans (by assumption) (hbx.mono (by first | omega | (simp; omega) | (simp only [hsz] at *; omega)))) | (exact Below.alloc (by assumption) (by first | omega | (simp; omega) | (simp only [hsz] at *; omega)) _), by first | omega | (have := hbx.size; omega) | (simp; omega) | (have := hbx.size; simp only [hsz] at *; omega), ?_, ?_, ?_, ?_, ?_, ?_, ?_, ?_⟩
      all_goals first | go_keep | (refine Eq.trans (World.cell?_of_block (hbx.block _ (by first | omega | (simp; omega) | (simp only [hsz] at *; omega)))) ?_; assumption)))
    (first
      | (go_at_call 36; refine (HX.out _).mono ?_; rintro e1 wx ⟨x, rfl, hix, hXI, hXF, hbx⟩; have hbX := hbx)
      | (go_at_call 37; refine (HG.out _ (by go_split_ands; first | assumption | exact HB2.out.drew)).mono ?_; rintro e1 wx ⟨gb, mb, wmb, ta, tc, rfl, hgr, hgf, hbx⟩; have hbG := hbx))
  all_goals go_split_ands
  all_goals go_wp2_with fail
  all_goals go_ret
  · have hd := HB2.out.drew
    have hB1 := hd.trans (hbX.mono hd.size)
    have hB2 := hB1.trans (hbG.mono hB1.size)
    have ha : Below wx.heap.size wx (wx.alloc (.map #[] 0)) := (Below.refl _ wx).alloc (Nat.le_refl _) _
    have hh := newW_end (c := ⟨(n : Int), a2, a3, a4, a5, a6⟩) (ver := ver) (cs := cs) (n := n) (hB2.alloc hB2.size (.map #[] 0)) hix ((hXI.below hbG).below ha) (hgr.below ha) (heap_alloc_new wx (.map #[] 0)) (fun b hb => Nat.le_trans hd.size (hXF b hb)) (fun b hb => Nat.le_trans hB1.size (hgf b hb)) hB2.size
      ⟨fun e => Nat.lt_irrefl _ (e ▸ gfoot_lt hgr (.inr (.inl rfl))), fun e => Nat.lt_irrefl _ (e ▸ gfoot_lt hgr (.inr (.inr (.inl rfl))))⟩
    rw [hsz] at hh
    exact ⟨_, rfl, hh⟩
  · have hd := HB2.out.drew
    have hB1 := hd.trans (hbX.mono hd.size)
    have hBm := hB1.alloc hB1.size (.map #[] 0)
    have hB2 := hBm.trans (hbG.mono hBm.size)
    have hh := newW_end (c := ⟨(n : Int), a2, a3, a4, a5, a6⟩) (ver := ver) (cs := cs) (n := n) hB2 hix ((hXI.below ((Below.refl _ _).alloc (Nat.le_refl _) (.map #[] 0))).below hbG) hgr (keep hbG (heap_alloc_new _ (.map #[] 0))) (fun b hb => Nat.le_trans hd.size (hXF b hb)) (fun b hb => Nat.le_trans hBm.size (hgf b hb)) hB1.size
      ⟨fun e => by have := hgf _ (.inr (.inl rfl)); rw [hsz] at this; omega, fun e => by have := hgf _ (.inr (.inr (.inl rfl))); rw [hsz] at this; omega⟩
    exact ⟨_, rfl, hh⟩
  · have hd := (HB2.out.alloc HB2.out.size (.map #[] 0)).drew
    have hB1 := hd.trans (hbX.mono hd.size)
    have hB2 := hB1.trans (hbG.mono hB1.size)
    have hz : w2.heap.size + 1 ≤ (w2.alloc (.map #[] 0)).drew.heap.size := by rw [← hsz w2 (.map #[] 0)]; exact Nat.le_refl _
    have hz1 := hbX.size
    have hh := newW_end (c := ⟨(n : Int), a2, a3, a4, a5, a6⟩) (ver := ver) (cs := cs) (n := n) hB2 hix (hXI.below hbG) hgr (keep hbG (keep hbX (show (w2.alloc (.map #[] 0)).drew.heap[w2.heap.size]? = _ from heap_alloc_new w2 (.map #[] 0)))) (fun b hb => Nat.le_trans hd.size (hXF b hb)) (fun b hb => Nat.le_trans hB1.size (hgf b hb)) HB2.out.size
      ⟨fun e => by have := hgf _ (.inr (.inl rfl)); omega, fun e => by have := hgf _ (.inr (.inr (.inl rfl))); omega⟩
    exact ⟨_, rfl, hh⟩
end
end Go.Proofs.YtnhlnnehpmjeiaaGreatDoor
namespace Go.Proofs.YtnhlnnehpmjeiaaGreatDoor
open Go.RowKit
set_option linter.unusedVariables false
section
variable {w w' : World}
theorem atM_new {ab : Nat} (h : w.heap[ab]? = some (.map #[] 0)) : AtM w ab (fun _ => none) 0 := by
  obtain ⟨es, cl, hb, F, _, _⟩ := World.ownsMap_made w Tryz.prog 31 heldR
  rw [heap_alloc_new] at hb
  cases hb
  exact ⟨fun _ => none, ⟨.map [], ⟨#[], 0, h, F, Nat.le_refl _, rfl⟩, rfl, fun kl => ⟨rfl, fun v h => by cases h⟩⟩, fun _ _ _ => rfl⟩
theorem newIX_live {n : Nat} {g : Int} (n1 : 1 ≤ n) (n2 : n ≤ 256) (g1 : 1 ≤ g) (g2 : g ≤ 65535) : (newIX n g).liveL = [] := by
  have hlen : (newIX n g).lives.length = (newIX n g).gens.length := (newIX_ok n1 n2 g1 g2).1.len
  refine List.eq_nil_iff_forall_not_mem.2 fun e he => ?_
  obtain ⟨id, h1, _⟩ := (IX.mem_liveL hlen e).1 he
  have h2 : (newIX n g).live id = false := by
    show (List.replicate (n + 1) false).getD id false = false
    rw [List.getD_eq_getElem?_getD, List.getElem?_replicate]
    split <;> rfl
  rw [h2] at h1; cases h1
/-- The told state of a new world. -/
def WS0 (c : CapsD) (ver : Int) (cs : List Cmp) (n : Nat) : WS := ⟨c, ver, cs, newIX n c.gens, [], fun _ => none⟩
theorem newW_in {c : CapsD} (h : CapsOk c) {ver : Int} {cs : List Cmp} {n : Nat} (hn : c.ents = (n : Int)) (hs : schemaCheck ver cs = 0) {wb : Nat} (hw : NewW c ver cs n w w' wb) : ∃ d, WIn w' d 0 ∧ d.wb = wb ∧ d.S = WS0 c ver cs n ∧ (∀ b, d.foot b → w.heap.size ≤ b) ∧ Below w.heap.size w w' := by
  obtain ⟨x, gb, mb, wmb, ta, tc, ab, hix, hX, hG, hab, hxf, hgf, ha, hwb, hB, n1, n2, hblk⟩ := hw
  have hen := h.ents
  rw [hn] at hen
  have hl : x.ix.liveL = [] := by rw [hix]; exact newIX_live (by omega) (by omega) h.gens.1 h.gens.2
  have hg : newOk ver cs c.archs c.rows = true := by
    have := h.archs
    have := h.rows
    simp [newOk, hs]; omega
  refine ⟨{ wb := wb, caps := c, x := x, gb := gb, g := GS0 ver cs c.archs c.rows, mb := mb, wmb := wmb, ta := ta, tc := tc, ab := ab, T := [], V := [], pl := fun _ => none }, ?_, rfl, ?_, ?_, hB⟩
  · unfold WIn
    show WMid w' _ x.ix.liveL 0
    rw [hl]
    refine ⟨⟨hblk, hX, hG, ⟨rfl, by simp, by simp, by simp⟩, rfl, by simp, atM_new hab, n1, n2⟩, ⟨List.nodup_nil, by simp [WD.P], ?_, ?_, ?_, ?_, ?_⟩, inv_new hg, Nat.le_refl _, rfl, rfl, ?_, ?_, hs, h, by simp⟩
    · intro e i r
      constructor
      · intro hh; cases hh
      · rintro ⟨t, ht, _⟩
        have ht : ([] : List PT)[i]? = some t := ht
        simp at ht
    · intro e p hp; cases hp
    · intro i t ht
      have ht : ([] : List PT)[i]? = some t := ht
      simp at ht
    · intro t ht
      have ht : t ∈ ([] : List PT) := ht
      simp at ht
    · exact List.nodup_nil
    · show x.ix.most = c.gens
      rw [hix]; rfl
    · show (x.ix.gens.length : Int) = c.ents + 1
      rw [hix, hn]
      show ((gensL n (n + 1)).length : Int) = _
      rw [gensL_len]; omega
  · show (⟨c, ver, cs, x.ix, ([] : List (Nat × Int)).map (·.2), fun e => _⟩ : WS) = _
    rw [hix]
    rfl
  · intro b hb
    rcases hb with rfl | rfl | hb | hb | ⟨t, ht, _⟩
    · exact hwb
    · exact ha
    · exact hxf b hb
    · exact hgf b hb
    · have ht : t ∈ ([] : List TD) := ht
      simp at ht
theorem wNew_any (c : CapsD) (h : CapsOk c) (ver : Int) (cs : List Cmp) (a : Option Addr) (len cap n : Nat) (hn : c.ents = (n : Int)) (w : World) (hcs : CompsAt w.heap.size w a len cs) (hw : CompsWf cs) (hl : len ≤ 100000) (hf : ∀ c ∈ cs, c.fields.length ≤ 100000) (hna : a = none → len = 0 ∧ cap = 0) (hs : schemaCheck ver cs = 0) :
    Calls Tryz.prog 15 #[.agg #[.int .i64 ver, .slice a len cap], .agg #[.int .i64 c.ents, .int .i64 c.rows, .int .i64 c.archs, .int .i64 c.cmds, .int .i64 c.fuel, .int .i64 c.gens]] w fun e w' => ∃ d, e = .returned (.pointer (some ⟨d.wb, 0, none⟩)) ∧ WIn w' d 0 ∧ d.S = WS0 c ver cs n ∧ (∀ b, d.foot b → w.heap.size ≤ b) ∧ Below w.heap.size w w' := by
  refine (wNew_walk c h ver cs a len cap n hn w hcs hw hl hf hna hs).mono ?_
  rintro e w' ⟨wb, rfl, hN⟩
  obtain ⟨d, h1, rfl, h3, h4, h5⟩ := newW_in h hn hs hN
  exact ⟨d, rfl, h1, h3, h4, h5⟩
end
end Go.Proofs.YtnhlnnehpmjeiaaGreatDoor
namespace Go.Proofs.YtnhlnnehpmjeiaaGreatDoor
open Go.RowKit
set_option linter.unusedVariables false
def great18B (cs : List Cmp) : Bool := decide (30 < cs.length) || cs.any fun c => decide (12 < c.fields.length)
theorem great18_f {cs : List Cmp} (h : great18B cs = false) : ∀ c ∈ cs, c.fields.length ≤ 100000 := by
  intro c hc
  unfold great18B at h
  rw [Bool.or_eq_false_iff, List.any_eq_false] at h
  have := h.2 c hc
  simp at this
  omega
/-- Nothing but draws. -/
def Drawn (w w' : World) : Prop := ∃ m, w' = w.drewN m
theorem Drawn.refl (w : World) : Drawn w w := ⟨0, rfl⟩
theorem Drawn.more {w w' : World} (h : Drawn w w') (n : Nat) : Drawn w (w'.drewN n) := by
  obtain ⟨m, rfl⟩ := h
  exact ⟨m + n, World.drewN_drewN _ _ _⟩
theorem Drawn.below {w w' : World} (h : Drawn w w') : Below w.heap.size w w' := by
  obtain ⟨m, rfl⟩ := h
  exact below_drewN (Below.refl _ _) m
def cs18 : List Cmp := [⟨1, ⟨#[97]⟩, [⟨⟨#[120]⟩, 6, 1⟩]⟩, ⟨2, ⟨#[98]⟩, []⟩]
def caps18 : CapsD := ⟨2, 2, 4, 4, 9, 2⟩
end Go.Proofs.YtnhlnnehpmjeiaaGreatDoor
namespace Go.Proofs.YtnhlnnehpmjeiaaGreatDoor
open Go.RowKit
set_option linter.unusedVariables false
def WS.awaitS (S : WS) (e s : Int) : WS := { S with sets := S.openS s, who := updW S.who e (some ⟨s, none⟩) }
end Go.Proofs.YtnhlnnehpmjeiaaGreatDoor
