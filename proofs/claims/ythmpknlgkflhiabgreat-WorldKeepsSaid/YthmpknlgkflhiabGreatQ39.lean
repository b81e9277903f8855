/- A world's Get; a component of a row. · A world's Set. -/
import Derived.Test.YthmpknlgkflhiabGreatQ38
namespace Go.Proofs.YthmpknlgkflhiabGreat
open Go.RowKit
set_option linter.unusedVariables false
section
variable {w w' : World} {d : WD} {L : List Int} {N n : Nat}
theorem colOf_not {t : TD} (hids : t.cps.map (·.c.id) = idsTo t.set 24) {c : Int} (hb : hasB t.set c = false) : colOf t.cps c = none := by
 unfold colOf
 rw [List.find?_eq_none]
 intro x hx hd
 have hm : c ∈ idsTo t.set 24 := by rw [← hids]; exact List.mem_map.2 ⟨x, hx, of_decide_eq_true hd⟩
 rw [mem_ids, hb] at hm
 cases hm
theorem TabIn.colIs {B : Nat} {t : TD} (h : TabIn B w t) {c : Int} (hb : hasB t.set c = true) : ∃ (i : Nat) (x : CV) (dc : CD), t.cps[i]? = some x ∧ t.cols[i]? = some dc ∧ x.c.id = c ∧ colOf t.cps c = some x ∧ (idsTo t.set 24)[i]? = some c := by
 have hm := mem_ids.2 hb
 rw [← h.ids, List.mem_map] at hm
 obtain ⟨x, hx, hc⟩ := hm
 obtain ⟨i, hi⟩ := List.mem_iff_getElem?.1 hx
 have hil := (List.getElem?_eq_some_iff.1 hi).1
 refine ⟨i, x, _, hi, List.getElem?_eq_getElem (by rw [h.len]; exact hil), hc, ?_, ?_⟩
 ·rw [← hc]; exact colOf_at h.ids hi
 ·rw [← h.ids, List.getElem?_map, hi]
  simp [hc]
theorem valAt_idx : ∀ {ids : List Int}, ids.Nodup → ∀ {r : List (List WI)} {i : Nat} {c : Int} {v : List WI}, ids[i]? = some c → r[i]? = some v → valAt (ids.zip r) c = v
 | [], _, _, _, _, _, h, _ => by simp at h
 | x :: l, hn, [], _, _, _, _, h => by simp at h
 | x :: l, hn, u :: m, 0, c, v, h1, h2 => by
  simp at h1 h2
  subst h1 h2
  simp [valAt]
 | x :: l, hn, u :: m, i + 1, c, v, h1, h2 => by
  rw [List.nodup_cons] at hn
  have h1' : l[i]? = some c := by simpa using h1
  have hne : ¬ x = c := fun e => hn.1 (e ▸ List.mem_of_getElem? h1')
  have hh := valAt_idx hn.2 h1' (show m[i]? = some v by simpa using h2)
  rw [← hh]
  unfold valAt
  rw [List.zip_cons_cons, List.find?_cons]
  simp only [hne, decide_false]
theorem putC_other {l : List Int} {m : List (List WI)} {c : Int} {v : List WI} (h : c ∉ l) : putC (l.zip m) (c, v) = l.zip m := by
 unfold putC
 refine Eq.trans (List.map_congr_left fun q hq => ?_) (List.map_id _)
 obtain ⟨a, b⟩ := q
 rw [if_neg (fun e => h (by have hh := (List.of_mem_zip hq).1; have e' : a = c := e; rwa [e'] at hh))]
 rfl
theorem putC_idx : ∀ {ids : List Int}, ids.Nodup → ∀ {r : List (List WI)} {i : Nat} {c : Int} (v : List WI), r.length = ids.length → ids[i]? = some c → putC (ids.zip r) (c, v) = ids.zip (r.set i v)
 | [], _, _, _, _, _, _, h => by simp at h
 | x :: l, hn, [], _, _, _, h, _ => by simp at h
 | x :: l, hn, u :: m, 0, c, v, h1, h2 => by
  simp at h2
  subst h2
  rw [List.nodup_cons] at hn
  have hh := putC_other (m := m) (v := v) hn.1
  rw [List.zip_cons_cons, List.set_cons_zero, List.zip_cons_cons]
  unfold putC at hh ⊢
  rw [List.map_cons, hh]
  simp
 | x :: l, hn, u :: m, i + 1, c, v, h1, h2 => by
  rw [List.nodup_cons] at hn
  have h2' : l[i]? = some c := by simpa using h2
  have hne : ¬ x = c := fun e => hn.1 (e ▸ List.mem_of_getElem? h2')
  have hh := putC_idx hn.2 v (show m.length = l.length by simpa using h1) h2'
  rw [List.zip_cons_cons, List.set_cons_succ, List.zip_cons_cons]
  unfold putC at hh ⊢
  rw [List.map_cons, hh]
  simp [hne]
theorem setRow {s : Int} {r : List (List WI)} {i : Nat} {c : Int} (v : List WI) (h : r.length = (idsTo s 24).length) (hi : (idsTo s 24)[i]? = some c) : rowOfC (putC (cvOf s r) (c, v)) s = r.set i v := by
 unfold cvOf
 rw [putC_idx (idsTo_nodup _ _) v h hi]
 exact row_back (by simpa using h)
theorem WIn.if_live (h : WIn w d N) {e : Int} (he : e ∈ d.x.ix.liveL) {α : Type} (a b : α) : (if d.S.ix.alive e = true then a else b) = a := if_pos ((alive_in h (h.bd he).1).2 he)
theorem WIn.if_dead (h : WIn w d N) {e : Int} (h0 : 0 ≤ e) (he : e ∉ d.x.ix.liveL) {α : Type} (a b : α) : (if d.S.ix.alive e = true then a else b) = b := if_neg fun ha => he ((alive_in h h0).1 ha)
def IsGet (v : List WI) (w : World) (e : Ending) (w' : World) : Prop := ∃ va vc, e = .returned (.tuple #[.slice va v.length vc, .int .i64 0]) ∧ w'.ownsRow w.heap.size 67 3 (.slice va v.length vc) v.length (v.flatMap intL) ∧ (∀ y ∈ v, y.wf) ∧ Below w.heap.size w w'
set_option maxRecDepth 100000 in
set_option maxHeartbeats 1000000 in
theorem wGet_row (h : WIn w d N) (e : Int) (he : e ∈ d.x.ix.liveL) {i r : Nat} (hp : d.pl e = some ⟨i, some r⟩) {t : TD} (ht : d.T[i]? = some t) (c : Int) {Q : Ending → World → Prop} (HG : ∀ W, Below w.heap.size w W → TabIn 0 W t → Calls Tryz.prog 57 #[.pointer (some ⟨t.tb, 0, none⟩), .int .i64 (r : Int), .int .i64 c] W fun en w' => ∃ va vl vc k, en = .returned (.tuple #[.slice va vl vc, .int .i64 k]) ∧ Q (.returned (.tuple #[.slice va vl vc, .int .i64 k])) w') : Calls Tryz.prog 19 #[.pointer (some ⟨d.wb, 0, none⟩), .int .u64 e, .int .i64 c] w Q := by
 have HC := Lib.hid (wRow_ok h e he hp ht)
 have HT := Lib.hid (fun (W : World) (hb : Below w.heap.size w W) => WMid.tab (h.below hb) ht)
 have HGG := Lib.hid HG
 clear h he hp ht HG
 go_enter Tryz.func19, Tryz.ntmps19
 go_wp2_with fail
 refine HC.out.mono ?_
 rintro en w1 ⟨rfl, hb⟩
 have HB := Lib.hid hb
 clear hb
 go_wp2_with fail
 refine (HGG.out _ HB.out (HT.out _ HB.out)).mono ?_
 rintro en w2 ⟨va, vl, vc, k, rfl, hq⟩
 have HQ := Lib.hid hq
 clear hq
 go_wp2_with fail
 exact HQ.out
theorem wGet_ok (h : WIn w d N) (e : Int) (h0 : 0 ≤ e) (c : Int) (hk : d.S.getE e c = 0) : Calls Tryz.prog 19 #[.pointer (some ⟨d.wb, 0, none⟩), .int .u64 e, .int .i64 c] w (IsGet (d.S.getV e c) w) := by
 by_cases he : e ∈ d.x.ix.liveL
 ·have hE : d.S.getE e c = match d.S.rowAt e with | none => 7 | some (s, _) => if hasB s c then 0 else 6 := h.if_live he _ _
  have hV0 : d.S.getV e c = match d.S.rowAt e with | none => [] | some (s, r) => valAt (cvOf s r) c := rfl
  rcases h.cases he with ⟨i, t, hp, ht⟩ | ⟨i, r, t, hp, ht⟩
  ·rw [rowAt_wait (show d.S.who e = _ from WMid.who_wait h hp ht)] at hE
   have hE : d.S.getE e c = 7 := hE
   rw [hE] at hk
   cases hk
  ·obtain ⟨v, row, hv, hvr, hV, hrl, _, hw, hrow⟩ := WMid.who_row h hp ht
   rw [h.rowAt_row hp ht hw] at hE hV0
   have hE : d.S.getE e c = if hasB t.set c then 0 else 6 := hE
   have hV0 : d.S.getV e c = valAt (cvOf t.set row) c := hV0
   cases hb : hasB t.set c with
   | false => rw [hb] at hE; rw [hE] at hk; cases hk
   | true =>
    rw [hV0]
    refine wGet_row h e he hp ht c fun W hB hT => ?_
    obtain ⟨j, x, dc, hx, hd, hid, hco, hix⟩ := hT.colIs hb
    have hjl : j < row.length := by rw [hrow]; exact (List.getElem?_eq_some_iff.1 hx).1
    have hrj : row[j]? = some row[j] := List.getElem?_eq_getElem hjl
    obtain ⟨hl, hfit, hwf⟩ := hV.at_ r j row row[j] x dc hvr hrj hx hd
    have hva : valAt (cvOf t.set row) c = row[j] := valAt_idx (idsTo_nodup _ _) hix hrj
    rw [hva]
    refine (tabGet_ok hT r j x dc row[j] c hrl hco hx hd hl hfit hwf).mono ?_
    rintro en w' ⟨va, vc, rfl, ho, hb'⟩
    exact ⟨va, _, vc, 0, rfl, va, vc, rfl, ownsRow_mono ho hB.size, hwf, hB.trans (hb'.mono hB.size)⟩
 ·have hE : d.S.getE e c = 11 := h.if_dead h0 he _ _
  rw [hE] at hk
  cases hk
end
end Go.Proofs.YthmpknlgkflhiabGreat
namespace Go.Proofs.YthmpknlgkflhiabGreat
open Go.RowKit
set_option linter.unusedVariables false
section
variable {w w' : World} {d : WD} {L : List Int} {N n : Nat} {va : Option Addr} {vl vc : Nat} {v : List WI}
def IntIn (d : WD) (w : World) (va : Option Addr) (vl vc : Nat) (v : List WI) : Prop := ∀ w', Out d.foot w w' → IntsAt w'.heap.size w' va vl vc v
theorem IntIn.now (h : IntIn d w va vl vc v) : IntsAt w.heap.size w va vl vc v := h w (Out.refl _ _)
theorem IntIn.go {d d' : WD} (h : IntIn d w va vl vc v) (hf : WFr d d' w w') : IntIn d' w' va vl vc v := fun w2 ho => h w2 (hf.out.trans ho hf.foot)
theorem IntIn.below (h : IntIn d w va vl vc v) (hb : Below w.heap.size w w') : IntIn d w' va vl vc v := h.go (WFr.of_below hb)
theorem chkPart (h : WMid w d L N) (hp : IntsAt w.heap.size w va vl vc v) (c : Int) : Calls Tryz.prog 36 #[.pointer (some ⟨d.gb, 0, none⟩)] w fun e w' => ∃ sa sc, e = .returned (.agg #[.int .i64 d.g.ver, .slice sa d.g.cs.length sc]) ∧ Below w.heap.size w w' ∧
  Calls Tryz.prog 46 #[.agg #[.int .i64 d.g.ver, .slice sa d.g.cs.length sc], .agg #[.int .i64 c, .slice va vl vc]] w' fun e w'' => e = .returned (.int .i64 (fC d.g.cs (c, v))) ∧ Below w'.heap.size w' w'' := by
 refine (gschema_any 0 d.gb d.g w h.raw.gr).mono ?_
 rintro e w1 ⟨sa, sc, rfl, hcs, hb⟩
 exact ⟨sa, sc, rfl, hb, checkPart_any d.g.ver d.g.cs sa d.g.cs.length sc ⟨c, va, vl, vc, v⟩ w1 hcs h.fields ((hp.below hb).mono hb.size)⟩
set_option maxRecDepth 100000 in
set_option maxHeartbeats 4000000 in
theorem wSet_dead (h : WIn w d N) (e : Int) (h0 : 0 ≤ e) (h1 : e < 18446744073709551616) (he : e ∉ d.x.ix.liveL) (c : Int) (va : Option Addr) (vl vc : Nat) {S' : WS} {M : Nat} (hM : N ≤ M) : Calls Tryz.prog 16 #[.pointer (some ⟨d.wb, 0, none⟩), .int .u64 e, .agg #[.int .i64 c, .slice va vl vc]] w (IsDeed d 11 S' M w) := by
 have hb0 : Below w.heap.size w (w.alloc (.cells #[.int .i64 c, .slice va vl vc] 48)) := by go_grown
 have hl := wLives_any (h.below hb0) e h0 h1
 rw [h.dead0 he h0] at hl
 have HL := Lib.hid hl
 have HB0 := Lib.hid hb0
 have HF := Lib.hid (fun (W : World) (hb : Below w.heap.size w W) => show IsDeed d 11 S' M w (.returned (.int .i64 11)) W from ⟨d, (h.below hb).mono hM, WFr.of_below hb, rfl, rfl, rfl⟩)
 clear h he hl hb0
 go_enter Tryz.func16, Tryz.ntmps16
 go_wp2_with fail
 refine HL.out.mono ?_
 rintro en w1 ⟨rfl, hb⟩
 have HFF := Lib.hid (HF.out _ (HB0.out.trans (hb.mono HB0.out.size)))
 clear hb
 go_wp2_with fail
 go_returns
 exact HFF.out
set_option maxRecDepth 100000 in
set_option maxHeartbeats 4000000 in
theorem wSet_bad (h : WIn w d N) (e : Int) (he : e ∈ d.x.ix.liveL) (hp : IntIn d w va vl vc v) (c : Int) (hk : fC d.g.cs (c, v) ≠ 0) {S' : WS} {M : Nat} (hM : N ≤ M) : Calls Tryz.prog 16 #[.pointer (some ⟨d.wb, 0, none⟩), .int .u64 e, .agg #[.int .i64 c, .slice va vl vc]] w (IsDeed d (fC d.g.cs (c, v)) S' M w) := by
 obtain ⟨h0, h1⟩ := h.bd he
 have hb0 : Below w.heap.size w (w.alloc (.cells #[.int .i64 c, .slice va vl vc] 48)) := by go_grown
 have hl := wLives_any (h.below hb0) e h0 h1
 rw [h.live0 he] at hl
 have HL := Lib.hid hl
 have HB0 := Lib.hid hb0
 have HP0 := Lib.hid (heap_alloc_new w (.cells #[.int .i64 c, .slice va vl vc] 48))
 have HCK := Lib.hid (fun (W : World) (hb : Below w.heap.size w W) => chkPart (h.below hb) (hp.below hb).now c)
 have C7 := Lib.hid (fun (W : World) (hb : Below w.heap.size w W) => (h.below hb).raw.cells.2.1)
 obtain ⟨k, hke⟩ : ∃ k, fC d.g.cs (c, v) = k := ⟨_, rfl⟩
 rw [hke] at HCK hk ⊢
 have HF := Lib.hid (fun (W : World) (hb : Below w.heap.size w W) => show IsDeed d k S' M w (.returned (.int .i64 k)) W from ⟨d, (h.below hb).mono hM, WFr.of_below hb, rfl, rfl, (if_neg hk).symm⟩)
 have hkn : (k != 0) = true := by simpa using hk
 clear h he hp hl hb0 hke hk
 go_enter Tryz.func16, Tryz.ntmps16
 go_wp2_with fail
 refine HL.out.mono ?_
 rintro en w1 ⟨rfl, hb⟩
 have HB1 := Lib.hid (HB0.out.trans (hb.mono HB0.out.size))
 have c7 := C7.out _ HB1.out
 have HP1 := Lib.hid (keep hb HP0.out)
 have q0 := cell_at HP1.out 0
 have q1 := cell_at HP1.out 1
 simp at q0 q1
 have hwl := lt_some HP1.out
 clear hb
 go_upto_region 4 with (fail)
 go_cut [8] (fun s8 wx => s8 = .int .i64 k ∧ Below w1.heap.size w1 wx)
 case first =>
  go_region_with (first
   | (go_at_call 36; refine (HCK.out _ (by first | exact HB1.out.drew | exact HB1.out)).mono ?_; rintro e1 w2 ⟨sa, sc, rfl, hb2, hcp⟩; have HCP := Lib.hid hcp; have HB2 := Lib.hid (undrew hb2); have hp2 := keep HB2.out HP1.out; have z0 := cell_at hp2 0; have z1 := cell_at hp2 1; simp at z0 z1; clear hb2 hcp hp2)
   | (go_at_call 46; refine HCP.out.mono ?_; rintro e1 w3 ⟨rfl, hb3⟩; have HB3 := Lib.hid (HB2.out.trans (hb3.mono HB2.out.size)); clear hb3))
  all_goals go_wp2_with fail
  all_goals go_meet
  all_goals exact ⟨rfl, HB3.out⟩
 case rest =>
  obtain ⟨rfl, hbc⟩ := hcut
  have HB4 := Lib.hid (HB1.out.trans (hbc.mono HB1.out.size))
  have HP4 := Lib.hid (keep hbc HP1.out)
  have c7' := C7.out _ HB4.out
  have y0 := cell_at HP4.out 0
  have y1 := cell_at HP4.out 1
  simp at y0 y1
  have hwl4 := lt_some HP4.out
  clear hbc q0 q1 c7
  have HFF := Lib.hid (HF.out _ HB4.out)
  go_wp2_with fail
  go_ret
  exact HFF.out
set_option maxRecDepth 100000 in
set_option maxHeartbeats 4000000 in
theorem wSet_wait (h : WIn w d N) (e : Int) (he : e ∈ d.x.ix.liveL) (hp : IntIn d w va vl vc v) (c : Int) (hk : fC d.g.cs (c, v) = 0) {i : Nat} (hpl : d.pl e = some ⟨i, none⟩) {S' : WS} : Calls Tryz.prog 16 #[.pointer (some ⟨d.wb, 0, none⟩), .int .u64 e, .agg #[.int .i64 c, .slice va vl vc]] w (IsDeed d 7 S' N w) := by
 obtain ⟨h0, h1⟩ := h.bd he
 have hb0 : Below w.heap.size w (w.alloc (.cells #[.int .i64 c, .slice va vl vc] 48)) := by go_grown
 have hl := wLives_any (h.below hb0) e h0 h1
 rw [h.live0 he] at hl
 have HL := Lib.hid hl
 have HB0 := Lib.hid hb0
 have HP0 := Lib.hid (heap_alloc_new w (.cells #[.int .i64 c, .slice va vl vc] 48))
 have HCK := Lib.hid (fun (W : World) (hb : Below w.heap.size w W) => chkPart (h.below hb) (hp.below hb).now c)
 have C7 := Lib.hid (fun (W : World) (hb : Below w.heap.size w W) => (h.below hb).raw.cells.2.1)
 have hb1 := h.bd he
 rw [hk] at HCK
 have HR := Lib.hid (fun (W : World) (hb : Below w.heap.size w W) => wRow_wait (h.below hb) e he hpl)
 have HF := Lib.hid (fun (W : World) (hb : Below w.heap.size w W) => show IsDeed d 7 S' N w (.returned (.int .i64 7)) W from ⟨d, h.below hb, WFr.of_below hb, rfl, rfl, rfl⟩)
 clear h he hp hl hb0 hk hpl
 go_enter Tryz.func16, Tryz.ntmps16
 go_wp2_with fail
 refine HL.out.mono ?_
 rintro en w1 ⟨rfl, hb⟩
 have HB1 := Lib.hid (HB0.out.trans (hb.mono HB0.out.size))
 have c7 := C7.out _ HB1.out
 have HP1 := Lib.hid (keep hb HP0.out)
 have q0 := cell_at HP1.out 0
 have q1 := cell_at HP1.out 1
 simp at q0 q1
 have hwl := lt_some HP1.out
 clear hb
 go_upto_region 4 with (fail)
 go_cut [8] (fun s8 wx => s8 = .int .i64 0 ∧ Below w1.heap.size w1 wx)
 case first =>
  go_region_with (first
   | (go_at_call 36; refine (HCK.out _ (by first | exact HB1.out.drew | exact HB1.out)).mono ?_; rintro e1 w2 ⟨sa, sc, rfl, hb2, hcp⟩; have HCP := Lib.hid hcp; have HB2 := Lib.hid (undrew hb2); have hp2 := keep HB2.out HP1.out; have z0 := cell_at hp2 0; have z1 := cell_at hp2 1; simp at z0 z1; clear hb2 hcp hp2)
   | (go_at_call 46; refine HCP.out.mono ?_; rintro e1 w3 ⟨rfl, hb3⟩; have HB3 := Lib.hid (HB2.out.trans (hb3.mono HB2.out.size)); clear hb3))
  all_goals go_wp2_with fail
  all_goals go_meet
  all_goals exact ⟨rfl, HB3.out⟩
 case rest =>
  obtain ⟨rfl, hbc⟩ := hcut
  have HB4 := Lib.hid (HB1.out.trans (hbc.mono HB1.out.size))
  have HP4 := Lib.hid (keep hbc HP1.out)
  have c7' := C7.out _ HB4.out
  have y0 := cell_at HP4.out 0
  have y1 := cell_at HP4.out 1
  simp at y0 y1
  have hwl4 := lt_some HP4.out
  clear hbc q0 q1 c7
  go_wp2_with fail
  refine (HR.out _ HB4.out).mono ?_
  rintro en w5 ⟨rfl, hb5⟩
  have HFF := Lib.hid (HF.out _ (HB4.out.trans (hb5.mono HB4.out.size)))
  clear hb5
  go_wp2_with fail
  go_returns
  exact HFF.out
set_option maxRecDepth 100000 in
set_option maxHeartbeats 4000000 in
theorem wSet_row (h : WIn w d N) (e : Int) (he : e ∈ d.x.ix.liveL) (hp : IntIn d w va vl vc v) (c : Int) (hk : fC d.g.cs (c, v) = 0) {i r : Nat} (hpl : d.pl e = some ⟨i, some r⟩) {t : TD} (ht : d.T[i]? = some t) {Q : Ending → World → Prop} (HG : ∀ W, Below w.heap.size w W → Calls Tryz.prog 53 #[.pointer (some ⟨t.tb, 0, none⟩), .int .i64 (r : Int), .agg #[.int .i64 c, .slice va vl vc]] W fun en w' => ∃ k, en = .returned (.int .i64 k) ∧ Q (.returned (.int .i64 k)) w') : Calls Tryz.prog 16 #[.pointer (some ⟨d.wb, 0, none⟩), .int .u64 e, .agg #[.int .i64 c, .slice va vl vc]] w Q := by
 obtain ⟨h0, h1⟩ := h.bd he
 have hb0 : Below w.heap.size w (w.alloc (.cells #[.int .i64 c, .slice va vl vc] 48)) := by go_grown
 have hl := wLives_any (h.below hb0) e h0 h1
 rw [h.live0 he] at hl
 have HL := Lib.hid hl
 have HB0 := Lib.hid hb0
 have HP0 := Lib.hid (heap_alloc_new w (.cells #[.int .i64 c, .slice va vl vc] 48))
 have HCK := Lib.hid (fun (W : World) (hb : Below w.heap.size w W) => chkPart (h.below hb) (hp.below hb).now c)
 have C7 := Lib.hid (fun (W : World) (hb : Below w.heap.size w W) => (h.below hb).raw.cells.2.1)
 rw [hk] at HCK
 have HR := Lib.hid (fun (W : World) (hb : Below w.heap.size w W) => wRow_ok (h.below hb) e he hpl ht)
 have HGG := Lib.hid HG
 clear h he hp hl hb0 hk hpl ht HG
 go_enter Tryz.func16, Tryz.ntmps16
 go_wp2_with fail
 refine HL.out.mono ?_
 rintro en w1 ⟨rfl, hb⟩
 have HB1 := Lib.hid (HB0.out.trans (hb.mono HB0.out.size))
 have c7 := C7.out _ HB1.out
 have HP1 := Lib.hid (keep hb HP0.out)
 have q0 := cell_at HP1.out 0
 have q1 := cell_at HP1.out 1
 simp at q0 q1
 have hwl := lt_some HP1.out
 clear hb
 go_upto_region 4 with (fail)
 go_cut [8] (fun s8 wx => s8 = .int .i64 0 ∧ Below w1.heap.size w1 wx)
 case first =>
  go_region_with (first
   | (go_at_call 36; refine (HCK.out _ (by first | exact HB1.out.drew | exact HB1.out)).mono ?_; rintro e1 w2 ⟨sa, sc, rfl, hb2, hcp⟩; have HCP := Lib.hid hcp; have HB2 := Lib.hid (undrew hb2); have hp2 := keep HB2.out HP1.out; have z0 := cell_at hp2 0; have z1 := cell_at hp2 1; simp at z0 z1; clear hb2 hcp hp2)
   | (go_at_call 46; refine HCP.out.mono ?_; rintro e1 w3 ⟨rfl, hb3⟩; have HB3 := Lib.hid (HB2.out.trans (hb3.mono HB2.out.size)); clear hb3))
  all_goals go_wp2_with fail
  all_goals go_meet
  all_goals exact ⟨rfl, HB3.out⟩
 case rest =>
  obtain ⟨rfl, hbc⟩ := hcut
  have HB4 := Lib.hid (HB1.out.trans (hbc.mono HB1.out.size))
  have HP4 := Lib.hid (keep hbc HP1.out)
  have c7' := C7.out _ HB4.out
  have y0 := cell_at HP4.out 0
  have y1 := cell_at HP4.out 1
  simp at y0 y1
  have hwl4 := lt_some HP4.out
  clear hbc q0 q1 c7
  go_wp2_with fail
  refine (HR.out _ HB4.out).mono ?_
  rintro en w5 ⟨rfl, hb5⟩
  have HB5 := Lib.hid (HB4.out.trans (hb5.mono HB4.out.size))
  have hp5 := keep hb5 HP4.out
  have x0 := cell_at hp5 0
  have x1 := cell_at hp5 1
  simp at x0 x1
  clear hb5 y0 y1 hp5
  go_wp2_with fail
  refine (HGG.out _ HB5.out).mono ?_
  rintro en w6 ⟨k, rfl, hq⟩
  have HQ := Lib.hid hq
  clear hq
  go_wp2_with fail
  exact HQ.out
theorem wSet_any (h : WIn w d N) (e : Int) (h0 : 0 ≤ e) (h1 : e < 18446744073709551616) (hp : IntIn d w va vl vc v) (c : Int) : Calls Tryz.prog 16 #[.pointer (some ⟨d.wb, 0, none⟩), .int .u64 e, .agg #[.int .i64 c, .slice va vl vc]] w (IsDeed d (d.S.setE e (c, v)) (d.S.setS e (c, v)) N w) := by
 by_cases he : e ∈ d.x.ix.liveL
 ·have hE : d.S.setE e (c, v) = if fC d.g.cs (c, v) ≠ 0 then fC d.g.cs (c, v) else match d.S.rowAt e with | none => 7 | some (s, _) => if hasB s c then 0 else 6 := h.if_live he _ _
  by_cases hk : fC d.g.cs (c, v) = 0
  ·rw [if_neg (fun hn => hn hk)] at hE
   rcases h.cases he with ⟨i, t, hpl, ht⟩ | ⟨i, r, t, hpl, ht⟩
   ·rw [rowAt_wait (show d.S.who e = _ from WMid.who_wait h hpl ht)] at hE
    have hE : d.S.setE e (c, v) = 7 := hE
    rw [hE]
    exact wSet_wait h e he hp c hk hpl
   ·obtain ⟨V, row, hv, hvr, hV, hrl, hent, hw, hrow⟩ := WMid.who_row h hpl ht
    have hS : d.S.setS e (c, v) = match d.S.rowAt e with | none => d.S | some (s, r) => { d.S with who := updW d.S.who e (some ⟨s, some (rowOfC (putC (cvOf s r) (c, v)) s)⟩) } := rfl
    rw [h.rowAt_row hpl ht hw] at hE hS
    have hE : d.S.setE e (c, v) = if hasB t.set c then 0 else 6 := hE
    have hS : d.S.setS e (c, v) = { d.S with who := updW d.S.who e (some ⟨t.set, some (rowOfC (putC (cvOf t.set row) (c, v)) t.set)⟩) } := hS
    cases hb : hasB t.set c with
    | false =>
     rw [hb] at hE
     have hE : d.S.setE e (c, v) = 6 := hE
     rw [hE]
     refine wSet_row h e he hp c hk hpl ht fun W hB => ?_
     have hT := WMid.tab (h.below hB) ht
     have hf : findErr t (r : Int) c = 6 := by unfold findErr; rw [if_pos ⟨by omega, by omega⟩, colOf_not hT.ids hb]; rfl
     refine (tabSet_no1 hT r c va vl vc (by rw [hf]; decide)).mono ?_
     rintro en w' ⟨rfl, hb'⟩
     rw [hf]
     have hbw := hB.trans (hb'.mono hB.size)
     exact ⟨6, rfl, d, h.below hbw, WFr.of_below hbw, rfl, rfl, rfl⟩
    | true =>
     rw [hb] at hE
     have hE : d.S.setE e (c, v) = 0 := hE
     rw [hE, hS]
     refine wSet_row h e he hp c hk hpl ht fun W hB => ?_
     have h' := h.below hB
     have hT := WMid.tab h' ht
     obtain ⟨j, x, dc, hx, hd, hid, hco, hix⟩ := hT.colIs hb
     have hjl : j < row.length := by rw [hrow]; exact (List.getElem?_eq_some_iff.1 hx).1
     obtain ⟨_, hlike⟩ := WMid.like h' ht
     have hfc : findC c d.g.cs = some x.c := by
      have hh := congrArg (·[j]?) hlike
      simp only [List.getElem?_map, hix] at hh
      have hcx : t.cs[j]? = some x.c := by unfold TD.cs; rw [List.getElem?_map, hx]; rfl
      rw [hcx] at hh
      simpa using hh
     have hfit : fitF x.c.fields v = 0 := by
      have hk' : cpF d.g.cs (pwOf (c, v)) = 0 := hk
      unfold cpF pwOf at hk'
      rw [hfc] at hk'
      exact hk'
     have hin := (hp.below hB).now
     refine (tabSet_deed hT hV r j x dc row hvr c va vl vc v hrl hco hx hd hin hfit hin.2.2.2.1).mono ?_
     rintro en w' ⟨rfl, t', hdd, e1, e2, e3, hV'⟩
     obtain ⟨hR, hF⟩ := h'.raw.tdeed ht hdd hV'
     have hpt := tabs_at ht hv
     have hrow2 : rowOfC (putC (cvOf t.set row) (c, v)) t.set = row.set j v := setRow v (by rw [hrow, ← hT.ids, List.length_map]) hix
     rw [hrow2]
     obtain ⟨d', hd'⟩ : ∃ d', d' = { d with T := d.T.set i t', V := d.V.set i (V.set r (row.set j v)) } := ⟨_, rfl⟩
     rw [← hd'] at hR hF
     have hP : d'.P = d.P.put i (PTof t V) r (row.set j v) := by
      rw [hd']
      show (⟨List.zipWith PTof (d.T.set i t') (d.V.set i (V.set r (row.set j v))), d.pl⟩ : PS) = ⟨d.P.tabs.set i _, d.pl⟩
      rw [zip_set]
      unfold PTof
      rw [hdd.set, e1, e2]; rfl
     have hwho : d'.P.who = updW d.P.who e (some ⟨t.set, some (row.set j v)⟩) := by
      refine updW_fun fun y => ?_
      rw [hP]
      exact PS.Ok.put_who h'.ok hpt _ hpl y
     refine ⟨0, rfl, d', ?_, (WFr.of_below hB).trans hF, by rw [hd'], rfl, ?_⟩
     ·have hok : d'.P.Ok d.x.ix.liveL := by rw [hP]; exact PS.Ok.put h'.ok hpt r _
      subst hd'
      exact ⟨hR, hok, h'.inv, h'.nw, h'.archs, h'.rows, h'.gens, h'.ents, h'.sch, h'.caps, h'.lbd⟩
     ·rw [if_pos rfl]
      subst hd'
      show (⟨d.caps, d.g.ver, d.g.cs, d.x.ix, d.g.sigs, _⟩ : WS) = ⟨d.caps, d.g.ver, d.g.cs, d.x.ix, d.g.sigs, _⟩
      rw [hwho]; rfl
  ·rw [if_pos hk] at hE
   rw [hE]
   exact wSet_bad h e he hp c hk (Nat.le_refl _)
 ·have hE : d.S.setE e (c, v) = 11 := h.if_dead h0 he _ _
  rw [hE]
  exact wSet_dead h e h0 h1 he c va vl vc (Nat.le_refl _)
end
end Go.Proofs.YthmpknlgkflhiabGreat
