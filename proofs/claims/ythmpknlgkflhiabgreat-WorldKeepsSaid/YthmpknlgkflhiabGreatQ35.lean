/- A world's readers: Live, Sigs, Count, Parts, Get. · A world's graph makes a table; room. · A world's rows go: drop. -/
import Derived.Test.YthmpknlgkflhiabGreatQ34
namespace Go.Proofs.YthmpknlgkflhiabGreat
open Go.RowKit
set_option linter.unusedVariables false
section
variable {w w' : World} {d : WD} {L : List Int} {N n : Nat}
theorem rowCv_eq {t : TD} (h : t.cps.map (·.c.id) = idsTo t.set 24) (r : List (List WI)) : rowCv t r = cvOf t.set r := by unfold rowCv cvOf; rw [h]
theorem WMid.who_row (h : WMid w d L N) {e : Int} {i r : Nat} (hp : d.pl e = some ⟨i, some r⟩) {t : TD} (ht : d.T[i]? = some t) : ∃ v row, d.V[i]? = some v ∧ v[r]? = some row ∧ Vals t v ∧ r < t.ents.length ∧ t.ents[r]? = some e ∧ d.P.who e = some ⟨t.set, some row⟩ ∧ row.length = t.cps.length := by
 obtain ⟨v, hv, hV, hpt⟩ := h.tabv ht
 obtain ⟨u, hu, hr⟩ := (h.ok.row e i r).1 hp
 rw [hpt] at hu
 cases hu
 have hr : t.ents[r]? = some e := hr
 have hrl := (List.getElem?_eq_some_iff.1 hr).1
 have hvl : r < v.length := by rw [hV.len]; exact hrl
 refine ⟨v, v[r], hv, List.getElem?_eq_getElem hvl, hV, hrl, hr, ?_, hV.row _ (List.getElem_mem hvl)⟩
 rw [Go.Proofs.YthmpknlgkflhiabGreat.who_row hp hpt]
 show some (Who.mk t.set (some (v.getD r []))) = _
 rw [List.getD_eq_getElem?_getD, List.getElem?_eq_getElem hvl]; rfl
theorem WIn.rowAt_row (h : WIn w d N) {e : Int} {i r : Nat} (hp : d.pl e = some ⟨i, some r⟩) {t : TD} (ht : d.T[i]? = some t) {row : List (List WI)} (hw : d.P.who e = some ⟨t.set, some row⟩) : d.S.rowAt e = some (t.set, row) := by
 show (match d.P.who e with | some ⟨s, some r⟩ => some (s, r) | _ => none) = _
 rw [hw]
theorem WMid.who_wait (h : WMid w d L N) {e : Int} {i : Nat} (hp : d.pl e = some ⟨i, none⟩) {t : TD} (ht : d.T[i]? = some t) : d.P.who e = some ⟨t.set, none⟩ := by
 obtain ⟨v, hv, hV, hpt⟩ := h.tabv ht
 rw [who_kept hp hpt]; rfl
theorem rowAt_wait {S : WS} {e s : Int} (h : S.who e = some ⟨s, none⟩) : S.rowAt e = none := by
 show (match S.who e with | some ⟨s, some r⟩ => some (s, r) | _ => none) = _
 rw [h]
theorem WIn.cases (h : WIn w d N) {e : Int} (he : e ∈ d.x.ix.liveL) : (∃ i t, d.pl e = some ⟨i, none⟩ ∧ d.T[i]? = some t) ∨ ∃ i r t, d.pl e = some ⟨i, some r⟩ ∧ d.T[i]? = some t := by
 obtain ⟨⟨i, r⟩, t, v, hp, ht, _⟩ := h.place he
 cases r with
 | none => exact .inl ⟨i, t, hp, ht⟩
 | some r => exact .inr ⟨i, r, t, hp, ht⟩
set_option maxRecDepth 100000 in
theorem wLive_any (h : WIn w d N) : Calls Tryz.prog 9 #[.pointer (some ⟨d.wb, 0, none⟩)] w (IsLive d.S.ix.liveL w) := by
 obtain ⟨c6, _, _⟩ := h.raw.cells
 have hx := xLive_any d.x w h.raw.ix
 have HX := Lib.hid hx
 obtain ⟨l, hl⟩ : ∃ l, d.S.ix.liveL = l := ⟨_, rfl⟩
 have hl2 : d.x.ix.liveL = l := hl
 rw [hl2] at hx
 rw [hl]
 have HX := Lib.hid hx
 clear h hx hl hl2
 go_enter Tryz.func9, Tryz.ntmps9
 go_wp2_with fail
 refine HX.out.mono ?_
 rintro e w1 ⟨va, vc, rfl, ho, hb⟩
 have HF := Lib.hid (And.intro ho hb)
 clear ho hb
 go_wp2_with fail
 go_returns
 exact ⟨va, vc, rfl, HF.out.1, HF.out.2⟩
set_option maxRecDepth 100000 in
theorem wSigs_any (h : WRaw w d n) : Calls Tryz.prog 11 #[.pointer (some ⟨d.wb, 0, none⟩)] w (IsSigs d.g w) := by
 obtain ⟨_, c7, _⟩ := h.cells
 have HX := Lib.hid (sigs_any 0 d.gb d.g w h.gr)
 clear h
 go_enter Tryz.func11, Tryz.ntmps11
 go_wp2_with fail
 refine HX.out.mono ?_
 rintro e w1 ⟨va, vc, rfl, ho, hb⟩
 have HF := Lib.hid (And.intro ho hb)
 clear ho hb
 go_wp2_with fail
 go_returns
 exact ⟨va, vc, rfl, HF.out.1, HF.out.2⟩
set_option maxRecDepth 100000 in
set_option maxHeartbeats 1000000 in
theorem wCount_any (h : WIn w d N) (s : Int) (h0 : 0 ≤ s) (h1 : s ≤ 4294967295) : Calls Tryz.prog 18 #[.pointer (some ⟨d.wb, 0, none⟩), .int .u32 s] w fun e w' => e = .returned (.int .i64 (d.S.cnt s : Int)) ∧ w = w' := by
 obtain ⟨_, c7, _⟩ := h.raw.cells
 have hf := gfind_any 0 d.gb d.g s w h.raw.gr h0 h1
 cases hp : posOf s d.g.sigs with
 | none =>
  rw [hp] at hf
  have hc : d.S.cnt s = 0 := by
   show d.x.ix.liveL.countP (hasSet d.P s) = 0
   rw [List.countP_eq_zero]
   intro e he
   obtain ⟨⟨i, r⟩, t, v, hpl, ht, hv, _⟩ := h.place he
   have hpt := tabs_at ht hv
   have hne : t.set ≠ s := fun e' => by
    have := WMid.pos h ht
    rw [e', hp] at this; cases this
   unfold hasSet
   cases r with
   | none => rw [who_kept hpl hpt]; exact fun hd => hne (of_decide_eq_true hd)
   | some r => rw [Go.Proofs.YthmpknlgkflhiabGreat.who_row hpl hpt]; exact fun hd => hne (of_decide_eq_true hd)
  rw [hc]
  have HF := Lib.hid hf
  clear h hf hp hc
  go_enter Tryz.func18, Tryz.ntmps18
  go_wp2_with fail
  refine HF.out.mono ?_
  rintro e w1 ⟨rfl, rfl⟩
  go_wp2_with fail
  go_returns
  exact ⟨rfl, rfl⟩
 | some i =>
  rw [hp] at hf
  obtain ⟨t, ht, hts⟩ := WMid.of_pos h hp
  have hc := h.cnt ht
  rw [hts] at hc
  have htb := WMid.tab h ht
  have hrm := htb.room
  have hm2 := htb.most2
  have htab := table_any 0 d.gb d.g (i : Int) w h.raw.gr
  rw [WMid.ptr h ht] at htab
  have HF := Lib.hid hf
  have HTAB := Lib.hid htab
  have HL := Lib.hid (tabLen_in htb)
  have HK := Lib.hid (tabKept_in htb)
  rw [hc]
  obtain ⟨a, ha⟩ : ∃ a, t.ents.length = a := ⟨_, rfl⟩
  obtain ⟨b, hb⟩ : ∃ b, t.kept = b := ⟨_, rfl⟩
  rw [ha, hb] at hrm ⊢
  rw [ha] at HL
  rw [hb] at HK
  clear h hf hp hc htb htab ht hts ha hb
  go_enter Tryz.func18, Tryz.ntmps18
  go_wp2_with fail
  refine HF.out.mono ?_
  rintro e w1 ⟨rfl, rfl⟩
  go_wp2_with fail
  refine HTAB.out.mono ?_
  rintro e w1 ⟨rfl, rfl⟩
  go_wp2_with fail
  refine HL.out.mono ?_
  rintro e w1 ⟨rfl, rfl⟩
  go_wp2_with fail
  refine HK.out.mono ?_
  rintro e w1 ⟨rfl, rfl⟩
  go_wp2_with fail
  go_returns
  exact ⟨ret_intk (by omega), rfl⟩
set_option maxRecDepth 100000 in
set_option maxHeartbeats 1000000 in
theorem wParts_ok (h : WIn w d N) (e : Int) (he : e ∈ d.x.ix.liveL) {s : Int} {row : List (List WI)} (hr : d.S.rowAt e = some (s, row)) : Calls Tryz.prog 10 #[.pointer (some ⟨d.wb, 0, none⟩), .int .u64 e] w (IsParts (cvOf s row) w) := by
 rcases h.cases he with ⟨i, t, hp, ht⟩ | ⟨i, r, t, hp, ht⟩
 ·rw [rowAt_wait (show d.S.who e = _ from WMid.who_wait h hp ht)] at hr; cases hr
 ·obtain ⟨v, row', hv, hvr, hV, hrl, _, hw, _⟩ := WMid.who_row h hp ht
  rw [h.rowAt_row hp ht hw] at hr
  cases hr
  have HC := Lib.hid (wRow_ok h e he hp ht)
  have HP := Lib.hid (fun (W : World) (hb : Below w.heap.size w W) => tabParts_ok (WMid.tab (h.below hb) ht) v hV r row hvr)
  have HE := Lib.hid (rowCv_eq (WMid.tab h ht).ids row)
  clear h he hp ht hv hvr hV hrl hw
  go_enter Tryz.func10, Tryz.ntmps10
  go_wp2_with fail
  refine HC.out.mono ?_
  rintro en w1 ⟨rfl, hb⟩
  have HB := Lib.hid hb
  clear hb
  go_wp2_with fail
  refine (HP.out _ HB.out).mono ?_
  rintro en w2 ⟨pa, pc, ps, rfl, hpo, hcv, hb2⟩
  rw [HE.out] at hpo hcv ⊢
  have HF := Lib.hid (show PO w.heap.size w2 pa (cvOf t.set row).length pc ps ∧ cv ps = cvOf t.set row ∧ Below w.heap.size w w2 from ⟨hpo.mono HB.out.size, hcv, HB.out.trans (hb2.mono HB.out.size)⟩)
  clear hpo hcv hb2
  go_wp2_with fail
  go_returns
  exact ⟨pa, pc, ps, rfl, HF.out.1, HF.out.2.1, HF.out.2.2⟩
end
end Go.Proofs.YthmpknlgkflhiabGreat
namespace Go.Proofs.YthmpknlgkflhiabGreat
open Go.RowKit
set_option linter.unusedVariables false
structure SameW (d d' : WD) : Prop where
 x : d'.x = d.x
 pl : d'.pl = d.pl
 caps : d'.caps = d.caps
 ver : d'.g.ver = d.g.ver
 cs : d'.g.cs = d.g.cs
 wb : d'.wb = d.wb
 gb : d'.gb = d.gb
 ab : d'.ab = d.ab
section
variable {w w' : World} {d : WD} {L : List Int} {N n : Nat}
theorem makeG_same (g : GS) (s : Int) (tb : Nat) : (makeG g s tb).1.ver = g.ver ∧ (makeG g s tb).1.rows = g.rows ∧ (makeG g s tb).1.cs = g.cs ∧ (makeG g s tb).1.archs = g.archs ∧ (makeG g s tb).1.nw = g.nw ∧ (makeG g s tb).1.ways = g.ways := by
 unfold makeG
 split
 ·exact ⟨rfl, rfl, rfl, rfl, rfl, rfl⟩
 ·split
  ·split <;> exact ⟨rfl, rfl, rfl, rfl, rfl, rfl⟩
  ·exact ⟨rfl, rfl, rfl, rfl, rfl, rfl⟩
theorem WMid.gold (h : WMid w d L N) {g' : GS} {ta' : Option Addr} {tc' : Nat} (hg : Graph 0 d.gb g' d.mb d.wmb ta' tc' w') (ho : GOut d.gb d.mb d.wmb d.ta ta' w w') (hs : g'.ver = d.g.ver ∧ g'.rows = d.g.rows ∧ g'.cs = d.g.cs ∧ g'.archs = d.g.archs) (hts : g'.ts = d.g.ts) (hi : Inv g') {M : Nat} (hn : g'.nw ≤ M) :
  WMid w' { d with g := g', ta := ta', tc := tc' } L M ∧ WFr d { d with g := g', ta := ta', tc := tc' } w w' := by
 obtain ⟨h1, h2⟩ := h.raw.gold hg ho ⟨hs.1, hs.2.1, hs.2.2.1⟩ hts
 exact ⟨⟨h1, h.ok, hi, hn, hs.2.2.2.trans h.archs, hs.2.1.trans h.rows, h.gens, h.ents, by show schemaCheck g'.ver g'.cs = 0; rw [hs.1, hs.2.2.1]; exact h.sch, h.caps, h.lbd⟩, h2⟩
theorem zip_snoc {T : List TD} {V : List (List (List (List WI)))} (hl : V.length = T.length) (t : TD) (v : List (List (List WI))) : List.zipWith PTof (T ++ [t]) (V ++ [v]) = List.zipWith PTof T V ++ [PTof t v] := by
 rw [List.zipWith_append hl.symm]; rfl
theorem WMid.gnew (h : WMid w d L N) {g' : GS} {ta' : Option Addr} {tc' : Nat} (hg : Graph 0 d.gb g' d.mb d.wmb ta' tc' w') (ho : GOut d.gb d.mb d.wmb d.ta ta' w w') (hs : g'.ver = d.g.ver ∧ g'.rows = d.g.rows ∧ g'.cs = d.g.cs ∧ g'.archs = d.g.archs) {tb : Nat} {set : Int} (hts : g'.ts = d.g.ts ++ [(tb, set)])
  (hN : TableNew w' tb d.g.ver d.g.cs set d.g.rows) (hlo : w.heap.size ≤ tb) (hok : tableOk d.g.ver d.g.cs set d.g.rows = true) (hp : posOf set d.g.sigs = none) (h0 : 0 ≤ set) (h1 : set ≤ 4294967295) (hi : Inv g') {M : Nat} (hn : g'.nw ≤ M) :
  ∃ d' t, WMid w' d' L M ∧ WFr d d' w w' ∧ SameW d d' ∧ d'.T = d.T ++ [t] ∧ d'.g = g' ∧ t.set = set ∧ t.free ≠ 0 ∧ d'.P = d.P.snoc set := by
 have hrows := h.caps.rows
 obtain ⟨t, h1', h2, e1, e2, e3, e4, e5⟩ := h.raw.gnew hg ho ⟨hs.1, hs.2.1, hs.2.2.1⟩ hts hN hlo hok h0 h1 (most := d.caps.rows.toNat) (by rw [h.rows]; omega)
 have hP : WD.P { d with g := g', ta := ta', tc := tc', T := d.T ++ [t], V := d.V ++ [[]] } = d.P.snoc set := by
  show (⟨List.zipWith PTof (d.T ++ [t]) (d.V ++ [[]]), d.pl⟩ : PS) = _
  rw [zip_snoc h.raw.vlen]
  show (⟨d.P.tabs ++ [PTof t []], d.pl⟩ : PS) = ⟨d.P.tabs ++ [⟨set, [], 0, []⟩], d.pl⟩
  unfold PTof
  rw [e2, e3, e4]
 refine ⟨_, t, ⟨h1', ?_, hi, hn, hs.2.2.2.trans h.archs, hs.2.1.trans h.rows, h.gens, h.ents, by show schemaCheck g'.ver g'.cs = 0; rw [hs.1, hs.2.2.1]; exact h.sch, h.caps, h.lbd⟩, h2, ⟨rfl, rfl, rfl, hs.1, hs.2.2.1, rfl, rfl, rfl⟩, rfl, rfl, e2, ?_, hP⟩
 ·rw [hP]
  refine h.ok.snoc ?_
  rw [h.sets_eq]
  intro hm
  obtain ⟨i, hi⟩ := List.getElem?_of_mem hm
  have := h.inv.nd i _ hi
  rw [hp] at this; cases this
 ·unfold TD.free
  rw [e3, e4, e5]
  show d.caps.rows.toNat - 0 - 0 ≠ 0
  omega
theorem WMid.made (h : WMid w d L N) {s : Int} {e : Ending} (hm : IsMake 0 d.gb d.g d.mb d.wmb d.ta s w e w') (h0 : 0 ≤ s) (h1 : s ≤ 4294967295) :
  (∃ i t d', posOf s d.g.sigs = some i ∧ d.T[i]? = some t ∧ t.set = s ∧ e = .returned (.tuple #[.int .i64 (i : Int), .int .i64 0]) ∧ WMid w' d' L N ∧ WFr d d' w w' ∧ SameW d d' ∧ d'.T = d.T ∧ d'.g = d.g ∧ d'.P = d.P) ∨
  (∃ d' k, posOf s d.g.sigs = none ∧ k ≠ 0 ∧ (if tableOk d.g.ver d.g.cs s d.caps.rows then (if d.caps.archs ≤ (d.g.sigs.length : Int) then (5 : Int) else 0) else 6) = k ∧ e = .returned (.tuple #[.int .i64 0, .int .i64 k]) ∧ WMid w' d' L N ∧ WFr d d' w w' ∧ SameW d d' ∧ d'.T = d.T ∧ d'.g = d.g ∧ d'.P = d.P) ∨
  (∃ d' t, posOf s d.g.sigs = none ∧ (if tableOk d.g.ver d.g.cs s d.caps.rows then (if d.caps.archs ≤ (d.g.sigs.length : Int) then (5 : Int) else 0) else 6) = 0 ∧ e = .returned (.tuple #[.int .i64 (d.T.length : Int), .int .i64 0]) ∧ WMid w' d' L N ∧ WFr d d' w w' ∧ SameW d d' ∧ d'.T = d.T ++ [t] ∧ d'.g.sigs = d.g.sigs ++ [s] ∧ t.set = s ∧ t.free ≠ 0 ∧ d'.P = d.P.snoc s) := by
 obtain ⟨tb, ta', tc', he, hg, hT, ho, hnew⟩ := hm
 have hsame := makeG_same d.g s tb
 have hinv := (h.inv.made h0 h1 tb).1
 cases hp : posOf s d.g.sigs with
 | some i =>
  obtain ⟨t, ht, hts⟩ := h.of_pos hp
  have hM := makeG_has hp tb
  rw [hM] at he hg
  obtain ⟨k1, k2⟩ := h.gold hg ho ⟨rfl, rfl, rfl, rfl⟩ rfl h.inv h.nw
  exact .inl ⟨i, t, _, rfl, ht, hts, he, k1, k2, ⟨rfl, rfl, rfl, rfl, rfl, rfl, rfl, rfl⟩, rfl, rfl, rfl⟩
 | none =>
  have hlen := h.tlen
  have hgl : (d.g.ts.length : Int) ≤ d.g.archs := by obtain ⟨_, _, _, _, _, hh⟩ := h.raw.gr; exact hh.wf.2.2.2.2.1
  have harch := h.archs
  cases hok : tableOk d.g.ver d.g.cs s d.g.rows with
  | false =>
   have hM := makeG_no hp hok tb
   rw [hM] at he hg
   obtain ⟨k1, k2⟩ := h.gold hg ho ⟨rfl, rfl, rfl, rfl⟩ rfl h.inv h.nw
   refine .inr (.inl ⟨_, 6, rfl, by decide, ?_, he, k1, k2, ⟨rfl, rfl, rfl, rfl, rfl, rfl, rfl, rfl⟩, rfl, rfl, rfl⟩)
   rw [← h.rows, hok]; rfl
  | true =>
   by_cases hf : d.g.archs = d.g.ts.length
   ·have hM := makeG_full hp hok hf tb
    rw [hM] at he hg
    obtain ⟨k1, k2⟩ := h.gold hg ho ⟨rfl, rfl, rfl, rfl⟩ rfl h.inv h.nw
    refine .inr (.inl ⟨_, 5, rfl, by decide, ?_, he, k1, k2, ⟨rfl, rfl, rfl, rfl, rfl, rfl, rfl, rfl⟩, rfl, rfl, rfl⟩)
    rw [← h.rows, hok, if_pos rfl, if_pos (by omega)]
   ·have hM := makeG_new hp hok hf tb
    have hsig : (makeG d.g s tb).1.sigs = d.g.sigs ++ [s] := by rw [hM]; simp [GS.sigs]
    have hts : (makeG d.g s tb).1.ts = d.g.ts ++ [(tb, s)] := by rw [hM]
    obtain ⟨n1, n2, n3, n4⟩ := hnew hts
    obtain ⟨d', t, k1, k2, k3, k4, k5, k6, k7, k8⟩ := h.gnew hg ho ⟨hsame.1, hsame.2.1, hsame.2.2.1, hsame.2.2.2.1⟩ hts n1 n2 n3 n4 h0 h1 hinv (M := N) (by rw [hsame.2.2.2.2.1]; exact h.nw)
    refine .inr (.inr ⟨d', t, rfl, ?_, ?_, k1, k2, k3, k4, by rw [k5]; exact hsig, k6, k7, k8⟩)
    ·rw [← h.rows, hok, if_pos rfl, if_neg (by omega)]
    ·rw [he, hM, hlen.2.1]
theorem openE_none {d : WD} {s : Int} (h : posOf s d.g.sigs = none) : d.S.openE s = (if tableOk d.g.ver d.g.cs s d.caps.rows then (if d.caps.archs ≤ (d.g.sigs.length : Int) then (5 : Int) else 0) else 6) ∧ d.S.openS s = d.g.sigs ++ [s] := by
 unfold WS.openE WS.openS
 rw [show d.S.sets = d.g.sigs from rfl, h]
 exact ⟨rfl, rfl⟩
theorem openE_some {d : WD} {s : Int} {i : Nat} (h : posOf s d.g.sigs = some i) : d.S.openE s = (if d.caps.rows ≤ (d.S.cnt s : Int) then (5 : Int) else 0) ∧ d.S.openS s = d.g.sigs := by
 unfold WS.openE WS.openS
 rw [show d.S.sets = d.g.sigs from rfl, h]
 exact ⟨rfl, rfl⟩
theorem SameW.live {d d' : WD} (h : SameW d d') : d'.x.ix.liveL = d.x.ix.liveL := by rw [h.x]
theorem WMid.toIn {d d' : WD} (h : WMid w d' d.x.ix.liveL N) (hs : SameW d d') : WIn w d' N := by
 unfold WIn
 rw [hs.live]; exact h
def IsRoomM (d : WD) (L : List Int) (s : Int) (N : Nat) (w : World) (e : Ending) (w' : World) : Prop :=
 ∃ d', WMid w' d' L N ∧ WFr d d' w w' ∧ SameW d d' ∧
  ((d.S.openE s ≠ 0 ∧ e = .returned (.tuple #[.int .i64 0, .int .i64 (d.S.openE s)]) ∧ d'.T = d.T ∧ d'.g = d.g ∧ d'.P = d.P) ∨
   (d.S.openE s = 0 ∧ ∃ i t, e = .returned (.tuple #[.int .i64 ((i : Nat) : Int), .int .i64 0]) ∧ d'.T[i]? = some t ∧ t.set = s ∧ t.free ≠ 0 ∧ d'.g.sigs = d.S.openS s ∧ (d'.P = d.P ∨ (posOf s d.g.sigs = none ∧ d'.P = d.P.snoc s))))
def IsRoom (d : WD) (s : Int) (N : Nat) (w : World) (e : Ending) (w' : World) : Prop :=
 ∃ d', WIn w' d' N ∧ WFr d d' w w' ∧ SameW d d' ∧
  ((d.S.openE s ≠ 0 ∧ e = .returned (.tuple #[.int .i64 0, .int .i64 (d.S.openE s)]) ∧ d'.T = d.T ∧ d'.g = d.g ∧ d'.P = d.P) ∨
   (d.S.openE s = 0 ∧ ∃ i t, e = .returned (.tuple #[.int .i64 ((i : Nat) : Int), .int .i64 0]) ∧ d'.T[i]? = some t ∧ t.set = s ∧ t.free ≠ 0 ∧ d'.g.sigs = d.S.openS s ∧ (d'.P = d.P ∨ (posOf s d.g.sigs = none ∧ d'.P = d.P.snoc s))))
def Counts (d : WD) (L : List Int) : Prop := ∀ s, d.S.cnt s = L.countP (hasSet d.P s)
theorem WMid.fullM (h : WMid w d L N) (hc : Counts d L) {i : Nat} {t : TD} (ht : d.T[i]? = some t) : t.free = 0 ↔ d.caps.rows ≤ (d.S.cnt t.set : Int) := by
 have h1 : d.S.cnt t.set = t.ents.length + t.kept := (hc t.set).trans (h.count ht)
 have h2 := (WMid.like h ht).1
 have h3 := (h.raw.tabs.tab t (List.mem_of_getElem? ht)).room
 unfold TD.free
 omega
set_option maxRecDepth 100000 in
set_option maxHeartbeats 2000000 in
theorem wRoom_mid (h : WMid w d L N) (hc : Counts d L) (s : Int) (h0 : 0 ≤ s) (h1 : s ≤ 4294967295) : Calls Tryz.prog 39 #[.pointer (some ⟨d.wb, 0, none⟩), .int .u32 s] w (IsRoomM d L s N w) := by
 obtain ⟨_, c7, _⟩ := h.raw.cells
 have hf := gfind_any 0 d.gb d.g s w h.raw.gr h0 h1
 have HMK := Lib.hid (fun (W : World) (hb : Below w.heap.size w W) => make_any 0 d.gb d.g s W (h.below hb).raw.gr h0 h1)
 have H := Lib.hid h
 have HB := Lib.hid h.raw.blk
 cases hp : posOf s d.g.sigs with
 | none =>
  rw [hp] at hf
  have HF := Lib.hid hf
  have HP := Lib.hid hp
  clear h hc hf hp
  go_enter Tryz.func39, Tryz.ntmps39
  go_wp2_with fail
  refine HF.out.mono ?_
  rintro e w1 ⟨rfl, rfl⟩
  go_wp2_with fail
  refine (HMK.out _ (Below.refl _ _)).mono ?_
  intro e w2 hm
  have hmade := WMid.made H.out hm h0 h1
  obtain ⟨q1, q2⟩ := openE_none HP.out
  rcases hmade with ⟨i, t, d', hp', _⟩ | ⟨d', k, _, hk, hke, rfl, k1, k2, k3, k4, k5, k6⟩ | ⟨d', t, _, hke, rfl, k1, k2, k3, k4, k5, k6, k7, k8⟩
  ·rw [HP.out] at hp'; cases hp'
  ·have HFIN := Lib.hid (show IsRoomM d L s N w (.returned (.tuple #[.int .i64 0, .int .i64 k])) w2 from ⟨d', k1, k2, k3, .inl ⟨by rw [q1, hke]; exact hk, by rw [q1, hke], k4, k5, k6⟩⟩)
   clear hm hk hke k1 k2 k3 k4 k5 k6 q1 q2
   go_wp2_with fail
   go_ret2
   exact HFIN.out
  ·have HFIN := Lib.hid (show IsRoomM d L s N w (.returned (.tuple #[.int .i64 (d.T.length : Int), .int .i64 0])) w2 from ⟨d', k1, k2, k3, .inr ⟨by rw [q1, hke], d.T.length, t, rfl, by rw [k4]; simp, k6, k7, by rw [k5, q2], .inr ⟨HP.out, k8⟩⟩⟩)
   clear hm hke k1 k2 k3 k4 k5 k6 k7 k8 q1 q2
   go_wp2_with fail
   go_ret2
   exact HFIN.out
 | some i =>
  rw [hp] at hf
  obtain ⟨t, ht, hts⟩ := WMid.of_pos h hp
  have htab := table_any 0 d.gb d.g (i : Int) w h.raw.gr
  rw [WMid.ptr h ht] at htab
  have hroom := tabRoom_in (WMid.tab h ht)
  have hfull := h.fullM hc ht
  rw [hts] at hfull
  obtain ⟨q1, q2⟩ := openE_some hp
  have HF := Lib.hid hf
  have HP := Lib.hid hp
  have HTAB := Lib.hid htab
  have HT := Lib.hid ht
  have HTS := Lib.hid hts
  have HQ := Lib.hid (And.intro q1 q2)
  have HFU := Lib.hid hfull
  obtain ⟨fr, hfr⟩ : ∃ fr, t.free = fr := ⟨_, rfl⟩
  rw [hfr] at hroom
  have HR := Lib.hid hroom
  have HFR := Lib.hid hfr
  clear h hc hf hp ht hts htab hroom hfull q1 q2 hfr
  by_cases hz : fr = 0
  ·subst hz
   go_enter Tryz.func39, Tryz.ntmps39
   go_wp2_with fail
   refine HF.out.mono ?_
   rintro e w1 ⟨rfl, rfl⟩
   go_wp2_with fail
   refine HTAB.out.mono ?_
   rintro e w1 ⟨rfl, rfl⟩
   go_wp2_with fail
   refine HR.out.mono ?_
   rintro e w1 ⟨rfl, nq, rfl⟩
   have h5 : d.S.openE s = 5 := by rw [HQ.out.1, if_pos (HFU.out.1 HFR.out)]
   have HFIN := Lib.hid (show IsRoomM d L s N w (.returned (.tuple #[.int .i64 0, .int .i64 5])) (w.drewN nq) from ⟨d, WMid.below H.out (below_drewN (Below.refl _ _) _), WFr.of_below (below_drewN (Below.refl _ _) _), ⟨rfl, rfl, rfl, rfl, rfl, rfl, rfl, rfl⟩, .inl ⟨by rw [h5]; decide, by rw [h5], rfl, rfl, rfl⟩⟩)
   clear h5
   go_wp2_with fail
   go_ret2
   exact HFIN.out
  ·have e1 : ((fr : Int) == 0) = false := by simp; omega
   go_enter Tryz.func39, Tryz.ntmps39
   go_wp2_with fail
   refine HF.out.mono ?_
   rintro e w1 ⟨rfl, rfl⟩
   go_wp2_with fail
   refine HTAB.out.mono ?_
   rintro e w1 ⟨rfl, rfl⟩
   go_wp2_with fail
   refine HR.out.mono ?_
   rintro e w1 ⟨rfl, nq, rfl⟩
   have hbq : Below w.heap.size w (w.drewN nq) := below_drewN (Below.refl _ _) _
   have HBQ := Lib.hid hbq
   have hc7 : (w.drewN nq).cell? ⟨d.wb, 7, none⟩ = _ := c7
   generalize w.drewN nq = W at HBQ hc7 ⊢
   clear hbq c7
   go_wp2_with fail
   refine (HMK.out _ HBQ.out).mono ?_
   intro e w2 hm
   have hmade := WMid.made (H.out.below HBQ.out) hm h0 h1
   rcases hmade with ⟨i', t', d', hp', ht', hts', rfl, k1, k2, k3, k4, k5, k6⟩ | ⟨d', k, hp', _⟩ | ⟨d', t', hp', _⟩
   ·rw [HP.out] at hp'
    cases hp'
    rw [HT.out] at ht'
    cases ht'
    have h5 : d.S.openE s = 0 := by rw [HQ.out.1, if_neg (fun hh => hz (HFR.out ▸ HFU.out.2 hh))]
    have HFIN := Lib.hid (show IsRoomM d L s N w (.returned (.tuple #[.int .i64 (i : Int), .int .i64 0])) w2 from ⟨d', k1, (WFr.of_below HBQ.out).trans k2, k3, .inr ⟨h5, i, t, rfl, by rw [k4]; exact HT.out, HTS.out, by rw [HFR.out]; exact hz, by rw [k5, HQ.out.2], .inl k6⟩⟩)
    clear hm hts' k1 k2 k3 k4 k5 k6 h5
    go_wp2_with fail
    go_ret2
    exact HFIN.out
   ·rw [HP.out] at hp'; cases hp'
   ·rw [HP.out] at hp'; cases hp'
theorem wRoom_any (h : WIn w d N) (s : Int) (h0 : 0 ≤ s) (h1 : s ≤ 4294967295) : Calls Tryz.prog 39 #[.pointer (some ⟨d.wb, 0, none⟩), .int .u32 s] w (IsRoom d s N w) := by
 refine (wRoom_mid h (fun _ => rfl) s h0 h1).mono ?_
 rintro e w' ⟨d', k1, k2, k3, k4⟩
 exact ⟨d', k1.toIn k3, k2, k3, k4⟩
end
end Go.Proofs.YthmpknlgkflhiabGreat
namespace Go.Proofs.YthmpknlgkflhiabGreat
open Go.RowKit
set_option linter.unusedVariables false
section
variable {w w' : World} {d : WD} {L L' : List Int} {N n : Nat}
theorem WMid.fin {d' : WD} (h : WMid w d L N) (hr : WRaw w' d' L'.length) (hP : d'.P.Ok L') (hg : d'.g = d.g) (hx : d'.x = d.x) (hc : d'.caps = d.caps) (hl : L'.length ≤ 257) : WMid w' d' L' N :=
 ⟨hr, hP, by rw [hg]; exact h.inv, by rw [hg]; exact h.nw, by rw [hg, hc]; exact h.archs, by rw [hg, hc]; exact h.rows, by rw [hx, hc]; exact h.gens, by rw [hx, hc]; exact h.ents, by rw [hg]; exact h.sch, by rw [hc]; exact h.caps, hl⟩
def Hands (L : List Int) : Prop := ∀ y ∈ L, 0 < y ∧ y < 18446744073709551616
theorem WIn.hands (h : WIn w d N) : Hands d.x.ix.liveL := fun y hy => by
 have := h.raw.ix.ok.live_bd hy
 omega
structure Dropd (d : WD) (e : Int) (i : Nat) (L' : List Int) (N : Nat) (w : World) (d' : WD) (w' : World) : Prop where
 mid : WMid w' d' L' N
 fr : WFr d d' w w'
 x : d'.x = d.x
 g : d'.g = d.g
 caps : d'.caps = d.caps
 gb : d'.gb = d.gb
 ab : d'.ab = d.ab
 who : d'.P.who = updW d.P.who e none
 tab : ∀ j, j ≠ i → d'.T[j]? = d.T[j]?
theorem delRun (h : WRaw w d n) (e : Int) (h0 : 0 ≤ e) (h1 : e < 18446744073709551616) (hs : (d.pl e).isSome = true) (ty : TypeId) : ∃ w1, (Builtin.delete_ #[86, 38] ty #[.map (some d.ab), .int .u64 e]).run Tryz.prog w = .ok (.tuple #[]) w1 ∧ WRaw w1 { d with pl := updP d.pl e none } (n - 1) ∧ WFr d { d with pl := updP d.pl e none } w w1 := by
 obtain ⟨w1, hrun, ha, hg, _⟩ := h.atm.drop h0 h1 ty
 rw [if_pos hs] at ha
 obtain ⟨k1, k2⟩ := h.adeed ha hg
 exact ⟨w1, hrun, k1, k2⟩
theorem putRun (h : WRaw w d n) (hn : n < 1000000) (e : Int) (h0 : 0 ≤ e) (h1 : e < 18446744073709551616) (p : Pl) : ∃ w1, (Instr.mapUpdate 86 (.map (some d.ab)) (.int .u64 e) (plV p)).run Tryz.prog w = .ok () w1 ∧ WRaw w1 { d with pl := updP d.pl e (some p) } (if (d.pl e).isSome then n else n + 1) ∧ WFr d { d with pl := updP d.pl e (some p) } w w1 := by
 obtain ⟨w1, hrun, ha, hg, _⟩ := h.atm.store hn h0 h1 p
 obtain ⟨k1, k2⟩ := h.adeed ha hg
 exact ⟨w1, hrun, k1, k2⟩
theorem updW_fun {f g : Int → Option Who} {e : Int} {z : Option Who} (h : ∀ y, f y = if y = e then z else g y) : f = updW g e z := by
 funext y; rw [h]; rfl
set_option maxRecDepth 100000 in
set_option maxHeartbeats 4000000 in
theorem wDrop_wait (h : WMid w d L N) (e : Int) (hL : Hands L) (hp : L.Perm (e :: L')) {i : Nat} (hpl : d.pl e = some ⟨i, none⟩) : Calls Tryz.prog 44 #[.pointer (some ⟨d.wb, 0, none⟩), .int .u64 e] w fun en w' => en = .returned (.tuple #[]) ∧ ∃ d', Dropd d e i L' N w d' w' := by
 have he : e ∈ L := h.ok.isIn hpl
 obtain ⟨h0, h1⟩ := hL e he
 obtain ⟨_, t, v, hpl', ht, hv, hV⟩ := h.at he
 rw [hpl] at hpl'
 cases hpl'
 simp only at ht hv
 have hpt := tabs_at ht hv
 obtain ⟨hOK, hk0⟩ := h.ok.yield hpt hpl hp
 have hlen : L'.length + 1 = L.length := by rw [hp.length_eq]; rfl
 obtain ⟨_, c7, c8⟩ := h.raw.cells
 have hl := h.raw.atm.look (by omega) h1
 rw [show atV d.pl e = plV ⟨i, none⟩ by unfold atV; rw [hpl], show plV ⟨i, none⟩ = .agg #[.int .i64 (i : Int), .int .i64 (-1)] from rfl] at hl
 have hb0 : Below w.heap.size w (w.alloc (.cells #[.int .i64 (i : Int), .int .i64 (-1)] 102)) := (Below.refl _ _).alloc (Nat.le_refl _) _
 have hn0 := heap_alloc_new w (.cells #[.int .i64 (i : Int), .int .i64 (-1)] 102)
 have hr0 := h.raw.below hb0
 obtain ⟨_, c7a, c8a⟩ := hr0.cells
 obtain ⟨w1, hdel, hr1, hf1⟩ := delRun hr0 e (by omega) h1 (by rw [hpl]; rfl) 0
 have hnp : ∀ {W : World} {n' : Nat}, WRaw (w.alloc (.cells #[.int .i64 (i : Int), .int .i64 (-1)] 102)) d n' → ¬ d.foot w.heap.size := fun _ hf => by have := h.raw.lt hf; omega
 have hk1 := hf1.out.keep hn0 (fun hf => by have := h.raw.lt hf; omega)
 have p0 := cell_at hk1 0
 have p1 := cell_at hk1 1
 simp at p0 p1
 obtain ⟨_, c7b, _⟩ := hr1.cells
 replace c7b : w1.cell? ⟨d.wb, 7, none⟩ = some (.pointer (some ⟨d.gb, 0, none⟩)) := c7b
 have htab := fun m => table_any 0 d.gb d.g (i : Int) (w1.drewN m) (hr1.below (below_drewN (Below.refl _ _) m)).gr
 rw [h.ptr ht] at htab
 have htin := fun m => ((hr1.below (below_drewN (Below.refl _ w1) m)).tabs.tab t (List.mem_of_getElem? ht))
 have hY := fun m => tabYield_deed (htin m) hV hk0
 have HTAB := Lib.hid htab
 have HY := Lib.hid hY
 have HR1 := Lib.hid hr1
 have HF1 := Lib.hid ((WFr.of_below hb0).trans hf1)
 have HH := Lib.hid h
 have HOK := Lib.hid hOK
 have HP := Lib.hid hpl
 have HT := Lib.hid ht
 have HV := Lib.hid hv
 have HPT := Lib.hid hpt
 have HLEN := Lib.hid hlen
 clear hnp h he hpl ht hv hV hpt hOK hk0 hlen hr0 hr1 hf1 hk1 htab htin hY hp hn0 hb0
 go_enter Tryz.func44, Tryz.ntmps44
 go_wp2_with fail
 go_quiet ((go_at_call 41; exact quiet_sm (HTAB.out _)))
 go_wp2_with fail
 have hb2 : Below w1.heap.size w1 (w1.drewN nq) := below_drewN (Below.refl _ _) _
 refine (HY.out nq).mono ?_
 rintro en w3 ⟨rfl, t', hd, e1, e2, e3, hV'⟩
 have hr2 := HR1.out.below hb2
 obtain ⟨k1, k2⟩ := hr2.tdeed (i := i) (t := t) HT.out hd hV'
 have hL' : L.length - 1 = L'.length := by have := HLEN.out; omega
 rw [hL'] at k1
 have hP2 : WD.P { { d with pl := updP d.pl e none } with T := d.T.set i t', V := d.V.set i v } = d.P.yield i (PTof t v) e := by
  show (⟨List.zipWith PTof (d.T.set i t') (d.V.set i v), updP d.pl e none⟩ : PS) = ⟨d.P.tabs.set i _, updP d.pl e none⟩
  rw [zip_set]
  unfold PTof
  rw [hd.set, e1, e2]; rfl
 have HFIN : Hid (∃ d', Dropd d e i L' N w d' w3) := Lib.hid ⟨_, ⟨HH.out.fin k1 (by rw [hP2]; exact HOK.out) rfl rfl rfl (by have := HH.out.lbd; omega), (HF1.out.trans (WFr.of_below hb2)).trans k2, rfl, rfl, rfl, rfl, rfl, by rw [hP2]; exact updW_fun (fun y => HH.out.ok.yield_who HPT.out y), fun j hj => set_other hj⟩⟩
 clear hd e1 e2 e3 hV' hr2 k1 k2 hL' hP2
 go_wp2_with fail
 (try simp only [Exit.inBlock, Exit.then])
 refine bodyPost_ret (results_none rfl _ _ _) rfl ?_
 exact ⟨rfl, HFIN.out⟩
end
end Go.Proofs.YthmpknlgkflhiabGreat
