/- A world's readers: who lives, who is awaited, rows, sets. · A world's readers: Live, Sigs, Count, Parts, Get. · A world's graph makes a table; room. · A world's rows go: drop. · graph.Schema; a world's Spawn: who can't be. -/
import Derived.Test.YtgebbmfoamkfnaaGreatDoorT34
import Derived.Test.YtgebbmfoamkfnaaGreatDoorT35
import Derived.Test.YtgebbmfoamkfnaaGreatDoorT13
namespace Go.Proofs.YtgebbmfoamkfnaaGreatDoor
open Go.RowKit
set_option linter.unusedVariables false
section
variable {w w' : World} {d : WD} {L : List Int} {N n : Nat}
theorem WRaw.cells (h : WRaw w d n) : w.cell? ⟨d.wb, 6, none⟩ = some (.pointer (some ⟨d.x.xb, 0, none⟩)) ∧ w.cell? ⟨d.wb, 7, none⟩ = some (.pointer (some ⟨d.gb, 0, none⟩)) ∧ w.cell? ⟨d.wb, 8, none⟩ = some (.map (some d.ab)) := by
 have c0 := cell_at h.blk 6
 have c1 := cell_at h.blk 7
 have c2 := cell_at h.blk 8
 simp at c0 c1 c2
 exact ⟨c0, c1, c2⟩
theorem field_pl0 (a b : Int) (w : World) : (Instr.field 122 (.agg #[.int .i64 a, .int .i64 b]) 0).run Tryz.prog w = .ok (.int .i64 a) w := by kernel_rfl
theorem field_pl1 (a b : Int) (w : World) : (Instr.field 122 (.agg #[.int .i64 a, .int .i64 b]) 1).run Tryz.prog w = .ok (.int .i64 b) w := by kernel_rfl
theorem wLives_any (h : WIn w d N) (e : Int) (h0 : 0 ≤ e) (h1 : e < 18446744073709551616) : Calls Tryz.prog 127 #[.pointer (some ⟨d.wb, 0, none⟩), .int .u64 e] w fun en w' => en = .returned (.int .i64 (d.S.deadE e)) ∧ Below w.heap.size w w' := by
 obtain ⟨c6, _, _⟩ := h.raw.cells
 have ha := xAlive_any d.x w h.raw.ix e h0 h1
 have HA := Lib.hid ha
 have hE : d.S.deadE e = if d.x.ix.alive e then 0 else 11 := rfl
 cases hl : d.x.ix.alive e
 ·rw [hl] at hE
  rw [hE]
  rw [hl] at ha
  have HC := Lib.hid ha
  clear ha h HA hE hl
  go_enter Tryz.func127, Tryz.ntmps127
  go_wp2_with fail
  refine HC.out.mono ?_
  rintro en w1 ⟨rfl, hb⟩
  go_wp2_with fail
  go_returns
  exact ⟨rfl, hb⟩
 ·rw [hl] at hE
  rw [hE]
  rw [hl] at ha
  have HC := Lib.hid ha
  clear ha h HA hE hl
  go_enter Tryz.func127, Tryz.ntmps127
  go_wp2_with fail
  refine HC.out.mono ?_
  rintro en w1 ⟨rfl, hb⟩
  go_wp2_with fail
  go_returns
  exact ⟨rfl, hb⟩
set_option maxRecDepth 100000 in
theorem wAwaited_any (h : WRaw w d n) (e : Int) (h0 : 0 ≤ e) (h1 : e < 18446744073709551616) {p : Pl} (hp : d.pl e = some p) : Calls Tryz.prog 129 #[.pointer (some ⟨d.wb, 0, none⟩), .int .u64 e] w fun en w' => en = .returned (.bool p.row.isNone) ∧ w = w' := by
 obtain ⟨_, _, c8⟩ := h.cells
 have hl := h.atm.look h0 h1
 have hv : atV d.pl e = plV p := by unfold atV; rw [hp]
 rw [hv] at hl
 unfold plV at hl
 have hfd := field_pl1
 cases hr : p.row with
 | none =>
  have hri : p.rowI = -1 := by unfold Pl.rowI; rw [hr]
  rw [hri] at hl
  clear h hp hv hr hri
  go_enter Tryz.func129, Tryz.ntmps129
  go_wp2_with fail
  go_returns
  exact ⟨rfl, rfl⟩
 | some r =>
  have hri : p.rowI = (r : Int) := by unfold Pl.rowI; rw [hr]
  rw [hri] at hl
  have hn : decide ((r : Int) < 0) = false := by simp
  clear h hp hv hr hri
  go_enter Tryz.func129, Tryz.ntmps129
  go_wp2_with fail
  go_returns
  exact ⟨rfl, rfl⟩
theorem WIn.place (h : WIn w d N) {e : Int} (he : e ∈ d.x.ix.liveL) : ∃ p t v, d.pl e = some p ∧ d.T[p.tab]? = some t ∧ d.V[p.tab]? = some v ∧ Vals t v := WMid.at h he
theorem WIn.bd (h : WIn w d N) {e : Int} (he : e ∈ d.x.ix.liveL) : 0 ≤ e ∧ e < 18446744073709551616 := by
 have := h.raw.ix.ok.live_bd he
 omega
theorem WIn.live0 (h : WIn w d N) {e : Int} (he : e ∈ d.x.ix.liveL) : d.S.deadE e = 0 := by
 have hh := (alive_in h (h.bd he).1).2 he
 show (if d.x.ix.alive e then (0 : Int) else 11) = 0
 rw [hh]; rfl
set_option maxRecDepth 100000 in
theorem wRow_wait (h : WIn w d N) (e : Int) (he : e ∈ d.x.ix.liveL) {i : Nat} (hp : d.pl e = some ⟨i, none⟩) : Calls Tryz.prog 96 #[.pointer (some ⟨d.wb, 0, none⟩), .int .u64 e] w fun en w' => en = .returned (.tuple #[.pointer none, .int .i64 0, .int .i64 7]) ∧ Below w.heap.size w w' := by
 obtain ⟨h0, h1⟩ := h.bd he
 have hc := wLives_any h e h0 h1
 rw [h.live0 he] at hc
 have HC := Lib.hid hc
 have HW := Lib.hid (fun (W : World) (hb : Below w.heap.size w W) => wAwaited_any (h.below hb).raw e h0 h1 hp)
 clear h hc he hp
 go_enter Tryz.func96, Tryz.ntmps96
 go_wp2_with fail
 refine HC.out.mono ?_
 rintro en w1 ⟨rfl, hb⟩
 go_wp2_with fail
 refine (HW.out _ hb).mono ?_
 rintro en w2 ⟨rfl, rfl⟩
 go_wp2_with fail
 go_returns
 exact ⟨rfl, hb⟩
set_option maxRecDepth 100000 in
set_option maxHeartbeats 2000000 in
theorem wRow_ok (h : WIn w d N) (e : Int) (he : e ∈ d.x.ix.liveL) {i r : Nat} (hp : d.pl e = some ⟨i, some r⟩) {t : TD} (ht : d.T[i]? = some t) : Calls Tryz.prog 96 #[.pointer (some ⟨d.wb, 0, none⟩), .int .u64 e] w fun en w' => en = .returned (.tuple #[.pointer (some ⟨t.tb, 0, none⟩), .int .i64 (r : Int), .int .i64 0]) ∧ Below w.heap.size w w' := by
 obtain ⟨h0, h1⟩ := h.bd he
 have hc := wLives_any h e h0 h1
 rw [h.live0 he] at hc
 have HC := Lib.hid hc
 have HW := Lib.hid (fun (W : World) (hb : Below w.heap.size w W) => wAwaited_any (h.below hb).raw e h0 h1 hp)
 have H := Lib.hid h
 have HP := Lib.hid hp
 have HT := Lib.hid (WMid.ptr h ht)
 clear h hc he hp ht
 go_enter Tryz.func96, Tryz.ntmps96
 go_wp2_with fail
 refine HC.out.mono ?_
 rintro en w1 ⟨rfl, hb⟩
 go_wp2_with fail
 refine (HW.out _ hb).mono ?_
 rintro en w2 ⟨rfl, rfl⟩
 have h2 := H.out.below hb
 obtain ⟨_, c7, c8⟩ := h2.raw.cells
 have hl := h2.raw.atm.look h0 h1
 have hv : atV d.pl e = plV ⟨i, some r⟩ := by unfold atV; rw [HP.out]
 rw [hv] at hl
 rw [show plV ⟨i, some r⟩ = .agg #[.int .i64 (i : Int), .int .i64 (r : Int)] from rfl] at hl
 have htab := fun (W : World) (hb' : Below w1.heap.size w1 W) => table_any 0 d.gb d.g (i : Int) W (h2.below hb').raw.gr
 rw [HT.out] at htab
 have HTAB := Lib.hid htab
 have HB := Lib.hid (h2.raw.blk)
 clear h2 hv htab
 go_wp2_with fail
 have hbA : Below w1.heap.size w1 (w1.alloc (.cells #[.int .i64 (i : Int), .int .i64 (r : Int)] 122)) := (Below.refl _ _).alloc (Nat.le_refl _) _
 have c7A : (w1.alloc (.cells #[.int .i64 (i : Int), .int .i64 (r : Int)] 122)).cell? ⟨d.wb, 7, none⟩ = some (.pointer (some ⟨d.gb, 0, none⟩)) := by rw [cell_at (keepA _ HB.out)]; rfl
 have p0 : (w1.alloc (.cells #[.int .i64 (i : Int), .int .i64 (r : Int)] 122)).cell? ⟨w1.heap.size, 0, none⟩ = some (.int .i64 (i : Int)) := by rw [cell_at (heap_alloc_new w1 _)]; rfl
 have p1 : (w1.alloc (.cells #[.int .i64 (i : Int), .int .i64 (r : Int)] 122)).cell? ⟨w1.heap.size, 1, none⟩ = some (.int .i64 (r : Int)) := by rw [cell_at (heap_alloc_new w1 _)]; rfl
 generalize w1.alloc (.cells #[.int .i64 (i : Int), .int .i64 (r : Int)] 122) = W at hbA c7A p0 p1 ⊢
 have HBA := Lib.hid hbA
 have HBW := Lib.hid hb
 clear c7 c8 hl hbA hb
 go_quiet ((go_at_call 52; exact quiet_sm (HTAB.out _ (below_drewN HBA.out _))))
 go_wp2_with fail
 go_returns
 exact ⟨rfl, below_drewN (HBW.out.trans (HBA.out.mono HBW.out.size)) _⟩
set_option maxRecDepth 100000 in
set_option maxHeartbeats 2000000 in
theorem wSig_ok (h : WIn w d N) (e : Int) (he : e ∈ d.x.ix.liveL) {p : Pl} (hp : d.pl e = some p) {t : TD} (ht : d.T[p.tab]? = some t) : Calls Tryz.prog 95 #[.pointer (some ⟨d.wb, 0, none⟩), .int .u64 e] w fun en w' => en = .returned (.tuple #[.int .u32 t.set, .int .i64 0]) ∧ Below w.heap.size w w' := by
 obtain ⟨h0, h1⟩ := h.bd he
 have hc := wLives_any h e h0 h1
 rw [h.live0 he] at hc
 have HC := Lib.hid hc
 have H := Lib.hid h
 have HP := Lib.hid hp
 have HT := Lib.hid (WMid.ptr h ht)
 have HTM := Lib.hid ht
 clear h hc he hp ht
 go_enter Tryz.func95, Tryz.ntmps95
 go_wp2_with fail
 refine HC.out.mono ?_
 rintro en w1 ⟨rfl, hb⟩
 have h2 := H.out.below hb
 obtain ⟨_, c7, c8⟩ := h2.raw.cells
 have HL := Lib.hid (fun (m : Nat) => (h2.raw.atm.out (F := fun _ => False) (Out.of (below_drewN (Below.refl _ w1) m)) id).look h0 h1)
 have hv : atV d.pl e = plV p := by unfold atV; rw [HP.out]
 have hl := fun m => HL.out m
 rw [hv] at hl
 unfold plV at hl
 have hfd := field_pl0
 have htab := fun m => table_any 0 d.gb d.g (p.tab : Int) (w1.drewN m) (h2.below (below_drewN (Below.refl _ _) m)).raw.gr
 rw [HT.out] at htab
 have HTAB := Lib.hid htab
 have HSIG := Lib.hid (fun m => tabSig_in (WMid.tab (h2.below (below_drewN (Below.refl _ _) m)) HTM.out))
 obtain ⟨z, hz⟩ : ∃ z : Int, p.rowI = z := ⟨_, rfl⟩
 rw [hz] at hl
 have hl0 := hl 0
 have HBW := Lib.hid hb
 clear h2 hv htab hz hb
 go_wp2_with fail
 go_quiet ((first | (go_at_call 52; exact quiet_sm (HTAB.out _)) | (go_at_call 128; exact quiet_sm (HSIG.out _))))
 go_wp2_with fail
 go_returns
 exact ⟨rfl, below_drewN HBW.out _⟩
end
end Go.Proofs.YtgebbmfoamkfnaaGreatDoor
namespace Go.Proofs.YtgebbmfoamkfnaaGreatDoor
open Go.RowKit
set_option linter.unusedVariables false
section
variable {w w' : World} {d : WD} {L : List Int} {N n : Nat}
theorem rowCv_eq {t : TD} (h : t.cps.map (·.c.id) = idsTo t.set 24) (r : List (List WI)) : rowCv t r = cvOf t.set r := by unfold rowCv cvOf; rw [h]
theorem WMid.who_row (h : WMid w d L N) {e : Int} {i r : Nat} (hp : d.pl e = some ⟨i, some r⟩) {t : TD} (ht : d.T[i]? = some t) : ∃ v row, d.V[i]? = some v ∧ v[r]? = some row ∧ Vals t v ∧ r < t.ents.length ∧ t.ents[r]? = some e ∧ d.P.who e = some ⟨t.set, some row⟩ ∧ row.length = t.cps.length := by
 obtain ⟨v, hv, hV, hpt⟩ := h.tabv ht
 obtain ⟨u, hu, hr⟩ := (h.ok.row e i r).1 hp
 rw [hpt] at hu
 cases hu
 have hr : t.ents[r]? = some e := hr
 have hrl := (List.getElem?_eq_some_iff.1 hr).1
 have hvl : r < v.length := by rw [hV.len]; exact hrl
 refine ⟨v, v[r], hv, List.getElem?_eq_getElem hvl, hV, hrl, hr, ?_, hV.row _ (List.getElem_mem hvl)⟩
 rw [Go.Proofs.YtgebbmfoamkfnaaGreatDoor.who_row hp hpt]
 show some (Who.mk t.set (some (v.getD r []))) = _
 rw [List.getD_eq_getElem?_getD, List.getElem?_eq_getElem hvl]; rfl
theorem WIn.rowAt_row (h : WIn w d N) {e : Int} {i r : Nat} (hp : d.pl e = some ⟨i, some r⟩) {t : TD} (ht : d.T[i]? = some t) {row : List (List WI)} (hw : d.P.who e = some ⟨t.set, some row⟩) : d.S.rowAt e = some (t.set, row) := by
 show (match d.P.who e with | some ⟨s, some r⟩ => some (s, r) | _ => none) = _
 rw [hw]
theorem WMid.who_wait (h : WMid w d L N) {e : Int} {i : Nat} (hp : d.pl e = some ⟨i, none⟩) {t : TD} (ht : d.T[i]? = some t) : d.P.who e = some ⟨t.set, none⟩ := by
 obtain ⟨v, hv, hV, hpt⟩ := h.tabv ht
 rw [who_kept hp hpt]; rfl
theorem rowAt_wait {S : WS} {e s : Int} (h : S.who e = some ⟨s, none⟩) : S.rowAt e = none := by
 show (match S.who e with | some ⟨s, some r⟩ => some (s, r) | _ => none) = _
 rw [h]
theorem WIn.cases (h : WIn w d N) {e : Int} (he : e ∈ d.x.ix.liveL) : (∃ i t, d.pl e = some ⟨i, none⟩ ∧ d.T[i]? = some t) ∨ ∃ i r t, d.pl e = some ⟨i, some r⟩ ∧ d.T[i]? = some t := by
 obtain ⟨⟨i, r⟩, t, v, hp, ht, _⟩ := h.place he
 cases r with
 | none => exact .inl ⟨i, t, hp, ht⟩
 | some r => exact .inr ⟨i, r, t, hp, ht⟩
set_option maxRecDepth 100000 in
theorem wLive_any (h : WIn w d N) : Calls Tryz.prog 20 #[.pointer (some ⟨d.wb, 0, none⟩)] w (IsLive d.S.ix.liveL w) := by
 obtain ⟨c6, _, _⟩ := h.raw.cells
 have hx := xLive_any d.x w h.raw.ix
 have HX := Lib.hid hx
 obtain ⟨l, hl⟩ : ∃ l, d.S.ix.liveL = l := ⟨_, rfl⟩
 have hl2 : d.x.ix.liveL = l := hl
 rw [hl2] at hx
 rw [hl]
 have HX := Lib.hid hx
 clear h hx hl hl2
 go_enter Tryz.func20, Tryz.ntmps20
 go_wp2_with fail
 refine HX.out.mono ?_
 rintro e w1 ⟨va, vc, rfl, ho, hb⟩
 have HF := Lib.hid (And.intro ho hb)
 clear ho hb
 go_wp2_with fail
 go_returns
 exact ⟨va, vc, rfl, HF.out.1, HF.out.2⟩
def NoParts (k : Int) (w : World) (e : Ending) (w' : World) : Prop := e = .returned (.tuple #[.slice none 0 0, .int .i64 k]) ∧ Below w.heap.size w w'
set_option maxRecDepth 100000 in
theorem wParts_wait (h : WIn w d N) (e : Int) (he : e ∈ d.x.ix.liveL) {i : Nat} (hp : d.pl e = some ⟨i, none⟩) : Calls Tryz.prog 57 #[.pointer (some ⟨d.wb, 0, none⟩), .int .u64 e] w (NoParts 7 w) := by
 have HC := Lib.hid (wRow_wait h e he hp)
 clear h he hp
 go_enter Tryz.func57, Tryz.ntmps57
 go_wp2_with fail
 refine HC.out.mono ?_
 rintro en w1 ⟨rfl, hb⟩
 go_wp2_with fail
 go_returns
 exact ⟨rfl, hb⟩
set_option maxRecDepth 100000 in
set_option maxHeartbeats 1000000 in
theorem wParts_ok (h : WIn w d N) (e : Int) (he : e ∈ d.x.ix.liveL) {s : Int} {row : List (List WI)} (hr : d.S.rowAt e = some (s, row)) : Calls Tryz.prog 57 #[.pointer (some ⟨d.wb, 0, none⟩), .int .u64 e] w (IsParts (cvOf s row) w) := by
 rcases h.cases he with ⟨i, t, hp, ht⟩ | ⟨i, r, t, hp, ht⟩
 ·rw [rowAt_wait (show d.S.who e = _ from WMid.who_wait h hp ht)] at hr; cases hr
 ·obtain ⟨v, row', hv, hvr, hV, hrl, _, hw, _⟩ := WMid.who_row h hp ht
  rw [h.rowAt_row hp ht hw] at hr
  cases hr
  have HC := Lib.hid (wRow_ok h e he hp ht)
  have HP := Lib.hid (fun (W : World) (hb : Below w.heap.size w W) => tabParts_ok (WMid.tab (h.below hb) ht) v hV r row hvr)
  have HE := Lib.hid (rowCv_eq (WMid.tab h ht).ids row)
  clear h he hp ht hv hvr hV hrl hw
  go_enter Tryz.func57, Tryz.ntmps57
  go_wp2_with fail
  refine HC.out.mono ?_
  rintro en w1 ⟨rfl, hb⟩
  have HB := Lib.hid hb
  clear hb
  go_wp2_with fail
  refine (HP.out _ HB.out).mono ?_
  rintro en w2 ⟨pa, pc, ps, rfl, hpo, hcv, hb2⟩
  rw [HE.out] at hpo hcv ⊢
  have HF := Lib.hid (show PO w.heap.size w2 pa (cvOf t.set row).length pc ps ∧ cv ps = cvOf t.set row ∧ Below w.heap.size w w2 from ⟨hpo.mono HB.out.size, hcv, HB.out.trans (hb2.mono HB.out.size)⟩)
  clear hpo hcv hb2
  go_wp2_with fail
  go_returns
  exact ⟨pa, pc, ps, rfl, HF.out.1, HF.out.2.1, HF.out.2.2⟩
end
end Go.Proofs.YtgebbmfoamkfnaaGreatDoor
namespace Go.Proofs.YtgebbmfoamkfnaaGreatDoor
open Go.RowKit
set_option linter.unusedVariables false
structure SameW (d d' : WD) : Prop where
 x : d'.x = d.x
 pl : d'.pl = d.pl
 caps : d'.caps = d.caps
 ver : d'.g.ver = d.g.ver
 cs : d'.g.cs = d.g.cs
 wb : d'.wb = d.wb
 gb : d'.gb = d.gb
 ab : d'.ab = d.ab
section
variable {w w' : World} {d : WD} {L : List Int} {N n : Nat}
theorem makeG_same (g : GS) (s : Int) (tb : Nat) : (makeG g s tb).1.ver = g.ver ∧ (makeG g s tb).1.rows = g.rows ∧ (makeG g s tb).1.cs = g.cs ∧ (makeG g s tb).1.archs = g.archs ∧ (makeG g s tb).1.nw = g.nw ∧ (makeG g s tb).1.ways = g.ways := by
 unfold makeG
 split
 ·exact ⟨rfl, rfl, rfl, rfl, rfl, rfl⟩
 ·split
  ·split <;> exact ⟨rfl, rfl, rfl, rfl, rfl, rfl⟩
  ·exact ⟨rfl, rfl, rfl, rfl, rfl, rfl⟩
theorem WMid.gold (h : WMid w d L N) {g' : GS} {ta' : Option Addr} {tc' : Nat} (hg : Graph 0 d.gb g' d.mb d.wmb ta' tc' w') (ho : GOut d.gb d.mb d.wmb d.ta ta' w w') (hs : g'.ver = d.g.ver ∧ g'.rows = d.g.rows ∧ g'.cs = d.g.cs ∧ g'.archs = d.g.archs) (hts : g'.ts = d.g.ts) (hi : Inv g') {M : Nat} (hn : g'.nw ≤ M) :
  WMid w' { d with g := g', ta := ta', tc := tc' } L M ∧ WFr d { d with g := g', ta := ta', tc := tc' } w w' := by
 obtain ⟨h1, h2⟩ := h.raw.gold hg ho ⟨hs.1, hs.2.1, hs.2.2.1⟩ hts
 exact ⟨⟨h1, h.ok, hi, hn, hs.2.2.2.trans h.archs, hs.2.1.trans h.rows, h.gens, h.ents, by show schemaCheck g'.ver g'.cs = 0; rw [hs.1, hs.2.2.1]; exact h.sch, h.caps, h.lbd⟩, h2⟩
theorem zip_snoc {T : List TD} {V : List (List (List (List WI)))} (hl : V.length = T.length) (t : TD) (v : List (List (List WI))) : List.zipWith PTof (T ++ [t]) (V ++ [v]) = List.zipWith PTof T V ++ [PTof t v] := by
 rw [List.zipWith_append hl.symm]; rfl
theorem WMid.gnew (h : WMid w d L N) {g' : GS} {ta' : Option Addr} {tc' : Nat} (hg : Graph 0 d.gb g' d.mb d.wmb ta' tc' w') (ho : GOut d.gb d.mb d.wmb d.ta ta' w w') (hs : g'.ver = d.g.ver ∧ g'.rows = d.g.rows ∧ g'.cs = d.g.cs ∧ g'.archs = d.g.archs) {tb : Nat} {set : Int} (hts : g'.ts = d.g.ts ++ [(tb, set)])
  (hN : TableNew w' tb d.g.ver d.g.cs set d.g.rows) (hlo : w.heap.size ≤ tb) (hok : tableOk d.g.ver d.g.cs set d.g.rows = true) (hp : posOf set d.g.sigs = none) (h0 : 0 ≤ set) (h1 : set ≤ 4294967295) (hi : Inv g') {M : Nat} (hn : g'.nw ≤ M) :
  ∃ d' t, WMid w' d' L M ∧ WFr d d' w w' ∧ SameW d d' ∧ d'.T = d.T ++ [t] ∧ d'.g = g' ∧ t.set = set ∧ t.free ≠ 0 ∧ d'.P = d.P.snoc set := by
 have hrows := h.caps.rows
 obtain ⟨t, h1', h2, e1, e2, e3, e4, e5⟩ := h.raw.gnew hg ho ⟨hs.1, hs.2.1, hs.2.2.1⟩ hts hN hlo hok h0 h1 (most := d.caps.rows.toNat) (by rw [h.rows]; omega)
 have hP : WD.P { d with g := g', ta := ta', tc := tc', T := d.T ++ [t], V := d.V ++ [[]] } = d.P.snoc set := by
  show (⟨List.zipWith PTof (d.T ++ [t]) (d.V ++ [[]]), d.pl⟩ : PS) = _
  rw [zip_snoc h.raw.vlen]
  show (⟨d.P.tabs ++ [PTof t []], d.pl⟩ : PS) = ⟨d.P.tabs ++ [⟨set, [], 0, []⟩], d.pl⟩
  unfold PTof
  rw [e2, e3, e4]
 refine ⟨_, t, ⟨h1', ?_, hi, hn, hs.2.2.2.trans h.archs, hs.2.1.trans h.rows, h.gens, h.ents, by show schemaCheck g'.ver g'.cs = 0; rw [hs.1, hs.2.2.1]; exact h.sch, h.caps, h.lbd⟩, h2, ⟨rfl, rfl, rfl, hs.1, hs.2.2.1, rfl, rfl, rfl⟩, rfl, rfl, e2, ?_, hP⟩
 ·rw [hP]
  refine h.ok.snoc ?_
  rw [h.sets_eq]
  intro hm
  obtain ⟨i, hi⟩ := List.getElem?_of_mem hm
  have := h.inv.nd i _ hi
  rw [hp] at this; cases this
 ·unfold TD.free
  rw [e3, e4, e5]
  show d.caps.rows.toNat - 0 - 0 ≠ 0
  omega
theorem WMid.made (h : WMid w d L N) {s : Int} {e : Ending} (hm : IsMake 0 d.gb d.g d.mb d.wmb d.ta s w e w') (h0 : 0 ≤ s) (h1 : s ≤ 4294967295) :
  (∃ i t d', posOf s d.g.sigs = some i ∧ d.T[i]? = some t ∧ t.set = s ∧ e = .returned (.tuple #[.int .i64 (i : Int), .int .i64 0]) ∧ WMid w' d' L N ∧ WFr d d' w w' ∧ SameW d d' ∧ d'.T = d.T ∧ d'.g = d.g ∧ d'.P = d.P) ∨
  (∃ d' k, posOf s d.g.sigs = none ∧ k ≠ 0 ∧ (if tableOk d.g.ver d.g.cs s d.caps.rows then (if d.caps.archs ≤ (d.g.sigs.length : Int) then (5 : Int) else 0) else 6) = k ∧ e = .returned (.tuple #[.int .i64 0, .int .i64 k]) ∧ WMid w' d' L N ∧ WFr d d' w w' ∧ SameW d d' ∧ d'.T = d.T ∧ d'.g = d.g ∧ d'.P = d.P) ∨
  (∃ d' t, posOf s d.g.sigs = none ∧ (if tableOk d.g.ver d.g.cs s d.caps.rows then (if d.caps.archs ≤ (d.g.sigs.length : Int) then (5 : Int) else 0) else 6) = 0 ∧ e = .returned (.tuple #[.int .i64 (d.T.length : Int), .int .i64 0]) ∧ WMid w' d' L N ∧ WFr d d' w w' ∧ SameW d d' ∧ d'.T = d.T ++ [t] ∧ d'.g.sigs = d.g.sigs ++ [s] ∧ t.set = s ∧ t.free ≠ 0 ∧ d'.P = d.P.snoc s) := by
 obtain ⟨tb, ta', tc', he, hg, hT, ho, hnew⟩ := hm
 have hsame := makeG_same d.g s tb
 have hinv := (h.inv.made h0 h1 tb).1
 cases hp : posOf s d.g.sigs with
 | some i =>
  obtain ⟨t, ht, hts⟩ := h.of_pos hp
  have hM := makeG_has hp tb
  rw [hM] at he hg
  obtain ⟨k1, k2⟩ := h.gold hg ho ⟨rfl, rfl, rfl, rfl⟩ rfl h.inv h.nw
  exact .inl ⟨i, t, _, rfl, ht, hts, he, k1, k2, ⟨rfl, rfl, rfl, rfl, rfl, rfl, rfl, rfl⟩, rfl, rfl, rfl⟩
 | none =>
  have hlen := h.tlen
  have hgl : (d.g.ts.length : Int) ≤ d.g.archs := by obtain ⟨_, _, _, _, _, hh⟩ := h.raw.gr; exact hh.wf.2.2.2.2.1
  have harch := h.archs
  cases hok : tableOk d.g.ver d.g.cs s d.g.rows with
  | false =>
   have hM := makeG_no hp hok tb
   rw [hM] at he hg
   obtain ⟨k1, k2⟩ := h.gold hg ho ⟨rfl, rfl, rfl, rfl⟩ rfl h.inv h.nw
   refine .inr (.inl ⟨_, 6, rfl, by decide, ?_, he, k1, k2, ⟨rfl, rfl, rfl, rfl, rfl, rfl, rfl, rfl⟩, rfl, rfl, rfl⟩)
   rw [← h.rows, hok]; rfl
  | true =>
   by_cases hf : d.g.archs = d.g.ts.length
   ·have hM := makeG_full hp hok hf tb
    rw [hM] at he hg
    obtain ⟨k1, k2⟩ := h.gold hg ho ⟨rfl, rfl, rfl, rfl⟩ rfl h.inv h.nw
    refine .inr (.inl ⟨_, 5, rfl, by decide, ?_, he, k1, k2, ⟨rfl, rfl, rfl, rfl, rfl, rfl, rfl, rfl⟩, rfl, rfl, rfl⟩)
    rw [← h.rows, hok, if_pos rfl, if_pos (by omega)]
   ·have hM := makeG_new hp hok hf tb
    have hsig : (makeG d.g s tb).1.sigs = d.g.sigs ++ [s] := by rw [hM]; simp [GS.sigs]
    have hts : (makeG d.g s tb).1.ts = d.g.ts ++ [(tb, s)] := by rw [hM]
    obtain ⟨n1, n2, n3, n4⟩ := hnew hts
    obtain ⟨d', t, k1, k2, k3, k4, k5, k6, k7, k8⟩ := h.gnew hg ho ⟨hsame.1, hsame.2.1, hsame.2.2.1, hsame.2.2.2.1⟩ hts n1 n2 n3 n4 h0 h1 hinv (M := N) (by rw [hsame.2.2.2.2.1]; exact h.nw)
    refine .inr (.inr ⟨d', t, rfl, ?_, ?_, k1, k2, k3, k4, by rw [k5]; exact hsig, k6, k7, k8⟩)
    ·rw [← h.rows, hok, if_pos rfl, if_neg (by omega)]
    ·rw [he, hM, hlen.2.1]
theorem openE_none {d : WD} {s : Int} (h : posOf s d.g.sigs = none) : d.S.openE s = (if tableOk d.g.ver d.g.cs s d.caps.rows then (if d.caps.archs ≤ (d.g.sigs.length : Int) then (5 : Int) else 0) else 6) ∧ d.S.openS s = d.g.sigs ++ [s] := by
 unfold WS.openE WS.openS
 rw [show d.S.sets = d.g.sigs from rfl, h]
 exact ⟨rfl, rfl⟩
theorem openE_some {d : WD} {s : Int} {i : Nat} (h : posOf s d.g.sigs = some i) : d.S.openE s = (if d.caps.rows ≤ (d.S.cnt s : Int) then (5 : Int) else 0) ∧ d.S.openS s = d.g.sigs := by
 unfold WS.openE WS.openS
 rw [show d.S.sets = d.g.sigs from rfl, h]
 exact ⟨rfl, rfl⟩
theorem SameW.live {d d' : WD} (h : SameW d d') : d'.x.ix.liveL = d.x.ix.liveL := by rw [h.x]
theorem WMid.toIn {d d' : WD} (h : WMid w d' d.x.ix.liveL N) (hs : SameW d d') : WIn w d' N := by
 unfold WIn
 rw [hs.live]; exact h
def IsRoomM (d : WD) (L : List Int) (s : Int) (N : Nat) (w : World) (e : Ending) (w' : World) : Prop :=
 ∃ d', WMid w' d' L N ∧ WFr d d' w w' ∧ SameW d d' ∧
  ((d.S.openE s ≠ 0 ∧ e = .returned (.tuple #[.int .i64 0, .int .i64 (d.S.openE s)]) ∧ d'.T = d.T ∧ d'.g = d.g ∧ d'.P = d.P) ∨
   (d.S.openE s = 0 ∧ ∃ i t, e = .returned (.tuple #[.int .i64 ((i : Nat) : Int), .int .i64 0]) ∧ d'.T[i]? = some t ∧ t.set = s ∧ t.free ≠ 0 ∧ d'.g.sigs = d.S.openS s ∧ (d'.P = d.P ∨ (posOf s d.g.sigs = none ∧ d'.P = d.P.snoc s))))
def IsRoom (d : WD) (s : Int) (N : Nat) (w : World) (e : Ending) (w' : World) : Prop :=
 ∃ d', WIn w' d' N ∧ WFr d d' w w' ∧ SameW d d' ∧
  ((d.S.openE s ≠ 0 ∧ e = .returned (.tuple #[.int .i64 0, .int .i64 (d.S.openE s)]) ∧ d'.T = d.T ∧ d'.g = d.g ∧ d'.P = d.P) ∨
   (d.S.openE s = 0 ∧ ∃ i t, e = .returned (.tuple #[.int .i64 ((i : Nat) : Int), .int .i64 0]) ∧ d'.T[i]? = some t ∧ t.set = s ∧ t.free ≠ 0 ∧ d'.g.sigs = d.S.openS s ∧ (d'.P = d.P ∨ (posOf s d.g.sigs = none ∧ d'.P = d.P.snoc s))))
def Counts (d : WD) (L : List Int) : Prop := ∀ s, d.S.cnt s = L.countP (hasSet d.P s)
theorem WMid.fullM (h : WMid w d L N) (hc : Counts d L) {i : Nat} {t : TD} (ht : d.T[i]? = some t) : t.free = 0 ↔ d.caps.rows ≤ (d.S.cnt t.set : Int) := by
 have h1 : d.S.cnt t.set = t.ents.length + t.kept := (hc t.set).trans (h.count ht)
 have h2 := (WMid.like h ht).1
 have h3 := (h.raw.tabs.tab t (List.mem_of_getElem? ht)).room
 unfold TD.free
 omega
set_option maxRecDepth 100000 in
set_option maxHeartbeats 2000000 in
theorem wRoom_mid (h : WMid w d L N) (hc : Counts d L) (s : Int) (h0 : 0 ≤ s) (h1 : s ≤ 4294967295) : Calls Tryz.prog 50 #[.pointer (some ⟨d.wb, 0, none⟩), .int .u32 s] w (IsRoomM d L s N w) := by
 obtain ⟨_, c7, _⟩ := h.raw.cells
 have hf := gfind_any 0 d.gb d.g s w h.raw.gr h0 h1
 have HMK := Lib.hid (fun (W : World) (hb : Below w.heap.size w W) => make_any 0 d.gb d.g s W (h.below hb).raw.gr h0 h1)
 have H := Lib.hid h
 have HB := Lib.hid h.raw.blk
 cases hp : posOf s d.g.sigs with
 | none =>
  rw [hp] at hf
  have HF := Lib.hid hf
  have HP := Lib.hid hp
  clear h hc hf hp
  go_enter Tryz.func50, Tryz.ntmps50
  go_wp2_with fail
  refine HF.out.mono ?_
  rintro e w1 ⟨rfl, rfl⟩
  go_wp2_with fail
  refine (HMK.out _ (Below.refl _ _)).mono ?_
  intro e w2 hm
  have hmade := WMid.made H.out hm h0 h1
  obtain ⟨q1, q2⟩ := openE_none HP.out
  rcases hmade with ⟨i, t, d', hp', _⟩ | ⟨d', k, _, hk, hke, rfl, k1, k2, k3, k4, k5, k6⟩ | ⟨d', t, _, hke, rfl, k1, k2, k3, k4, k5, k6, k7, k8⟩
  ·rw [HP.out] at hp'; cases hp'
  ·have HFIN := Lib.hid (show IsRoomM d L s N w (.returned (.tuple #[.int .i64 0, .int .i64 k])) w2 from ⟨d', k1, k2, k3, .inl ⟨by rw [q1, hke]; exact hk, by rw [q1, hke], k4, k5, k6⟩⟩)
   clear hm hk hke k1 k2 k3 k4 k5 k6 q1 q2
   go_wp2_with fail
   go_ret2
   exact HFIN.out
  ·have HFIN := Lib.hid (show IsRoomM d L s N w (.returned (.tuple #[.int .i64 (d.T.length : Int), .int .i64 0])) w2 from ⟨d', k1, k2, k3, .inr ⟨by rw [q1, hke], d.T.length, t, rfl, by rw [k4]; simp, k6, k7, by rw [k5, q2], .inr ⟨HP.out, k8⟩⟩⟩)
   clear hm hke k1 k2 k3 k4 k5 k6 k7 k8 q1 q2
   go_wp2_with fail
   go_ret2
   exact HFIN.out
 | some i =>
  rw [hp] at hf
  obtain ⟨t, ht, hts⟩ := WMid.of_pos h hp
  have htab := table_any 0 d.gb d.g (i : Int) w h.raw.gr
  rw [WMid.ptr h ht] at htab
  have hroom := tabRoom_in (WMid.tab h ht)
  have hfull := h.fullM hc ht
  rw [hts] at hfull
  obtain ⟨q1, q2⟩ := openE_some hp
  have HF := Lib.hid hf
  have HP := Lib.hid hp
  have HTAB := Lib.hid htab
  have HT := Lib.hid ht
  have HTS := Lib.hid hts
  have HQ := Lib.hid (And.intro q1 q2)
  have HFU := Lib.hid hfull
  obtain ⟨fr, hfr⟩ : ∃ fr, t.free = fr := ⟨_, rfl⟩
  rw [hfr] at hroom
  have HR := Lib.hid hroom
  have HFR := Lib.hid hfr
  clear h hc hf hp ht hts htab hroom hfull q1 q2 hfr
  by_cases hz : fr = 0
  ·subst hz
   go_enter Tryz.func50, Tryz.ntmps50
   go_wp2_with fail
   refine HF.out.mono ?_
   rintro e w1 ⟨rfl, rfl⟩
   go_wp2_with fail
   refine HTAB.out.mono ?_
   rintro e w1 ⟨rfl, rfl⟩
   go_wp2_with fail
   refine HR.out.mono ?_
   rintro e w1 ⟨rfl, nq, rfl⟩
   have h5 : d.S.openE s = 5 := by rw [HQ.out.1, if_pos (HFU.out.1 HFR.out)]
   have HFIN := Lib.hid (show IsRoomM d L s N w (.returned (.tuple #[.int .i64 0, .int .i64 5])) (w.drewN nq) from ⟨d, WMid.below H.out (below_drewN (Below.refl _ _) _), WFr.of_below (below_drewN (Below.refl _ _) _), ⟨rfl, rfl, rfl, rfl, rfl, rfl, rfl, rfl⟩, .inl ⟨by rw [h5]; decide, by rw [h5], rfl, rfl, rfl⟩⟩)
   clear h5
   go_wp2_with fail
   go_ret2
   exact HFIN.out
  ·have e1 : ((fr : Int) == 0) = false := by simp; omega
   go_enter Tryz.func50, Tryz.ntmps50
   go_wp2_with fail
   refine HF.out.mono ?_
   rintro e w1 ⟨rfl, rfl⟩
   go_wp2_with fail
   refine HTAB.out.mono ?_
   rintro e w1 ⟨rfl, rfl⟩
   go_wp2_with fail
   refine HR.out.mono ?_
   rintro e w1 ⟨rfl, nq, rfl⟩
   have hbq : Below w.heap.size w (w.drewN nq) := below_drewN (Below.refl _ _) _
   have HBQ := Lib.hid hbq
   have hc7 : (w.drewN nq).cell? ⟨d.wb, 7, none⟩ = _ := c7
   generalize w.drewN nq = W at HBQ hc7 ⊢
   clear hbq c7
   go_wp2_with fail
   refine (HMK.out _ HBQ.out).mono ?_
   intro e w2 hm
   have hmade := WMid.made (H.out.below HBQ.out) hm h0 h1
   rcases hmade with ⟨i', t', d', hp', ht', hts', rfl, k1, k2, k3, k4, k5, k6⟩ | ⟨d', k, hp', _⟩ | ⟨d', t', hp', _⟩
   ·rw [HP.out] at hp'
    cases hp'
    rw [HT.out] at ht'
    cases ht'
    have h5 : d.S.openE s = 0 := by rw [HQ.out.1, if_neg (fun hh => hz (HFR.out ▸ HFU.out.2 hh))]
    have HFIN := Lib.hid (show IsRoomM d L s N w (.returned (.tuple #[.int .i64 (i : Int), .int .i64 0])) w2 from ⟨d', k1, (WFr.of_below HBQ.out).trans k2, k3, .inr ⟨h5, i, t, rfl, by rw [k4]; exact HT.out, HTS.out, by rw [HFR.out]; exact hz, by rw [k5, HQ.out.2], .inl k6⟩⟩)
    clear hm hts' k1 k2 k3 k4 k5 k6 h5
    go_wp2_with fail
    go_ret2
    exact HFIN.out
   ·rw [HP.out] at hp'; cases hp'
   ·rw [HP.out] at hp'; cases hp'
theorem wRoom_any (h : WIn w d N) (s : Int) (h0 : 0 ≤ s) (h1 : s ≤ 4294967295) : Calls Tryz.prog 50 #[.pointer (some ⟨d.wb, 0, none⟩), .int .u32 s] w (IsRoom d s N w) := by
 refine (wRoom_mid h (fun _ => rfl) s h0 h1).mono ?_
 rintro e w' ⟨d', k1, k2, k3, k4⟩
 exact ⟨d', k1.toIn k3, k2, k3, k4⟩
end
end Go.Proofs.YtgebbmfoamkfnaaGreatDoor
namespace Go.Proofs.YtgebbmfoamkfnaaGreatDoor
open Go.RowKit
set_option linter.unusedVariables false
section
variable {w w' : World} {d : WD} {L L' : List Int} {N n : Nat}
theorem WMid.fin {d' : WD} (h : WMid w d L N) (hr : WRaw w' d' L'.length) (hP : d'.P.Ok L') (hg : d'.g = d.g) (hx : d'.x = d.x) (hc : d'.caps = d.caps) (hl : L'.length ≤ 257) : WMid w' d' L' N :=
 ⟨hr, hP, by rw [hg]; exact h.inv, by rw [hg]; exact h.nw, by rw [hg, hc]; exact h.archs, by rw [hg, hc]; exact h.rows, by rw [hx, hc]; exact h.gens, by rw [hx, hc]; exact h.ents, by rw [hg]; exact h.sch, by rw [hc]; exact h.caps, hl⟩
theorem putRun (h : WRaw w d n) (hn : n < 1000000) (e : Int) (h0 : 0 ≤ e) (h1 : e < 18446744073709551616) (p : Pl) : ∃ w1, (Instr.mapUpdate 109 (.map (some d.ab)) (.int .u64 e) (plV p)).run Tryz.prog w = .ok () w1 ∧ WRaw w1 { d with pl := updP d.pl e (some p) } (if (d.pl e).isSome then n else n + 1) ∧ WFr d { d with pl := updP d.pl e (some p) } w w1 := by
 obtain ⟨w1, hrun, ha, hg, _⟩ := h.atm.store hn h0 h1 p
 obtain ⟨k1, k2⟩ := h.adeed ha hg
 exact ⟨w1, hrun, k1, k2⟩
theorem updW_fun {f g : Int → Option Who} {e : Int} {z : Option Who} (h : ∀ y, f y = if y = e then z else g y) : f = updW g e z := by
 funext y; rw [h]; rfl
end
end Go.Proofs.YtgebbmfoamkfnaaGreatDoor
namespace Go.Proofs.YtgebbmfoamkfnaaGreatDoor
open Go.RowKit
set_option linter.unusedVariables false
set_option maxRecDepth 100000 in
theorem gschema_any (B1 gb : Nat) (g : GS) (w : World) {mb wb : Nat} {ta : Option Addr} {tc : Nat} (h : Graph B1 gb g mb wb ta tc w) : Calls Tryz.prog 47 #[.pointer (some ⟨gb, 0, none⟩)] w fun e w' => ∃ va vc, e = .returned (.agg #[.int .i64 g.ver, .slice va g.cs.length vc]) ∧ CompsAt w'.heap.size w' va g.cs.length g.cs ∧ Below w.heap.size w w' := by
 obtain ⟨ca, cl, cc, bs, ws, h⟩ := h
 have hcl : g.cs.length = cl := h.comps.1
 have hb0 : Below w.heap.size w (w.alloc (.cells #[.int .i64 0, .slice none 0 0] 24)) := by go_grown
 have hU := heap_alloc_new w (.cells #[.int .i64 0, .slice none 0 0] 24)
 have h' := h.below hb0
 have c0 := cell_at h'.blk 0
 have c1 := cell_at h'.blk 1
 simp at c0 c1
 have H := Lib.hid (And.intro h' (And.intro hU hb0))
 have HL := Lib.hid hcl
 clear h h' hU hb0 hcl
 go_enter Tryz.func47, Tryz.ntmps47
 go_wp2_with fail
 refine (schemaClone_any _ _ _ _ _ _ H.out.1.comps H.out.1.cn.2 H.out.1.wf.2.1 H.out.1.cn.1).mono ?_
 rintro e w2 ⟨va, vc, rfl, hcs2, hvn, hb2, hty2⟩
 have hU2 := keep hb2 H.out.2.1
 have f0 := free_at hU2 0
 have f1 := free_at hU2 1
 have u0 := cell_at hU2 0
 have u1 := cell_at hU2 1
 simp at u0 u1
 have HC := Lib.hid hcs2
 have HTY := Lib.hid hty2
 have HU2 := Lib.hid hU2
 have HB := Lib.hid hb2
 clear hcs2 hb2 hU2 hty2
 have hb3 : Below w.heap.size w ((w2.setCell ⟨w.heap.size, 0, none⟩ (.int .i64 g.ver)).setCell ⟨w.heap.size, 1, none⟩ (.slice va cl vc)) := ((H.out.2.2.trans (HB.out.mono H.out.2.2.size)).setCell (by simp) _).setCell (by simp) _
 have k2 := hset _ _ 1 (.slice va cl vc) _ _ _ (hset _ _ 0 (.int .i64 g.ver) _ _ _ HU2.out)
 simp at k2
 have r0 := cell_at (hset _ _ 0 (.int .i64 g.ver) _ _ _ HU2.out) 0
 have r1 := cell_at k2 1
 simp at r0 r1
 have hty : KeepsTy w2 ((w2.setCell ⟨w.heap.size, 0, none⟩ (.int .i64 g.ver)).setCell ⟨w.heap.size, 1, none⟩ (.slice va cl vc)) := by
  intro b c e fz hb he
  have hne : b ≠ w.heap.size := fun e' => by subst e'; rw [HU2.out] at hb; cases hb; rcases he with h | h <;> cases h
  rw [hset_ne _ _ _ _ hne, hset_ne _ _ _ _ hne]
  exact hb
 have HF := Lib.hid (And.intro hb3 ((HC.out.ty HTY.out hty)))
 clear hb3 k2 hty
 go_wp2_with fail
 refine bodyPost_ret (v := .agg #[.int .i64 g.ver, .slice va cl vc]) (by simp [results, Tryz.results47, go_sem, r0, r1]) rfl ?_
 refine ⟨va, vc, by rw [HL.out], ?_, HF.out.1⟩
 rw [HL.out]
 simpa [World.setCell] using HF.out.2
section
variable {w w' : World} {d : WD} {L L' : List Int} {N n : Nat} {pa : Option Addr} {pl pc : Nat} {ps : List PW}
structure PartsIn (d : WD) (w : World) (pa : Option Addr) (pl pc : Nat) (ps : List PW) : Prop where
 at_ : ∀ w', Out d.foot w w' → PartsAt w'.heap.size w' pa pl pc ps
 len : pl ≤ 100000
theorem PartsIn.now (h : PartsIn d w pa pl pc ps) : PartsAt w.heap.size w pa pl pc ps := h.at_ w (Out.refl _ _)
theorem PartsIn.go {d d' : WD} (h : PartsIn d w pa pl pc ps) (hf : WFr d d' w w') : PartsIn d' w' pa pl pc ps :=
 ⟨fun w2 ho => h.at_ w2 (hf.out.trans ho hf.foot), h.len⟩
theorem PartsIn.below (h : PartsIn d w pa pl pc ps) (hb : Below w.heap.size w w') : PartsIn d w' pa pl pc ps := h.go (WFr.of_below hb)
theorem PartsIn.wf (h : PartsIn d w pa pl pc ps) : ∀ p ∈ ps, ∀ y ∈ p.val, y.wf := fun p hp y hy => (h.now.2.2.2.1 p hp).2.2.2.1 y hy
theorem WMid.fields (h : WMid w d L N) : ∀ c ∈ d.g.cs, c.fields.length ≤ 100000 := by obtain ⟨_, _, _, _, _, hh⟩ := h.raw.gr; exact hh.wf.2.1
theorem chkParts (h : WMid w d L N) (hp : PartsIn d w pa pl pc ps) : Calls Tryz.prog 47 #[.pointer (some ⟨d.gb, 0, none⟩)] w fun e w' => ∃ va vc, e = .returned (.agg #[.int .i64 d.g.ver, .slice va d.g.cs.length vc]) ∧ Below w.heap.size w w' ∧
  Calls Tryz.prog 46 #[.agg #[.int .i64 d.g.ver, .slice va d.g.cs.length vc], .slice pa pl pc] w' fun e w'' => e = .returned (.int .i64 (cpC d.g.cs (cv ps))) ∧ Below w'.heap.size w' w'' := by
 refine (gschema_any 0 d.gb d.g w h.raw.gr).mono ?_
 rintro e w1 ⟨va, vc, rfl, hcs, hb⟩
 refine ⟨va, vc, rfl, hb, ?_⟩
 rw [cpC_cv]
 exact checkParts_any d.g.ver d.g.cs va d.g.cs.length vc ps pa pl pc w1 hcs h.fields (hp.below hb).now
def IsSpawn (d : WD) (l : List (Int × List WI)) (N : Nat) (w : World) (en : Ending) (w' : World) : Prop :=
 ∃ d', WIn w' d' N ∧ WFr d d' w w' ∧ d'.wb = d.wb ∧
  ((d.S.spawnE l ≠ 0 ∧ en = .returned (.tuple #[.int .u64 0, .int .i64 (d.S.spawnE l)]) ∧ d'.S = d.S) ∨
   (d.S.spawnE l = 0 ∧ en = .returned (.tuple #[.int .u64 d.S.spawnH, .int .i64 0]) ∧ d'.S = d.S.spawnS l))
set_option maxRecDepth 100000 in
set_option maxHeartbeats 4000000 in
theorem wSpawn_parts (h : WIn w d N) (hp : PartsIn d w pa pl pc ps) (hc : cpC d.g.cs (cv ps) ≠ 0) : Calls Tryz.prog 17 #[.pointer (some ⟨d.wb, 0, none⟩), .slice pa pl pc] w (IsSpawn d (cv ps) N w) := by
 obtain ⟨c6, c7, _⟩ := h.raw.cells
 have hS : d.S.spawnE (cv ps) = cpC d.g.cs (cv ps) := by
  show (if cpC d.g.cs (cv ps) ≠ 0 then cpC d.g.cs (cv ps) else _) = _
  rw [if_pos hc]
 have hck := chkParts h hp
 obtain ⟨k, hk⟩ : ∃ k, cpC d.g.cs (cv ps) = k := ⟨_, rfl⟩
 rw [hk] at hck hc
 have hkn : (k != 0) = true := by simpa using hc
 have HCK := Lib.hid hck
 have HFIN := Lib.hid (fun (W : World) (hb : Below w.heap.size w W) => show IsSpawn d (cv ps) N w (.returned (.tuple #[.int .u64 0, .int .i64 k])) W from ⟨d, h.below hb, WFr.of_below hb, rfl, .inl ⟨by rw [hS, hk]; exact hc, by rw [hS, hk], rfl⟩⟩)
 clear h hp hS hck hk hc
 go_enter Tryz.func17, Tryz.ntmps17
 go_wp2_with fail
 refine HCK.out.mono ?_
 rintro e w1 ⟨va, vc, rfl, hb, hcp⟩
 have HCP := Lib.hid hcp
 have HB := Lib.hid hb
 clear hcp hb
 go_wp2_with fail
 refine HCP.out.mono ?_
 rintro e w2 ⟨rfl, hb2⟩
 have HF := Lib.hid (HFIN.out w2 (HB.out.trans (hb2.mono HB.out.size)))
 clear hb2
 go_wp2_with fail
 go_ret2
 exact HF.out
end
end Go.Proofs.YtgebbmfoamkfnaaGreatDoor
