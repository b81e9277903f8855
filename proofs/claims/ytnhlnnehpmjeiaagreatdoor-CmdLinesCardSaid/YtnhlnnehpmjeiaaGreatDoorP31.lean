/- A world's rows go: drop. · A world's rows go: drop, from a row. · graph.Schema; a world's Spawn: who can't be. · A world's Spawn. -/
import Derived.Test.YtnhlnnehpmjeiaaGreatDoorP30
namespace Go.Proofs.YtnhlnnehpmjeiaaGreatDoor
open Go.RowKit
set_option linter.unusedVariables false
section
variable {w w' : World} {d : WD} {L L' : List Int} {N n : Nat}
theorem WMid.fin {d' : WD} (h : WMid w d L N) (hr : WRaw w' d' L'.length) (hP : d'.P.Ok L') (hg : d'.g = d.g) (hx : d'.x = d.x) (hc : d'.caps = d.caps) (hl : L'.length ≤ 257) : WMid w' d' L' N :=
  ⟨hr, hP, by rw [hg]; exact h.inv, by rw [hg]; exact h.nw, by rw [hg, hc]; exact h.archs, by rw [hg, hc]; exact h.rows, by rw [hx, hc]; exact h.gens, by rw [hx, hc]; exact h.ents, by rw [hg]; exact h.sch, by rw [hc]; exact h.caps, hl⟩
/-- Handles can be. -/
def Hands (L : List Int) : Prop := ∀ y ∈ L, 0 < y ∧ y < 18446744073709551616
theorem WIn.hands (h : WIn w d N) : Hands d.x.ix.liveL := fun y hy => by
  have := h.raw.ix.ok.live_bd hy
  omega
/-- What 'drop' leaves. -/
structure Dropd (d : WD) (e : Int) (i : Nat) (L' : List Int) (N : Nat) (w : World) (d' : WD) (w' : World) : Prop where
  mid : WMid w' d' L' N
  fr : WFr d d' w w'
  x : d'.x = d.x
  g : d'.g = d.g
  caps : d'.caps = d.caps
  gb : d'.gb = d.gb
  ab : d'.ab = d.ab
  who : d'.P.who = updW d.P.who e none
  tab : ∀ j, j ≠ i → d'.T[j]? = d.T[j]?
theorem delRun (h : WRaw w d n) (e : Int) (h0 : 0 ≤ e) (h1 : e < 18446744073709551616) (hs : (d.pl e).isSome = true) (ty : TypeId) : ∃ w1, (Builtin.delete_ #[90, 31] ty #[.map (some d.ab), .int .u64 e]).run Tryz.prog w = .ok (.tuple #[]) w1 ∧ WRaw w1 { d with pl := updP d.pl e none } (n - 1) ∧ WFr d { d with pl := updP d.pl e none } w w1 := by
  obtain ⟨w1, hrun, ha, hg, _⟩ := h.atm.drop h0 h1 ty
  rw [if_pos hs] at ha
  obtain ⟨k1, k2⟩ := h.adeed ha hg
  exact ⟨w1, hrun, k1, k2⟩
theorem putRun (h : WRaw w d n) (hn : n < 1000000) (e : Int) (h0 : 0 ≤ e) (h1 : e < 18446744073709551616) (p : Pl) : ∃ w1, (Instr.mapUpdate 90 (.map (some d.ab)) (.int .u64 e) (plV p)).run Tryz.prog w = .ok () w1 ∧ WRaw w1 { d with pl := updP d.pl e (some p) } (if (d.pl e).isSome then n else n + 1) ∧ WFr d { d with pl := updP d.pl e (some p) } w w1 := by
  obtain ⟨w1, hrun, ha, hg, _⟩ := h.atm.store hn h0 h1 p
  obtain ⟨k1, k2⟩ := h.adeed ha hg
  exact ⟨w1, hrun, k1, k2⟩
theorem updW_fun {f g : Int → Option Who} {e : Int} {z : Option Who} (h : ∀ y, f y = if y = e then z else g y) : f = updW g e z := by
  funext y; rw [h]; rfl
set_option maxRecDepth 100000 in
set_option maxHeartbeats 4000000 in
theorem wDrop_wait (h : WMid w d L N) (e : Int) (hL : Hands L) (hp : L.Perm (e :: L')) {i : Nat} (hpl : d.pl e = some ⟨i, none⟩) : Calls Tryz.prog 142 #[.pointer (some ⟨d.wb, 0, none⟩), .int .u64 e] w fun en w' => en = .returned (.tuple #[]) ∧ ∃ d', Dropd d e i L' N w d' w' := by
  have he : e ∈ L := h.ok.isIn hpl
  obtain ⟨h0, h1⟩ := hL e he
  obtain ⟨_, t, v, hpl', ht, hv, hV⟩ := h.at he
  rw [hpl] at hpl'
  cases hpl'
  simp only at ht hv
  have hpt := tabs_at ht hv
  obtain ⟨hOK, hk0⟩ := h.ok.yield hpt hpl hp
  have hlen : L'.length + 1 = L.length := by rw [hp.length_eq]; rfl
  obtain ⟨_, c7, c8⟩ := h.raw.cells
  have hl := h.raw.atm.look (by omega) h1
  rw [show atV d.pl e = plV ⟨i, none⟩ by unfold atV; rw [hpl], show plV ⟨i, none⟩ = .agg #[.int .i64 (i : Int), .int .i64 (-1)] from rfl] at hl
  have hb0 : Below w.heap.size w (w.alloc (.cells #[.int .i64 (i : Int), .int .i64 (-1)] 243)) := (Below.refl _ _).alloc (Nat.le_refl _) _
  have hn0 := heap_alloc_new w (.cells #[.int .i64 (i : Int), .int .i64 (-1)] 243)
  have hr0 := h.raw.below hb0
  obtain ⟨_, c7a, c8a⟩ := hr0.cells
  obtain ⟨w1, hdel, hr1, hf1⟩ := delRun hr0 e (by omega) h1 (by rw [hpl]; rfl) 0
  have hnp : ∀ {W : World} {n' : Nat}, WRaw (w.alloc (.cells #[.int .i64 (i : Int), .int .i64 (-1)] 243)) d n' → ¬ d.foot w.heap.size := fun _ hf => by have := h.raw.lt hf; omega
  have hk1 := hf1.out.keep hn0 (fun hf => by have := h.raw.lt hf; omega)
  have p0 := cell_at hk1 0
  have p1 := cell_at hk1 1
  simp at p0 p1
  obtain ⟨_, c7b, _⟩ := hr1.cells
  replace c7b : w1.cell? ⟨d.wb, 7, none⟩ = some (.pointer (some ⟨d.gb, 0, none⟩)) := c7b
  have htab := fun m => table_any 0 d.gb d.g (i : Int) (w1.drewN m) (hr1.below (below_drewN (Below.refl _ _) m)).gr
  rw [h.ptr ht] at htab
  have htin := fun m => ((hr1.below (below_drewN (Below.refl _ w1) m)).tabs.tab t (List.mem_of_getElem? ht))
  have hY := fun m => tabYield_deed (htin m) hV hk0
  have HTAB := Lib.hid htab
  have HY := Lib.hid hY
  have HR1 := Lib.hid hr1
  have HF1 := Lib.hid ((WFr.of_below hb0).trans hf1)
  have HH := Lib.hid h
  have HOK := Lib.hid hOK
  have HP := Lib.hid hpl
  have HT := Lib.hid ht
  have HV := Lib.hid hv
  have HPT := Lib.hid hpt
  have HLEN := Lib.hid hlen
  clear hnp h he hpl ht hv hV hpt hOK hk0 hlen hr0 hr1 hf1 hk1 htab htin hY hp hn0 hb0
  go_enter Tryz.func142, Tryz.ntmps142
  go_wp2_with fail
  go_quiet ((go_at_call 154; exact quiet_sm (HTAB.out _)))
  go_wp2_with fail
  have hb2 : Below w1.heap.size w1 (w1.drewN nq) := below_drewN (Below.refl _ _) _
  refine (HY.out nq).mono ?_
  rintro en w3 ⟨rfl, t', hd, e1, e2, e3, hV'⟩
  have hr2 := HR1.out.below hb2
  obtain ⟨k1, k2⟩ := hr2.tdeed (i := i) (t := t) HT.out hd hV'
  have hL' : L.length - 1 = L'.length := by have := HLEN.out; omega
  rw [hL'] at k1
  have hP2 : WD.P { { d with pl := updP d.pl e none } with T := d.T.set i t', V := d.V.set i v } = d.P.yield i (PTof t v) e := by
    show (⟨List.zipWith PTof (d.T.set i t') (d.V.set i v), updP d.pl e none⟩ : PS) = ⟨d.P.tabs.set i _, updP d.pl e none⟩
    rw [zip_set]
    unfold PTof
    rw [hd.set, e1, e2]; rfl
  have HFIN : Hid (∃ d', Dropd d e i L' N w d' w3) := Lib.hid ⟨_, ⟨HH.out.fin k1 (by rw [hP2]; exact HOK.out) rfl rfl rfl (by have := HH.out.lbd; omega), (HF1.out.trans (WFr.of_below hb2)).trans k2, rfl, rfl, rfl, rfl, rfl, by rw [hP2]; exact updW_fun (fun y => HH.out.ok.yield_who HPT.out y), fun j hj => set_other hj⟩⟩
  clear hd e1 e2 e3 hV' hr2 k1 k2 hL' hP2
  go_wp2_with fail
  (try simp only [Exit.inBlock, Exit.then])
  refine bodyPost_ret (results_none rfl _ _ _) rfl ?_
  exact ⟨rfl, HFIN.out⟩
end
end Go.Proofs.YtnhlnnehpmjeiaaGreatDoor
namespace Go.Proofs.YtnhlnnehpmjeiaaGreatDoor
open Go.RowKit
set_option linter.unusedVariables false
section
variable {w w' : World} {d : WD} {L L' : List Int} {N n : Nat}
theorem lastOf {α : Type} {l : List α} {r : Nat} (h : r < l.length) : ∃ m x, l.length = m + 1 ∧ r ≤ m ∧ l[m]? = some x := by
  refine ⟨l.length - 1, l[l.length - 1]'(by omega), by omega, by omega, List.getElem?_eq_getElem _⟩
set_option maxRecDepth 100000 in
set_option maxHeartbeats 4000000 in
theorem wDrop_row (h : WMid w d L N) (e : Int) (hL : Hands L) (hp : L.Perm (e :: L')) {i r : Nat} (hpl : d.pl e = some ⟨i, some r⟩) : Calls Tryz.prog 142 #[.pointer (some ⟨d.wb, 0, none⟩), .int .u64 e] w fun en w' => en = .returned (.tuple #[]) ∧ ∃ d', Dropd d e i L' N w d' w' := by
  have he : e ∈ L := h.ok.isIn hpl
  obtain ⟨h0, h1⟩ := hL e he
  obtain ⟨_, t, v, hpl', ht, hv, hV⟩ := h.at he
  rw [hpl] at hpl'
  cases hpl'
  simp only at ht hv
  have hpt := tabs_at ht hv
  obtain ⟨v', row, hv', hvr, _, hrl, her, _, _⟩ := h.who_row hpl ht
  rw [hv] at hv'
  cases hv'
  obtain ⟨m, x, hm, hrm, hx⟩ := lastOf hrl
  obtain ⟨vl, hvl⟩ : ∃ vl, v[m]? = some vl := ⟨_, List.getElem?_eq_getElem (by rw [hV.len]; omega)⟩
  have hOK := h.ok.drop hpt vl hpl hm hx hp
  have hWHO := h.ok.drop_who hpt hpl hm hx hvl
  have hxp : d.pl x = some ⟨i, some m⟩ := (h.ok.row x i m).2 ⟨_, hpt, hx⟩
  have hxL := hL x (h.ok.isIn hxp)
  have hlen : L'.length + 1 = L.length := by rw [hp.length_eq]; rfl
  obtain ⟨_, c7, c8⟩ := h.raw.cells
  have hl := h.raw.atm.look (by omega) h1
  rw [show atV d.pl e = plV ⟨i, some r⟩ by unfold atV; rw [hpl], show plV ⟨i, some r⟩ = .agg #[.int .i64 (i : Int), .int .i64 (r : Int)] from rfl] at hl
  have hb0 : Below w.heap.size w (w.alloc (.cells #[.int .i64 (i : Int), .int .i64 (r : Int)] 243)) := (Below.refl _ _).alloc (Nat.le_refl _) _
  have hn0 := heap_alloc_new w (.cells #[.int .i64 (i : Int), .int .i64 (r : Int)] 243)
  have hr0 := h.raw.below hb0
  obtain ⟨_, c7a, c8a⟩ := hr0.cells
  obtain ⟨w1, hdel, hr1, hf1⟩ := delRun hr0 e (by omega) h1 (by rw [hpl]; rfl) 0
  have hk1 := hf1.out.keep hn0 (fun hf => by have := h.raw.lt hf; omega)
  have p0 := cell_at hk1 0
  have p1 := cell_at hk1 1
  simp at p0 p1
  obtain ⟨_, c7b, _⟩ := hr1.cells
  replace c7b : w1.cell? ⟨d.wb, 7, none⟩ = some (.pointer (some ⟨d.gb, 0, none⟩)) := c7b
  have htab := fun m => table_any 0 d.gb d.g (i : Int) (w1.drewN m) (hr1.below (below_drewN (Below.refl _ _) m)).gr
  rw [h.ptr ht] at htab
  have htin := fun m => ((hr1.below (below_drewN (Below.refl _ w1) m)).tabs.tab t (List.mem_of_getElem? ht))
  have hD := fun q => tabDrop_deed (htin q) hV r m hrm hm x hx vl hvl
  have hn1 : decide ((r : Int) < 0) = false := by simp
  have hps : ¬ d.foot w.heap.size := fun hf => by have := h.raw.lt hf; omega
  have HTAB := Lib.hid htab
  have HD := Lib.hid hD
  have HR1 := Lib.hid hr1
  have HF1 := Lib.hid ((WFr.of_below hb0).trans hf1)
  have HF0 := Lib.hid hf1
  have HK1 := Lib.hid hk1
  have HH := Lib.hid h
  have HOK := Lib.hid hOK
  have HWHO := Lib.hid hWHO
  have HT := Lib.hid ht
  have HPS := Lib.hid hps
  have HPT := Lib.hid hpt
  have HLEN := Lib.hid hlen
  have HXP := Lib.hid hxp
  have HPL := Lib.hid hpl
  have HSZ : Hid (w.heap.size < w1.heap.size) := Lib.hid (lt_some hk1)
  have HER := Lib.hid her
  have HX := Lib.hid hx
  clear h he hpl ht hv hV hpt hOK hWHO hlen hr0 hr1 hf1 hk1 htab htin hD hp hn0 hb0 hvl hvr hrl her hm hx hxp hps
  go_enter Tryz.func142, Tryz.ntmps142
  go_wp2_with fail
  go_quiet ((go_at_call 154; exact quiet_sm (HTAB.out _)))
  go_wp2_with fail
  have hb2 : Below w1.heap.size w1 (w1.drewN nq) := below_drewN (Below.refl _ _) _
  refine (HD.out nq).mono ?_
  rintro en w3 ⟨rfl, t', hd, e1, e2, e3, hV'⟩
  have hr2 := HR1.out.below hb2
  obtain ⟨k1, k2⟩ := hr2.tdeed (i := i) (t := t) HT.out hd hV'
  have hL' : L.length - 1 = L'.length := by have := HLEN.out; omega
  rw [hL'] at k1
  have hf3 := (HF1.out.trans (WFr.of_below hb2)).trans k2
  have hP2 : ∀ q, WD.P { { { d with pl := updP d.pl e none } with T := d.T.set i t', V := d.V.set i ((v.set r vl).take m) } with pl := q } = ⟨d.P.tabs.set i { PTof t v with ents := (t.ents.set r x).take m, vals := (v.set r vl).take m }, q⟩ := fun q => by
    show (⟨List.zipWith PTof (d.T.set i t') (d.V.set i ((v.set r vl).take m)), q⟩ : PS) = _
    rw [zip_set]
    unfold PTof
    rw [hd.set, e1, e2]; rfl
  by_cases hrm2 : r = m
  · have hx0 : (if r = m then (0 : Int) else x) = 0 := if_pos hrm2
    have hPe : WD.P { { { d with pl := updP d.pl e none } with T := d.T.set i t', V := d.V.set i ((v.set r vl).take m) } with pl := updP d.pl e none } = d.P.drop i (PTof t v) e r m x vl := by
      rw [hP2]
      unfold PS.drop
      rw [if_pos hrm2]; rfl
    have HFIN : Hid (∃ d', Dropd d e i L' N w d' w3) := Lib.hid ⟨_, ⟨HH.out.fin k1 (by rw [show WD.P _ = _ from hPe]; exact HOK.out) rfl rfl rfl (by have := HH.out.lbd; omega), hf3, rfl, rfl, rfl, rfl, rfl, by rw [show WD.P _ = _ from hPe]; exact updW_fun HWHO.out, fun j hj => set_other hj⟩⟩
    rw [hx0]
    clear hd e1 e2 e3 hV' hr2 k1 k2 hL' hP2 hPe hf3 hrm2 hx0
    go_wp2_with fail
    go_end0
    exact ⟨rfl, HFIN.out⟩
  · have hx0 : (if r = m then (0 : Int) else x) = x := if_neg hrm2
    have g1 : (x != 0) = true := by simp; omega
    have hxe : x ≠ e := fun e' => by
      subst e'
      have a := HXP.out
      rw [HPL.out] at a
      cases a; exact hrm2 rfl
    have hsx : (updP d.pl e none x).isSome = true := by rw [updP_ne hxe, HXP.out]; rfl
    have hr3 := k1.below ((Below.refl _ w3).drew)
    have hnn : L'.length < 1000000 := by have := HH.out.lbd; have := HLEN.out; omega
    obtain ⟨w4, hput, hr4, hf4⟩ := putRun hr3 hnn x (by omega) hxL.2 ⟨i, some r⟩
    rw [if_pos hsx] at hr4
    rw [show plV ⟨i, some r⟩ = .agg #[.int .i64 (i : Int), .int .i64 (r : Int)] from rfl] at hput
    have hput' : (Instr.mapUpdate 90 (.map (some d.ab)) (.int .u64 x) (.agg #[.int .i64 (i : Int), .int .i64 (r : Int)])).run Tryz.prog w3.drew = .ok () w4 := hput
    obtain ⟨_, _, c8d⟩ := k1.cells
    replace c8d : w3.cell? ⟨d.wb, 8, none⟩ = some (.map (some d.ab)) := c8d
    have hk3 := k2.out.keep (show (w1.drewN nq).heap[w.heap.size]? = _ from HK1.out) (fun hf => HPS.out (by
      rcases hf with hf | hf | hf | hf | hf
      · exact .inl hf
      · exact .inr (.inl hf)
      · exact .inr (.inr (.inl hf))
      · exact .inr (.inr (.inr (.inl hf)))
      · exact .inr (.inr (.inr (.inr hf)))))
    have q0 := cell_at hk3 0
    have q1 := cell_at hk3 1
    simp at q0 q1
    have hPe : WD.P { { { d with pl := updP d.pl e none } with T := d.T.set i t', V := d.V.set i ((v.set r vl).take m) } with pl := updP (updP d.pl e none) x (some ⟨i, some r⟩) } = d.P.drop i (PTof t v) e r m x vl := by
      rw [hP2]
      unfold PS.drop
      rw [if_neg hrm2]; rfl
    have HFIN : Hid (∃ d', Dropd d e i L' N w d' w4) := Lib.hid ⟨_, ⟨HH.out.fin hr4 (by rw [show WD.P _ = _ from hPe]; exact HOK.out) rfl rfl rfl (by have := HH.out.lbd; omega), (hf3.trans (WFr.of_below ((Below.refl _ w3).drew))).trans hf4, rfl, rfl, rfl, rfl, rfl, by rw [show WD.P _ = _ from hPe]; exact updW_fun HWHO.out, fun j hj => set_other hj⟩⟩
    rw [hx0]
    clear hd e1 e2 e3 hV' hr2 k1 k2 hL' hP2 hPe hf3 hrm2 hx0 hxe hsx hr3 hr4 hf4 hput hk3 p0 p1
    go_wp2_with fail
    go_region
    all_goals
      go_wp2_with fail
      go_end0
      exact ⟨rfl, HFIN.out⟩
end
end Go.Proofs.YtnhlnnehpmjeiaaGreatDoor
namespace Go.Proofs.YtnhlnnehpmjeiaaGreatDoor
open Go.RowKit
set_option linter.unusedVariables false
set_option maxRecDepth 100000 in
/-- graph.Schema: a copy of the schema. -/
theorem gschema_any (B1 gb : Nat) (g : GS) (w : World) {mb wb : Nat} {ta : Option Addr} {tc : Nat} (h : Graph B1 gb g mb wb ta tc w) : Calls Tryz.prog 136 #[.pointer (some ⟨gb, 0, none⟩)] w fun e w' => ∃ va vc, e = .returned (.agg #[.int .i64 g.ver, .slice va g.cs.length vc]) ∧ CompsAt w'.heap.size w' va g.cs.length g.cs ∧ Below w.heap.size w w' := by
  obtain ⟨ca, cl, cc, bs, ws, h⟩ := h
  have hcl : g.cs.length = cl := h.comps.1
  have hb0 : Below w.heap.size w (w.alloc (.cells #[.int .i64 0, .slice none 0 0] 43)) := by go_grown
  have hU := heap_alloc_new w (.cells #[.int .i64 0, .slice none 0 0] 43)
  have h' := h.below hb0
  have c0 := cell_at h'.blk 0
  have c1 := cell_at h'.blk 1
  simp at c0 c1
  have H := Lib.hid (And.intro h' (And.intro hU hb0))
  have HL := Lib.hid hcl
  clear h h' hU hb0 hcl
  go_enter Tryz.func136, Tryz.ntmps136
  go_wp2_with fail
  refine (schemaClone_any _ _ _ _ _ _ H.out.1.comps H.out.1.cn.2 H.out.1.wf.2.1 H.out.1.cn.1).mono ?_
  rintro e w2 ⟨va, vc, rfl, hcs2, hvn, hb2, hty2⟩
  have hU2 := keep hb2 H.out.2.1
  have f0 := free_at hU2 0
  have f1 := free_at hU2 1
  have u0 := cell_at hU2 0
  have u1 := cell_at hU2 1
  simp at u0 u1
  have HC := Lib.hid hcs2
  have HTY := Lib.hid hty2
  have HU2 := Lib.hid hU2
  have HB := Lib.hid hb2
  clear hcs2 hb2 hU2 hty2
  have hb3 : Below w.heap.size w ((w2.setCell ⟨w.heap.size, 0, none⟩ (.int .i64 g.ver)).setCell ⟨w.heap.size, 1, none⟩ (.slice va cl vc)) := ((H.out.2.2.trans (HB.out.mono H.out.2.2.size)).setCell (by simp) _).setCell (by simp) _
  have k2 := hset _ _ 1 (.slice va cl vc) _ _ _ (hset _ _ 0 (.int .i64 g.ver) _ _ _ HU2.out)
  simp at k2
  have r0 := cell_at (hset _ _ 0 (.int .i64 g.ver) _ _ _ HU2.out) 0
  have r1 := cell_at k2 1
  simp at r0 r1
  have hty : KeepsTy w2 ((w2.setCell ⟨w.heap.size, 0, none⟩ (.int .i64 g.ver)).setCell ⟨w.heap.size, 1, none⟩ (.slice va cl vc)) := by
    intro b c e fz hb he
    have hne : b ≠ w.heap.size := fun e' => by subst e'; rw [HU2.out] at hb; cases hb; rcases he with h | h <;> cases h
    rw [hset_ne _ _ _ _ hne, hset_ne _ _ _ _ hne]
    exact hb
  have HF := Lib.hid (And.intro hb3 ((HC.out.ty HTY.out hty)))
  clear hb3 k2 hty
  go_wp2_with fail
  refine bodyPost_ret (v := .agg #[.int .i64 g.ver, .slice va cl vc]) (by simp [results, Tryz.results136, go_sem, r0, r1]) rfl ?_
  refine ⟨va, vc, by rw [HL.out], ?_, HF.out.1⟩
  rw [HL.out]
  simpa [World.setCell] using HF.out.2
section
variable {w w' : World} {d : WD} {L L' : List Int} {N n : Nat} {pa : Option Addr} {pl pc : Nat} {ps : List PW}
/-- Parts that lie where no deed of a world reaches. -/
structure PartsIn (d : WD) (w : World) (pa : Option Addr) (pl pc : Nat) (ps : List PW) : Prop where
  at_ : ∀ w', Out d.foot w w' → PartsAt w'.heap.size w' pa pl pc ps
  len : pl ≤ 100000
theorem PartsIn.now (h : PartsIn d w pa pl pc ps) : PartsAt w.heap.size w pa pl pc ps := h.at_ w (Out.refl _ _)
theorem PartsIn.go {d d' : WD} (h : PartsIn d w pa pl pc ps) (hf : WFr d d' w w') : PartsIn d' w' pa pl pc ps :=
  ⟨fun w2 ho => h.at_ w2 (hf.out.trans ho hf.foot), h.len⟩
theorem PartsIn.below (h : PartsIn d w pa pl pc ps) (hb : Below w.heap.size w w') : PartsIn d w' pa pl pc ps := h.go (WFr.of_below hb)
theorem PartsIn.wf (h : PartsIn d w pa pl pc ps) : ∀ p ∈ ps, ∀ y ∈ p.val, y.wf := fun p hp y hy => (h.now.2.2.2.1 p hp).2.2.2.1 y hy
theorem WMid.fields (h : WMid w d L N) : ∀ c ∈ d.g.cs, c.fields.length ≤ 100000 := by obtain ⟨_, _, _, _, _, hh⟩ := h.raw.gr; exact hh.wf.2.1
/-- w.graph.Schema() and CheckParts. -/
theorem chkParts (h : WMid w d L N) (hp : PartsIn d w pa pl pc ps) : Calls Tryz.prog 136 #[.pointer (some ⟨d.gb, 0, none⟩)] w fun e w' => ∃ va vc, e = .returned (.agg #[.int .i64 d.g.ver, .slice va d.g.cs.length vc]) ∧ Below w.heap.size w w' ∧
    Calls Tryz.prog 27 #[.agg #[.int .i64 d.g.ver, .slice va d.g.cs.length vc], .slice pa pl pc] w' fun e w'' => e = .returned (.int .i64 (cpC d.g.cs (cv ps))) ∧ Below w'.heap.size w' w'' := by
  refine (gschema_any 0 d.gb d.g w h.raw.gr).mono ?_
  rintro e w1 ⟨va, vc, rfl, hcs, hb⟩
  refine ⟨va, vc, rfl, hb, ?_⟩
  rw [cpC_cv]
  exact checkParts_any d.g.ver d.g.cs va d.g.cs.length vc ps pa pl pc w1 hcs h.fields (hp.below hb).now
/-- The answer of 'Spawn'. -/
def IsSpawn (d : WD) (l : List (Int × List WI)) (N : Nat) (w : World) (en : Ending) (w' : World) : Prop :=
  ∃ d', WIn w' d' N ∧ WFr d d' w w' ∧ d'.wb = d.wb ∧
    ((d.S.spawnE l ≠ 0 ∧ en = .returned (.tuple #[.int .u64 0, .int .i64 (d.S.spawnE l)]) ∧ d'.S = d.S) ∨
     (d.S.spawnE l = 0 ∧ en = .returned (.tuple #[.int .u64 d.S.spawnH, .int .i64 0]) ∧ d'.S = d.S.spawnS l))
set_option maxRecDepth 100000 in
set_option maxHeartbeats 4000000 in
theorem wSpawn_parts (h : WIn w d N) (hp : PartsIn d w pa pl pc ps) (hc : cpC d.g.cs (cv ps) ≠ 0) : Calls Tryz.prog 134 #[.pointer (some ⟨d.wb, 0, none⟩), .slice pa pl pc] w (IsSpawn d (cv ps) N w) := by
  obtain ⟨c6, c7, _⟩ := h.raw.cells
  have hS : d.S.spawnE (cv ps) = cpC d.g.cs (cv ps) := by
    show (if cpC d.g.cs (cv ps) ≠ 0 then cpC d.g.cs (cv ps) else _) = _
    rw [if_pos hc]
  have hck := chkParts h hp
  obtain ⟨k, hk⟩ : ∃ k, cpC d.g.cs (cv ps) = k := ⟨_, rfl⟩
  rw [hk] at hck hc
  have hkn : (k != 0) = true := by simpa using hc
  have HCK := Lib.hid hck
  have HFIN := Lib.hid (fun (W : World) (hb : Below w.heap.size w W) => show IsSpawn d (cv ps) N w (.returned (.tuple #[.int .u64 0, .int .i64 k])) W from ⟨d, h.below hb, WFr.of_below hb, rfl, .inl ⟨by rw [hS, hk]; exact hc, by rw [hS, hk], rfl⟩⟩)
  clear h hp hS hck hk hc
  go_enter Tryz.func134, Tryz.ntmps134
  go_wp2_with fail
  refine HCK.out.mono ?_
  rintro e w1 ⟨va, vc, rfl, hb, hcp⟩
  have HCP := Lib.hid hcp
  have HB := Lib.hid hb
  clear hcp hb
  go_wp2_with fail
  refine HCP.out.mono ?_
  rintro e w2 ⟨rfl, hb2⟩
  have HF := Lib.hid (HFIN.out w2 (HB.out.trans (hb2.mono HB.out.size)))
  clear hb2
  go_wp2_with fail
  go_ret2
  exact HF.out
end
end Go.Proofs.YtnhlnnehpmjeiaaGreatDoor
namespace Go.Proofs.YtnhlnnehpmjeiaaGreatDoor
open Go.RowKit
set_option linter.unusedVariables false
section
variable {w w' w1 : World} {d : WD} {L L' : List Int} {N n : Nat} {pa : Option Addr} {pl pc : Nat} {ps : List PW}
/-- A row more, and its place. -/
theorem WRaw.rowAdd (h : WRaw w d n) (hn : n < 1000000) {i : Nat} {t t' : TD} {v : List (List (List WI))} {row : List (List WI)} {e : Int} (hi : d.T[i]? = some t) (hv : d.V[i]? = some v) (hpl : d.pl e = none) (h0 : 0 ≤ e) (h1 : e < 18446744073709551616) (hd : TDeed 0 t t' w w1) (e1 : t'.ents = t.ents ++ [e]) (e2 : t'.kept = t.kept) (hV' : Vals t' (v ++ [row])) :
    w1.cell? ⟨d.wb, 8, none⟩ = some (.map (some d.ab)) ∧ ∃ w2, (Instr.mapUpdate 90 (.map (some d.ab)) (.int .u64 e) (.agg #[.int .i64 (i : Int), .int .i64 (t.ents.length : Int)])).run Tryz.prog w1 = .ok () w2 ∧ ∃ d', WRaw w2 d' (n + 1) ∧ WFr d d' w w2 ∧ d'.P = d.P.add i (PTof t v) e row ∧ d'.x = d.x ∧ d'.caps = d.caps ∧ d'.g = d.g ∧ d'.wb = d.wb := by
  obtain ⟨k1, k2⟩ := h.tdeed hi hd hV'
  obtain ⟨_, _, c8⟩ := k1.cells
  obtain ⟨w2, hput, hr, hf⟩ := putRun k1 hn e h0 h1 ⟨i, some t.ents.length⟩
  have hne : (WD.pl { d with T := d.T.set i t', V := d.V.set i (v ++ [row]) } e).isSome = false := by show (d.pl e).isSome = false; rw [hpl]; rfl
  rw [hne] at hr
  refine ⟨c8, w2, hput, _, hr, k2.trans hf, ?_, rfl, rfl, rfl, rfl⟩
  · show (⟨List.zipWith PTof (d.T.set i t') (d.V.set i (v ++ [row])), updP d.pl e _⟩ : PS) = ⟨d.P.tabs.set i _, updP d.pl e _⟩
    rw [zip_set]
    unfold PTof
    rw [hd.set, e1, e2]; rfl
/-- The index has another one more; the world's memory. -/
theorem WMid.xgo (h : WMid w d L N) {x' : XD} (hx : XIn w1 x') (hs : XStep d.x x' w w1) (hm : x'.ix.most = d.x.ix.most) (hl : x'.ix.gens.length = d.x.ix.gens.length) : WMid w1 { d with x := x' } L N ∧ WFr d { d with x := x' } w w1 := by
  obtain ⟨k1, k2⟩ := h.raw.xdeed hx hs.xb hs.out hs.foot
  exact ⟨⟨k1, h.ok, h.inv, h.nw, h.archs, h.rows, by show x'.ix.most = _; rw [hm]; exact h.gens, by show (x'.ix.gens.length : Int) = _; rw [hl]; exact h.ents, h.sch, h.caps, h.lbd⟩, k2⟩
theorem spawnS_eq {S : WS} {l : List (Int × List WI)} {id : Nat} (h : S.ix.next = some id) : S.spawnS l = { S with ix := S.ix.spawn id, sets := S.openS (setC l), who := updW S.who (hOf id (S.ix.gen id)) (some ⟨setC l, some (rowOfC l (setC l))⟩) } ∧ S.spawnH = hOf id (S.ix.gen id) := by
  unfold WS.spawnS WS.spawnH
  rw [h]; exact ⟨rfl, rfl⟩
set_option maxRecDepth 100000 in
set_option maxHeartbeats 4000000 in
theorem wSpawn_full (h : WIn w d N) (hp : PartsIn d w pa pl pc ps) (hc : cpC d.g.cs (cv ps) = 0) (hn : d.x.ix.next = none) : Calls Tryz.prog 134 #[.pointer (some ⟨d.wb, 0, none⟩), .slice pa pl pc] w (IsSpawn d (cv ps) N w) := by
  obtain ⟨c6, c7, _⟩ := h.raw.cells
  have hS : d.S.spawnE (cv ps) = 5 := by
    show (if cpC d.g.cs (cv ps) ≠ 0 then cpC d.g.cs (cv ps) else if d.x.ix.next = none then 5 else _) = _
    rw [hc, if_neg (by simp), if_pos hn]
  have hfr : d.x.fr = [] := by
    cases hf : d.x.fr with
    | nil => rfl
    | cons a r =>
      obtain ⟨id, hid, _⟩ := h.raw.ix.free.next (by rw [hf]; simp)
      rw [hn] at hid; cases hid
  have hck := chkParts h hp
  rw [hc] at hck
  have HCK := Lib.hid hck
  have HB6 := Lib.hid h.raw.blk
  have HX := Lib.hid (fun (W : World) (hb : Below w.heap.size w W) => xFree_any d.x W (h.below hb).raw.ix.toXMem)
  have HFR : Hid (d.x.fr.length = 0) := Lib.hid (by rw [hfr]; rfl)
  have HFIN := Lib.hid (fun (W : World) (hb : Below w.heap.size w W) => show IsSpawn d (cv ps) N w (.returned (.tuple #[.int .u64 0, .int .i64 5])) W from ⟨d, h.below hb, WFr.of_below hb, rfl, .inl ⟨by rw [hS]; decide, by rw [hS], rfl⟩⟩)
  clear h hp hS hck hc hn hfr
  go_enter Tryz.func134, Tryz.ntmps134
  go_wp2_with fail
  refine HCK.out.mono ?_
  rintro e w1 ⟨va, vc, rfl, hb, hcp⟩
  have HCP := Lib.hid hcp
  have HB := Lib.hid hb
  clear hcp hb
  go_wp2_with fail
  refine HCP.out.mono ?_
  rintro e w2 ⟨rfl, hb2⟩
  have HB2 := Lib.hid (HB.out.trans (hb2.mono HB.out.size))
  clear hb2 c6 c7
  have hk := keep HB2.out HB6.out
  have c6 := cell_at hk 6
  simp at c6
  clear hk
  go_wp2_with fail
  refine (HX.out _ HB2.out).mono ?_
  rintro e w3 ⟨rfl, rfl⟩
  rw [HFR.out]
  have HF := Lib.hid (HFIN.out w2 HB2.out)
  go_wp2_with fail
  go_ret2
  exact HF.out
set_option maxRecDepth 100000 in
set_option maxHeartbeats 8000000 in
theorem wSpawn_go (h : WIn w d N) (hp : PartsIn d w pa pl pc ps) (hc : cpC d.g.cs (cv ps) = 0) {id : Nat} (hn : d.x.ix.next = some id) : Calls Tryz.prog 134 #[.pointer (some ⟨d.wb, 0, none⟩), .slice pa pl pc] w (IsSpawn d (cv ps) N w) := by
  obtain ⟨c6, c7, c8⟩ := h.raw.cells
  have hpo : PartsOk d.g.cs ps := PartsOk.of h.sch (by rw [← cpC_cv]; exact hc)
  have hset : setC (cv ps) = foldS (comps ps) := setC_cv ps
  obtain ⟨s, hs⟩ : ∃ s, foldS (comps ps) = s := ⟨_, rfl⟩
  have hbd := foldS_bd (comps ps)
  rw [hs] at hset hbd
  have hS : d.S.spawnE (cv ps) = d.S.openE s := by
    show (if cpC d.g.cs (cv ps) ≠ 0 then cpC d.g.cs (cv ps) else if d.x.ix.next = none then 5 else d.S.openE (setC (cv ps))) = _
    rw [hc, if_neg (by simp), if_neg (by rw [hn]; simp), hset]
  have hfr : d.x.fr.length ≠ 0 := fun hf => by
    have := h.raw.ix.free
    rw [List.eq_nil_of_length_eq_zero hf] at this
    rw [this.next_none] at hn; cases hn
  have hck := chkParts h hp
  rw [hc] at hck
  have hsp := fun (W : World) (hb : Below w.heap.size w W) => sigParts_any ps pa pl pc W (hp.below hb).now hp.len
  rw [hpo.parts, hs] at hsp
  have HSP := Lib.hid hsp
  have HCK := Lib.hid hck
  have HB6 := Lib.hid h.raw.blk
  have HX := Lib.hid (fun (W : World) (hb : Below w.heap.size w W) => xFree_any d.x W (h.below hb).raw.ix.toXMem)
  have HROOM := Lib.hid (fun (W : World) (hb : Below w.heap.size w W) => wRoom_any (h.below hb) s hbd.1 hbd.2)
  obtain ⟨q, hq⟩ : ∃ q, d.x.fr.length = q := ⟨_, rfl⟩
  have e0 : ((q : Int) == 0) = false := by simp; omega
  rw [hq] at HX
  have H := Lib.hid h
  have HP := Lib.hid hp
  have HS := Lib.hid hS
  have HN := Lib.hid hn
  have HPO := Lib.hid hpo
  have HSET := Lib.hid hset
  have HFS := Lib.hid hs
  clear h hp hS hck hc hn hfr hq hsp hpo hset hs
  go_enter Tryz.func134, Tryz.ntmps134
  go_wp2_with fail
  refine HCK.out.mono ?_
  rintro e w1 ⟨va, vc, rfl, hb, hcp⟩
  have HCP := Lib.hid hcp
  have HB := Lib.hid hb
  clear hcp hb
  go_wp2_with fail
  refine HCP.out.mono ?_
  rintro e w2 ⟨rfl, hb2⟩
  have HB2 := Lib.hid (HB.out.trans (hb2.mono HB.out.size))
  clear hb2 c6 c7 c8
  have hk := keep HB2.out HB6.out
  have c6 := cell_at hk 6
  simp at c6
  clear hk
  go_wp2_with fail
  refine (HX.out _ HB2.out).mono ?_
  rintro e w3 ⟨rfl, rfl⟩
  go_wp2_with fail
  refine (HSP.out _ HB2.out).mono ?_
  rintro e w3 ⟨rfl, hb3⟩
  have HB3 := Lib.hid (HB2.out.trans (hb3.mono HB2.out.size))
  clear hb3 c6
  go_wp2_with fail
  refine (HROOM.out _ HB3.out).mono ?_
  rintro e w4 ⟨d1, hw1, hf1, hsm, hor⟩
  have hf01 := (WFr.of_below HB3.out).trans hf1
  rcases hor with ⟨ho, rfl, hT, hg, hP⟩ | ⟨ho, i, t, rfl, ht, hts, hfree, hsig, hPs⟩
  · have HFIN : Hid (IsSpawn d (cv ps) N w (.returned (.tuple #[.int .u64 0, .int .i64 (d.S.openE s)])) w4) := Lib.hid ⟨d1, hw1, hf01, hsm.wb, .inl ⟨by rw [HS.out]; exact ho, by rw [HS.out], by
      unfold WD.S
      rw [hsm.x, hsm.caps, hg, hP]⟩⟩
    have hkn : (d.S.openE s != 0) = true := by simpa using ho
    clear ho hT hg hP hw1 hf1 hsm hf01
    go_wp2_with fail
    go_ret2
    exact HFIN.out
  · have HO := Lib.hid ho
    have HPS := Lib.hid hPs
    have HSIG := Lib.hid hsig
    have HTS := Lib.hid hts
    have HFREE := Lib.hid hfree
    have HT := Lib.hid ht
    have HSM := Lib.hid hsm
    have HW1 := Lib.hid hw1
    have HF1 := Lib.hid hf01
    have hwb := hsm.wb
    have hx1 := hsm.x
    obtain ⟨c6, _, _⟩ := hw1.raw.cells
    rw [hwb, hx1] at c6
    have hspn := xSpawn_ok d1.x w4 hw1.raw.ix (id := id) (by rw [hx1]; exact HN.out)
    rw [hx1] at hspn
    have HSPN := Lib.hid hspn
    clear ho hPs hsig hts hfree ht hsm hw1 hf1 hf01 hwb hx1 hspn
    go_wp2_with fail
    refine HSPN.out.mono ?_
    rintro e w5 ⟨rfl, x', hxi, hxin, hxst⟩
    obtain ⟨E, hE⟩ : ∃ E, hOf (id : Int) (d.x.ix.gen id) = E := ⟨_, rfl⟩
    rw [hE]
    have hxok := H.out.raw.ix.ok
    obtain ⟨hok', hEn, hperm⟩ := hxok.spawn HN.out
    rw [hE] at hEn hperm
    have hEb := hok'.live_bd (hperm.mem_iff.2 List.mem_cons_self)
    have hxst' : XStep d1.x x' w4 w5 := by rw [HSM.out.x]; exact hxst
    have hmost : x'.ix.most = d1.x.ix.most := by rw [hxi, HSM.out.x]; rfl
    have hgl : x'.ix.gens.length = d1.x.ix.gens.length := by rw [hxi, HSM.out.x]; rfl
    obtain ⟨hm2, hf2⟩ := WMid.xgo HW1.out hxin hxst' hmost hgl
    rw [show d1.x.ix.liveL = d.x.ix.liveL by rw [HSM.out.x]] at hm2
    obtain ⟨_, c7, _⟩ := hm2.raw.cells
    replace c7 : w5.cell? ⟨d.wb, 7, none⟩ = some (.pointer (some ⟨d1.gb, 0, none⟩)) := by rw [← HSM.out.wb]; exact c7
    have htab := table_any 0 d1.gb d1.g (i : Int) w5 hm2.raw.gr
    rw [show tabPtr d1.g i = some ⟨t.tb, 0, none⟩ from hm2.ptr HT.out] at htab
    obtain ⟨v, hv, hV, hpt⟩ := hm2.tabv HT.out
    have htin := hm2.tab HT.out
    obtain ⟨hmost2, hlike⟩ := hm2.like HT.out
    have hlike : (idsTo t.set 24).map (findC · d.g.cs) = t.cs.map some := by rw [← HSM.out.cs]; exact hlike
    have htset : t.set = foldS (comps ps) := HTS.out.trans HFS.out.symm
    have haddE := HPO.out.addErr (e := E) htset hlike (by omega) HFREE.out
    have hf02 := HF1.out.trans hf2
    have hpin := HP.out.go hf02
    have hfit := HPO.out.hfit htin htset hlike hpin.wf
    have hadd := tabAdd_deed htin hV E ps pa pl pc (fun w' ho => hpin.at_ w' (ho.mono (fun b hb => .inl (.inr (.inr (.inr (.inr ⟨t, List.mem_of_getElem? HT.out, TabIn.cfoot_foot hb⟩))))))) hpin.len haddE hfit
    have hpl1 : d1.pl E = none := hm2.ok.noPl hEn
    have HTAB := Lib.hid htab
    have HADD := Lib.hid hadd
    have HM2 := Lib.hid hm2
    have HF2 := Lib.hid hf02
    have HV := Lib.hid hv
    have HPT := Lib.hid hpt
    have HXI := Lib.hid hxi
    have HPERM := Lib.hid hperm
    have HEN := Lib.hid hEn
    have HPL1 := Lib.hid hpl1
    have HROW := Lib.hid (addRow_vals htin.ids ps)
    have HE := Lib.hid hE
    have hE0 : 0 ≤ E := by omega
    have hE1 : E < 18446744073709551616 := by omega
    have HLB := Lib.hid (show x'.ix.liveL.length ≤ 257 by rw [hxi]; have := hok'.liveL_len; have := hok'.n2; omega)
    have HLN : Hid (d.x.ix.liveL.length < 300) := Lib.hid (by have := H.out.lbd; omega)
    clear hE hxi hxin hxst hxok hok' hEn hperm hEb hxst' hmost hgl hm2 hf2 htab hv hV hpt htin hmost2 hlike htset haddE hf02 hpin hfit hadd hpl1 HSPN c6
    go_wp2_with fail
    refine HTAB.out.mono ?_
    rintro e w6 ⟨rfl, rfl⟩
    go_wp2_with fail
    refine HADD.out.mono ?_
    rintro e w6 ⟨rfl, t', hd, e1, e2, e3, hV'⟩
    obtain ⟨c8, w7, hput, d4, hr4, hf4, hP4, hx4, hc4, hg4, hwb4⟩ := HM2.out.raw.rowAdd (by have := HLN.out; omega) HT.out HV.out HPL1.out hE0 hE1 hd e1 e2 hV'
    replace c8 : w6.cell? ⟨d.wb, 8, none⟩ = some (.map (some d1.ab)) := by rw [← HSM.out.wb]; exact c8
    replace hput : (Instr.mapUpdate 90 (.map (some d1.ab)) (.int .u64 E) (.agg #[.int .i64 (i : Int), .int .i64 (t.ents.length : Int)])).run Tryz.prog w6 = .ok () w7 := hput
    have hPok : d4.P.Ok x'.ix.liveL := by
      rw [hP4]
      refine PS.Ok.add HM2.out.ok HPT.out HEN.out ?_ _
      rw [HXI.out]; exact HPERM.out
    have hwho : d4.P.who = updW d.P.who E (some ⟨t.set, some (addRow ps t)⟩) := by
      refine updW_fun fun y => ?_
      rw [hP4]
      have h1 := PS.Ok.add_who HM2.out.ok HPT.out (e := E) (addRow ps t) y
      rw [h1]
      have h2 : d1.P.who y = d.P.who y := by
        rcases HPS.out with hh | ⟨_, hh⟩
        · rw [hh]
        · rw [hh]; exact H.out.ok.snoc_who s y
      split
      · rfl
      · exact h2
    have HFIN : Hid (IsSpawn d (cv ps) N w (.returned (.tuple #[.int .u64 E, .int .i64 0])) w7) := Lib.hid (by
      obtain ⟨q1, q2⟩ := spawnS_eq (S := d.S) (l := cv ps) (id := id) HN.out
      refine ⟨d4, ?_, HF2.out.trans hf4, hwb4.trans HSM.out.wb, .inr ⟨by rw [HS.out]; exact HO.out, by rw [q2]; exact congrArg (fun z => Ending.returned (.tuple #[.int .u64 z, .int .i64 0])) HE.out.symm, ?_⟩⟩
      · have hlv : d4.x.ix.liveL = x'.ix.liveL := by rw [hx4]
        have hll : x'.ix.liveL.length = d.x.ix.liveL.length + 1 := by rw [HXI.out, HPERM.out.length_eq]; rfl
        unfold WIn
        rw [hlv]
        exact HM2.out.fin (by rw [hll]; exact hr4) hPok hg4 hx4 hc4 HLB.out
      · rw [q1]
        have ew : (some ⟨t.set, some (addRow ps t)⟩ : Option Who) = some ⟨setC (cv ps), some (rowOfC (cv ps) (setC (cv ps)))⟩ := by rw [HROW.out, valsOf_cv, HTS.out, HSET.out]
        show WS.mk d4.caps d4.g.ver d4.g.cs d4.x.ix d4.g.sigs d4.P.who = _
        rw [hc4, hg4, hx4, hwho, ew]
        show WS.mk d1.caps d1.g.ver d1.g.cs x'.ix d1.g.sigs _ = _
        rw [HSM.out.caps, HSM.out.ver, HSM.out.cs, HXI.out, HSIG.out, ← HE.out, HSET.out]
        rfl)
    clear hd e1 e2 e3 hV' hr4 hf4 hP4 hx4 hc4 hg4 hwb4 hPok hwho
    go_wp2_with fail
    go_ret2
    exact HFIN.out
/-- Spawn, whoever it is. -/
theorem wSpawn_any (h : WIn w d N) (hp : PartsIn d w pa pl pc ps) : Calls Tryz.prog 134 #[.pointer (some ⟨d.wb, 0, none⟩), .slice pa pl pc] w (IsSpawn d (cv ps) N w) := by
  by_cases hc : cpC d.g.cs (cv ps) = 0
  · cases hn : d.x.ix.next with
    | none => exact wSpawn_full h hp hc hn
    | some id => exact wSpawn_go h hp hc hn
  · exact wSpawn_parts h hp hc
end
end Go.Proofs.YtnhlnnehpmjeiaaGreatDoor
