/- What each of a world's calls answers, and leaves: plain. · The index: Free, Alive, Spawn, Kill. · The index: Spawn, Kill. · The index: Kill, Live. -/
import Derived.Test.YtnhlnnehpmjeiaaGreatDoorP28
import Derived.Test.YtnhlnnehpmjeiaaGreatDoorP15
namespace Go.Proofs.YtnhlnnehpmjeiaaGreatDoor
open Go.RowKit
set_option linter.unusedVariables false
def pwOf (p : Int × List WI) : PW := ⟨p.1, none, 0, 0, p.2⟩
theorem cpF_cv (cs : List Cmp) (p : PW) : cpF cs (pwOf (p.comp, p.val)) = cpF cs p := rfl
theorem cpsGo_cv (cs : List Cmp) : ∀ (ps seen : List PW), cpsGo cs ((cv seen).map pwOf) ((cv ps).map pwOf) = cpsGo cs seen ps
  | [], _ => by unfold cpsGo; rfl
  | p :: r, seen => by
    have h := cpsGo_cv cs r (seen ++ [p])
    unfold cpsGo
    rw [show (cv (p :: r)).map pwOf = pwOf (p.comp, p.val) :: (cv r).map pwOf from rfl]
    have e : (((cv seen).map pwOf).any fun q => q.comp == (pwOf (p.comp, p.val)).comp) = (seen.any fun q => q.comp == p.comp) := by
      unfold cv
      rw [List.any_map, List.any_map]; rfl
    simp only [e, cpF_cv]
    have e2 : (cv seen).map pwOf ++ [pwOf (p.comp, p.val)] = (cv (seen ++ [p])).map pwOf := by simp [cv]
    rw [e2, h]
    rfl
/-- What is wrong with a part, with parts. -/
def fC (cs : List Cmp) (p : Int × List WI) : Int := cpF cs (pwOf p)
def cpC (cs : List Cmp) (l : List (Int × List WI)) : Int := cpsGo cs [] (l.map pwOf)
def setC (l : List (Int × List WI)) : Int := foldS (l.map (·.1))
theorem cpC_cv (cs : List Cmp) (ps : List PW) : cpC cs (cv ps) = cpsGo cs [] ps := cpsGo_cv cs ps []
theorem setC_cv (ps : List PW) : setC (cv ps) = foldS (comps ps) := by unfold setC cv comps; rw [List.map_map]; rfl
/-- Somebody stands in a row. -/
def WS.rowAt (S : WS) (e : Int) : Option (Int × List (List WI)) := match S.who e with
  | some ⟨s, some r⟩ => some (s, r)
  | _ => none
def WS.spawnE (S : WS) (l : List (Int × List WI)) : Int := if cpC S.cs l ≠ 0 then cpC S.cs l else if S.ix.next = none then 5 else S.openE (setC l)
def WS.spawnH (S : WS) : Int := match S.ix.next with | none => 0 | some id => hOf id (S.ix.gen id)
def WS.spawnS (S : WS) (l : List (Int × List WI)) : WS := match S.ix.next with
  | none => S
  | some id => { S with ix := S.ix.spawn id, sets := S.openS (setC l), who := updW S.who (hOf id (S.ix.gen id)) (some ⟨setC l, some (rowOfC l (setC l))⟩) }
def WS.deadE (S : WS) (e : Int) : Int := if S.ix.alive e then 0 else 11
def WS.despawnS (S : WS) (e : Int) : WS := { S with ix := S.ix.kill (e % 4294967296).toNat, who := updW S.who e none }
def WS.movedS (S : WS) (e s : Int) (l : List (Int × List WI)) : WS := { S with sets := S.openS s, who := updW S.who e (some ⟨s, some (rowOfC l s)⟩) }
def WS.addS (S : WS) (e : Int) (p : Int × List WI) : WS := match S.rowAt e with
  | none => S
  | some (s, r) => S.movedS e (sWith s p.1) (cvOf s r ++ [p])
def WS.removeS (S : WS) (e c : Int) : WS := match S.rowAt e with
  | none => S
  | some (s, r) => S.movedS e (sWithout s c) ((cvOf s r).filter fun p => decide (p.1 ≠ c))
def putC (l : List (Int × List WI)) (p : Int × List WI) : List (Int × List WI) := l.map fun q => if q.1 = p.1 then p else q
end Go.Proofs.YtnhlnnehpmjeiaaGreatDoor
namespace Go.Proofs.YtnhlnnehpmjeiaaGreatDoor
open Go.RowKit
set_option linter.unusedVariables false
theorem quiet_sm {P : Program} {f : FuncId} {args : Array Value} {w : World} {n : Nat} {v : Value} (h : Calls P f args (w.drewN n) fun e w' => e = .returned v ∧ w.drewN n = w') :
    Calls P f args (w.drewN n) fun e w'' => e = .returned v ∧ ∃ m, w'' = w.drewN m := h.mono fun _ _ ⟨he, hm⟩ => ⟨he, n, hm.symm⟩
theorem xFree_any (x : XD) (w : World) (h : XMem w x) : Calls Tryz.prog 150 #[.pointer (some ⟨x.xb, 0, none⟩)] w fun e w' => e = .returned (.int .i64 (x.fr.length : Int)) ∧ w = w' := by
  obtain ⟨_, _, _, c3, _⟩ := h.cells
  clear h
  go_enter Tryz.func150, Tryz.ntmps150
  go_wp2_with fail
  go_returns
  exact ⟨rfl, rfl⟩
theorem XMem.grow {w : World} {x : XD} (h : XMem w x) {k : Nat} (hk : k < x.ix.gens.length) : ∃ q, x.ga = some ⟨q, 0, none⟩ ∧ w.cell? ⟨q, k, none⟩ = some (.int .i64 (x.ix.gen k)) ∧ w.frozen? ⟨q, k, none⟩ = false := by
  obtain ⟨q, hq, _, hl, hc⟩ := row_block h.gensR (by omega)
  obtain ⟨q2, hq2, _, hf, _, hcap⟩ := ownsRow_set (r := k) (.int .i64 0) h.gensR hk
  have : q2 = q := by rw [hq] at hq2; cases hq2; rfl
  subst this
  refine ⟨q2, hq, hc k _ ?_, hf⟩
  rw [List.getElem?_map, List.getElem?_eq_getElem hk]
  unfold IX.gen
  rw [List.getD_eq_getElem?_getD, List.getElem?_eq_getElem hk]; rfl
theorem XMem.lrow {w : World} {x : XD} (h : XMem w x) {k : Nat} (hk : k < x.ix.lives.length) : ∃ q, x.la = some ⟨q, 0, none⟩ ∧ w.cell? ⟨q, k, none⟩ = some (.bool (x.ix.live k)) ∧ w.frozen? ⟨q, k, none⟩ = false := by
  obtain ⟨q, hq, _, hl, hc⟩ := row_block h.livesR (by omega)
  obtain ⟨q2, hq2, _, hf, _, hcap⟩ := ownsRow_set (r := k) (.bool false) h.livesR hk
  have : q2 = q := by rw [hq] at hq2; cases hq2; rfl
  subst this
  refine ⟨q2, hq, hc k _ ?_, hf⟩
  rw [List.getElem?_map, List.getElem?_eq_getElem hk]
  unfold IX.live
  rw [List.getD_eq_getElem?_getD, List.getElem?_eq_getElem hk]; rfl
set_option maxRecDepth 100000 in
set_option maxHeartbeats 2000000 in
theorem xAlive_any (x : XD) (w : World) (h : XIn w x) (e : Int) (h0 : 0 ≤ e) (h1 : e < 18446744073709551616) : Calls Tryz.prog 156 #[.pointer (some ⟨x.xb, 0, none⟩), .int .u64 e] w fun en w' => en = .returned (.bool (x.ix.alive e)) ∧ Below w.heap.size w w' := by
  obtain ⟨_, c1, c2, _, _⟩ := h.cells
  have hlen := h.ok.len
  have hn2 := h.ok.n2
  obtain ⟨id, hid⟩ : ∃ id : Nat, e % 4294967296 = (id : Int) := ⟨(e % 4294967296).toNat, by omega⟩
  have HA : Hid (x.ix.alive e = (x.ix.live id && decide (x.ix.gen id = e / 4294967296))) := Lib.hid (by unfold IX.alive; rw [hid, Int.toNat_natCast])
  obtain ⟨n, hn⟩ : ∃ n, x.ix.gens.length = n := ⟨_, rfl⟩
  rw [hlen] at c2
  rw [hn] at c1 c2
  by_cases hlt : id < n
  · obtain ⟨q1, hq1, d1, _⟩ := h.grow (k := id) (by omega)
    obtain ⟨q2, hq2, d2, _⟩ := h.lrow (k := id) (by omega)
    rw [hq1] at c1
    rw [hq2] at c2
    have g1 : decide ((n : Int) ≤ (id : Int)) = false := by simp; omega
    have i0 : (0 : Int) ≤ (id : Int) := by omega
    have i1 : (id : Int) < (n : Int) := by omega
    have HID := Lib.hid hid
    have hcl := fun wx : World => entId_any e wx h0 h1
    rw [hid] at hcl
    have HC := Lib.hid hcl
    have HG := Lib.hid (fun wx : World => entGen_any e wx h0 h1)
    clear h hlen hid hcl hn hq1 hq2
    cases hv : x.ix.live id
    · rw [hv] at d2
      have HV := Lib.hid hv
      clear hv
      go_enter Tryz.func156, Tryz.ntmps156
      go_wp2_with fail
      go_quiet ((go_at_call 31; exact quiet_sm (HC.out _)))
      have hb1 : Below w.heap.size w (w.drewN nq) := below_drewN (Below.refl _ _) _
      have c1 : (w.drewN nq).cell? _ = _ := c1
      have c2 : (w.drewN nq).cell? _ = _ := c2
      have d1 : (w.drewN nq).cell? _ = _ := d1
      have d2 : (w.drewN nq).cell? _ = _ := d2
      generalize w.drewN nq = W1 at hb1 c1 c2 d1 d2 ⊢
      go_wp2_with fail
      go_quiet ((go_at_call 31; exact quiet_sm (HC.out _)))
      go_wp2_with fail
      go_returns
      exact ⟨ret_bool (by rw [HA.out, HV.out]; rfl), below_drewN hb1 _⟩
    · rw [hv] at d2
      have HV := Lib.hid hv
      clear hv
      go_enter Tryz.func156, Tryz.ntmps156
      go_wp2_with fail
      go_quiet ((go_at_call 31; exact quiet_sm (HC.out _)))
      have hb1 : Below w.heap.size w (w.drewN nq) := below_drewN (Below.refl _ _) _
      have c1 : (w.drewN nq).cell? _ = _ := c1
      have c2 : (w.drewN nq).cell? _ = _ := c2
      have d1 : (w.drewN nq).cell? _ = _ := d1
      have d2 : (w.drewN nq).cell? _ = _ := d2
      generalize w.drewN nq = W1 at hb1 c1 c2 d1 d2 ⊢
      go_wp2_with fail
      go_quiet ((first | (go_at_call 31; exact quiet_sm (HC.out _)) | (go_at_call 32; exact quiet_sm (HG.out _))))
      go_wp2_with fail
      go_returns
      exact ⟨ret_bool (by rw [HA.out, HV.out]; rfl), below_drewN hb1 _⟩
  · have g1 : decide ((n : Int) ≤ (id : Int)) = true := by simp; omega
    have HV : Hid (x.ix.live id = false) := Lib.hid (by
      cases hv : x.ix.live id with
      | false => rfl
      | true => exact absurd (IX.live_lt hlen hv) (by omega))
    have hcl := fun wx : World => entId_any e wx h0 h1
    rw [hid] at hcl
    have HC := Lib.hid hcl
    clear h hlen hid hcl hn
    go_enter Tryz.func156, Tryz.ntmps156
    go_wp2_with fail
    go_quiet ((go_at_call 31; exact quiet_sm (HC.out _)))
    go_wp2_with fail
    go_returns
    exact ⟨ret_bool (by rw [HA.out, HV.out]; rfl), below_drewN (Below.refl _ _) _⟩
end Go.Proofs.YtnhlnnehpmjeiaaGreatDoor
namespace Go.Proofs.YtnhlnnehpmjeiaaGreatDoor
open Go.RowKit
set_option linter.unusedVariables false
def XD.withIx (x : XD) (ix : IX) : XD := { x with ix := ix }
def IX.withLive (x : IX) (k : Nat) (b : Bool) : IX := { x with lives := x.lives.set k b }
def IX.withGen (x : IX) (k : Nat) (g : Int) : IX := { x with gens := x.gens.set k g }
theorem XMem.lput {w : World} {x : XD} (h : XMem w x) {k : Nat} (hk : k < x.ix.lives.length) (b : Bool) {q : Nat} (hq : x.la = some ⟨q, 0, none⟩) : XStep x (x.withIx (x.ix.withLive k b)) w (w.setCell ⟨q, k, none⟩ (.bool b)) := by
  obtain ⟨q2, hq2, hrow, hf, hql, hcap⟩ := ownsRow_set (r := k) (.bool b) h.livesR hk
  have : q2 = q := by rw [hq] at hq2; cases hq2; rfl
  subst this
  have ho : Only q2 w (w.setCell ⟨q2, k, none⟩ (.bool b)) := Only.at w q2 k _
  have hfb : (Value.slice x.la x.ix.lives.length x.lc).ownBlock = some q2 := by rw [hq]; rfl
  have hn1 : q2 ≠ x.xb := h.lb q2 hfb
  have hty : ∀ b' v n xs, w.ownsRow 0 3 1 v n xs → v.ownBlock = some b' → b' ≠ q2 := fun b' v n xs hr hb e => by
    subst e
    obtain ⟨c1, h1⟩ := row_type h.livesR hfb
    obtain ⟨c2, h2⟩ := row_type hr hb
    rw [h1] at h2; cases h2
  have hout : Out (fun b => b = q2) w (w.setCell ⟨q2, k, none⟩ (.bool b)) := Out.only ho rfl
  refine ⟨⟨?_, ownsRow_out h.gensR hout (fun b' hb => hty b' _ _ _ h.gensR hb), ?_, ownsRow_out h.freeR hout (fun b' hb => hty b' _ _ _ h.freeR hb), h.ne⟩, rfl, hout.mono (fun b hb => .inl (by subst hb; exact .inr (.inr (.inl hfb)))), fun b' hb => .inl ?_⟩
  · have := keepO ho h.blk (Ne.symm hn1)
    simpa [XD.withIx, IX.withLive] using this
  · simpa [XD.withIx, IX.withLive, List.map_set] using hrow
  · rcases hb with hb | hb | hb | hb
    · exact .inl hb
    · exact .inr (.inl hb)
    · exact .inr (.inr (.inl (by simpa [XD.withIx, IX.withLive] using hb)))
    · exact .inr (.inr (.inr hb))
theorem XMem.gput {w : World} {x : XD} (h : XMem w x) {k : Nat} (hk : k < x.ix.gens.length) (g : Int) {q : Nat} (hq : x.ga = some ⟨q, 0, none⟩) : XStep x (x.withIx (x.ix.withGen k g)) w (w.setCell ⟨q, k, none⟩ (.int .i64 g)) := by
  obtain ⟨q2, hq2, hrow, hf, hql, hcap⟩ := ownsRow_set (r := k) (.int .i64 g) h.gensR hk
  have : q2 = q := by rw [hq] at hq2; cases hq2; rfl
  subst this
  have ho : Only q2 w (w.setCell ⟨q2, k, none⟩ (.int .i64 g)) := Only.at w q2 k _
  have hfb : (Value.slice x.ga x.ix.gens.length x.gc).ownBlock = some q2 := by rw [hq]; rfl
  have hn1 : q2 ≠ x.xb := h.gb q2 hfb
  have hn3 : ∀ b, (Value.slice x.la x.ix.lives.length x.lc).ownBlock = some b → b ≠ q2 := fun b hb e => by
    subst e
    obtain ⟨c1, h1⟩ := row_type h.livesR hb
    obtain ⟨c2, h2⟩ := row_type h.gensR hfb
    rw [h1] at h2; cases h2
  have hn4 : ∀ b, (Value.slice x.fa x.fr.length x.fc).ownBlock = some b → b ≠ q2 := fun b hb e => by subst e; exact h.ne _ hfb hb
  have hout : Out (fun b => b = q2) w (w.setCell ⟨q2, k, none⟩ (.int .i64 g)) := Out.only ho rfl
  refine ⟨⟨?_, ?_, ownsRow_out h.livesR hout hn3, ownsRow_out h.freeR hout hn4, ?_⟩, rfl, hout.mono (fun b hb => .inl (by subst hb; exact .inr (.inl hfb))), fun b' hb => .inl ?_⟩
  · have := keepO ho h.blk (Ne.symm hn1)
    simpa [XD.withIx, IX.withGen] using this
  · simpa [XD.withIx, IX.withGen, List.map_set] using hrow
  · intro b hb
    refine h.ne b ?_
    simpa [XD.withIx, IX.withGen] using hb
  · rcases hb with hb | hb | hb | hb
    · exact .inl hb
    · exact .inr (.inl (by simpa [XD.withIx, IX.withGen] using hb))
    · exact .inr (.inr (.inl hb))
    · exact .inr (.inr (.inr hb))
set_option maxRecDepth 100000 in
set_option maxHeartbeats 2000000 in
theorem xSpawn_ok (x : XD) (w : World) (h : XIn w x) {id : Nat} (hn : x.ix.next = some id) : Calls Tryz.prog 153 #[.pointer (some ⟨x.xb, 0, none⟩)] w fun e w' => e = .returned (.tuple #[.int .u64 (hOf id (x.ix.gen id)), .int .i64 0]) ∧ ∃ x', x'.ix = x.ix.spawn id ∧ XIn w' x' ∧ XStep x x' w w' := by
  obtain ⟨n1, n2, n3, n4⟩ := IX.next_some hn
  have hlen := h.ok.len
  have hn2 := h.ok.n2
  have hg1 := h.ok.gen1 id n1 n2
  have hm2 := h.ok.most2
  have h0 : x.fr ≠ [] := fun e => by
    have := h.free
    rw [e] at this
    rw [this.next_none] at hn; cases hn
  obtain ⟨id', hn', hid'⟩ := h.free.next h0
  rw [hn] at hn'
  cases hn'
  obtain ⟨m, hm⟩ : ∃ m, x.fr.length = m + 1 := ⟨x.fr.length - 1, by have := List.length_pos_iff.2 h0; omega⟩
  have hfl := h.free.len h.ok
  have hf := xFree_any x w h.toXMem
  rw [hm] at hf
  have hpop := hPop_any x w h.toXMem m hm (by omega) (by rw [← hm]; exact h.free.heap)
  rw [hid'] at hpop
  obtain ⟨gn, hgn⟩ : ∃ gn : Nat, x.ix.gen id = (gn : Int) := ⟨(x.ix.gen id).toNat, by omega⟩
  rw [hgn] at hg1 ⊢
  have HGN := Lib.hid hgn
  have HF := Lib.hid hf
  have HPOP := Lib.hid hpop
  have H := Lib.hid h
  have HN := Lib.hid hn
  have hT := assert_int (id : Int)
  have e1 : (((m + 1 : Nat) : Int) == 0) = false := by simp; omega
  have HLEN := Lib.hid hlen
  have HG := Lib.hid hg1
  have hgl := x.ix.gens.length
  clear h hn hlen hf hpop hid' hm hg1 hgn n4
  go_enter Tryz.func153, Tryz.ntmps153
  go_wp2_with fail
  refine HF.out.mono ?_
  rintro e w1 ⟨rfl, rfl⟩
  go_wp2_with fail
  refine HPOP.out.mono ?_
  rintro e w1 ⟨rfl, l, hst1, hll, hp, hh⟩
  obtain ⟨_, _, c2, _, _⟩ := hst1.mem.cells
  have hidl : id < (x.withFr l).ix.lives.length := by show id < x.ix.lives.length; have := HLEN.out; omega
  obtain ⟨q, hq, d2, f2⟩ := hst1.mem.lrow hidl
  rw [hq] at c2
  have c2 : w1.cell? ⟨x.xb, 2, none⟩ = some (.slice (some ⟨q, 0, none⟩) x.ix.lives.length x.lc) := c2
  have i0 : (0 : Int) ≤ (id : Int) := by omega
  have i1 : (id : Int) < (x.ix.lives.length : Int) := by have := HLEN.out; omega
  have hst2 := hst1.trans (hst1.mem.lput hidl true hq)
  obtain ⟨_, c1, _, _, _⟩ := hst2.mem.cells
  have hidg : id < ((x.withFr l).withIx ((x.withFr l).ix.withLive id true)).ix.gens.length := n2
  obtain ⟨q1, hq1, d1, _⟩ := hst2.mem.grow hidg
  rw [hq1] at c1
  have c1 : (w1.setCell ⟨q, id, none⟩ (.bool true)).cell? ⟨x.xb, 1, none⟩ = some (.slice (some ⟨q1, 0, none⟩) x.ix.gens.length x.gc) := c1
  have i2 : (id : Int) < (x.ix.gens.length : Int) := by omega
  have hge : ((x.withFr l).withIx ((x.withFr l).ix.withLive id true)).ix.gen id = x.ix.gen id := rfl
  rw [hge] at d1
  rw [HGN.out] at d1
  have hent := fun wx : World => entOf_any id gn wx n1 (by omega) (by have := HG.out; omega) (by have := HG.out; omega)
  have HENT := Lib.hid hent
  have hfin : XIn (w1.setCell ⟨q, id, none⟩ (.bool true)) ((x.withFr l).withIx ((x.withFr l).ix.withLive id true)) :=
    ⟨hst2.mem, (H.out.ok.spawn HN.out).1, H.out.free.pop HN.out H.out.ok (by show HeapN l l.length; rw [hll]; exact hh) hp⟩
  have HFIN := Lib.hid (show ∃ x', x'.ix = x.ix.spawn id ∧ XIn (w1.setCell ⟨q, id, none⟩ (.bool true)) x' ∧ XStep x x' w (w1.setCell ⟨q, id, none⟩ (.bool true)) from ⟨_, rfl, hfin, hst2⟩)
  clear hst1 hst2 hfin hq hq1 hge hent hll hp hh HF HPOP
  go_wp2_with fail
  refine (HENT.out _).mono ?_
  rintro e w2 ⟨rfl, rfl⟩
  go_wp2_with fail
  go_ret2
  exact ⟨rfl, HFIN.out⟩
end Go.Proofs.YtnhlnnehpmjeiaaGreatDoor
namespace Go.Proofs.YtnhlnnehpmjeiaaGreatDoor
open Go.RowKit
set_option linter.unusedVariables false
set_option maxRecDepth 100000 in
set_option maxHeartbeats 4000000 in
theorem xKill_ok (x : XD) (w : World) (h : XIn w x) (e : Int) (h0 : 0 ≤ e) (h1 : e < 18446744073709551616) (ha : x.ix.alive e = true) : Calls Tryz.prog 143 #[.pointer (some ⟨x.xb, 0, none⟩), .int .u64 e] w fun en w' => en = .returned (.int .i64 0) ∧ ∃ x', x'.ix = x.ix.kill (e % 4294967296).toNat ∧ XIn w' x' ∧ XStep x x' w w' := by
  obtain ⟨id, hlv, rfl, hid, n1, n2⟩ := h.ok.live_id ((h.ok.alive_iff e h0).1 ha)
  rw [hid]
  have hn2 := h.ok.n2
  have hm2 := h.ok.most2
  have hgm := h.ok.liveg id hlv
  have hg1 := (h.ok.gen1 id n1 n2).1
  have hfl := h.free.len h.ok
  obtain ⟨E, hE⟩ : ∃ E, hOf (id : Int) (x.ix.gen id) = E := ⟨_, rfl⟩
  rw [hE] at h0 h1 ha ⊢
  have hmod : E % 4294967296 = (id : Int) := by rw [← hE, hOf_id (by omega) (by omega)]
  have hc := xAlive_any x w h E h0 h1
  rw [ha] at hc
  have hci := fun wx : World => entId_any E wx h0 h1
  rw [hmod] at hci
  have HC := Lib.hid hc
  have HCI := Lib.hid hci
  have H := Lib.hid h
  have HLV := Lib.hid hlv
  have HLEN := Lib.hid h.ok.len
  have HHE := Lib.hid hE
  have HGM := Lib.hid hgm
  have HG1 := Lib.hid hg1
  have HFL := Lib.hid hfl
  clear h hc hci ha hlv hid hE hmod hgm hg1 hfl h0 h1
  go_enter Tryz.func143, Tryz.ntmps143
  go_wp2_with fail
  refine HC.out.mono ?_
  rintro en w1 ⟨rfl, hb⟩
  have hst0 := (XStep.refl H.out.toXMem).below hb
  have HST0 := Lib.hid hst0
  clear hst0 HC
  go_wp2_with fail
  refine (HCI.out _).mono ?_
  rintro en w1' ⟨rfl, rfl⟩
  have hst0 := HST0.out
  obtain ⟨_, _, c2, _, _⟩ := hst0.mem.cells
  have hidl : id < x.ix.lives.length := by have := HLEN.out; omega
  obtain ⟨q, hq, d2, f2⟩ := hst0.mem.lrow hidl
  rw [hq] at c2
  have i0 : (0 : Int) ≤ (id : Int) := by omega
  have i1 : (id : Int) < (x.ix.lives.length : Int) := by have := HLEN.out; omega
  have hst2 := hst0.trans (hst0.mem.lput hidl false hq)
  obtain ⟨_, c1, _, _, _⟩ := hst2.mem.cells
  have hidg : id < (x.withIx (x.ix.withLive id false)).ix.gens.length := n2
  obtain ⟨q1, hq1, d1, f1⟩ := hst2.mem.grow hidg
  have hq1' : x.ga = some ⟨q1, 0, none⟩ := hq1
  rw [hq1] at c1
  replace c1 : (w1.setCell ⟨q, id, none⟩ (.bool false)).cell? ⟨x.xb, 1, none⟩ = some (.slice (some ⟨q1, 0, none⟩) x.ix.gens.length x.gc) := c1
  have i2 : (id : Int) < (x.ix.gens.length : Int) := by omega
  replace d1 : (w1.setCell ⟨q, id, none⟩ (.bool false)).cell? ⟨q1, id, none⟩ = some (.int .i64 (x.ix.gen id)) := d1
  have hst3 := hst2.trans (hst2.mem.gput hidg (x.ix.gen id + 1) hq1)
  replace hst3 : XStep x (x.withIx (x.ix.kill id)) w ((w1.setCell ⟨q, id, none⟩ (.bool false)).setCell ⟨q1, id, none⟩ (.int .i64 (x.ix.gen id + 1))) := hst3
  obtain ⟨c0', c1', _, c3', _⟩ := hst3.mem.cells
  have hidg3 : id < (x.withIx (x.ix.kill id)).ix.gens.length := by show id < (x.ix.gens.set id _).length; simp; omega
  obtain ⟨q3, hq3, d3, _⟩ := hst3.mem.grow hidg3
  have hq3' : x.ga = some ⟨q3, 0, none⟩ := hq3
  have : q3 = q1 := by rw [hq3'] at hq1'; cases hq1'; rfl
  subst this
  have hkg : (x.withIx (x.ix.kill id)).ix.gen id = x.ix.gen id + 1 := by
    show (x.ix.gens.set id (x.ix.gen id + 1)).getD id 0 = _
    rw [getD_set (by omega), if_pos rfl]
  rw [hkg] at d3
  have hkl : (x.withIx (x.ix.kill id)).ix.gens.length = x.ix.gens.length := by show (x.ix.gens.set id _).length = _; simp
  rw [hq3, hkl] at c1'
  replace c1' : ((w1.setCell ⟨q, id, none⟩ (.bool false)).setCell ⟨q3, id, none⟩ (.int .i64 (x.ix.gen id + 1))).cell? ⟨x.xb, 1, none⟩ = some (.slice (some ⟨q3, 0, none⟩) x.ix.gens.length x.gc) := c1'
  replace c0' : ((w1.setCell ⟨q, id, none⟩ (.bool false)).setCell ⟨q3, id, none⟩ (.int .i64 (x.ix.gen id + 1))).cell? ⟨x.xb, 0, none⟩ = some (.int .i64 x.ix.most) := c0'
  have hgm := HGM.out
  have hg1 := HG1.out
  have HST3 := Lib.hid hst3
  have HID := Lib.hid hidg3
  clear hst0 hst2 hst3 hq hq1 hq1' hq3 hq3' hkg hkl hidg hidg3 c3' HST0
  have hpush : ∀ W, XStep x (x.withIx (x.ix.kill id)) w W → Calls Tryz.prog 20 #[.iface 250 (.pointer (some ⟨x.xb, 3, none⟩)), .iface 3 (.int .i64 id)] W fun e w' => e = .returned (.tuple #[]) ∧ ∃ fa fc l, XStep x ((x.withIx (x.ix.kill id)).withFa fa fc l) w w' ∧ l.Perm ((id : Int) :: x.fr) ∧ HeapN l l.length := by
    intro W hW
    refine (hPush_any (x.withIx (x.ix.kill id)) W hW.mem id (by show x.fr.length ≤ 290; have := HFL.out; omega) H.out.free.heap).mono ?_
    rintro e w' ⟨he, fa, fc, l, hs, hp, hh⟩
    exact ⟨he, fa, fc, l, hW.trans hs, hp, hh⟩
  have HPUSH := Lib.hid hpush
  clear hpush
  by_cases hgo : x.ix.gen id + 1 ≤ x.ix.most
  · have g1 : decide (x.ix.gen id + 1 ≤ x.ix.most) = true := decide_eq_true hgo
    have hfk : ∀ l, l.Perm ((id : Int) :: x.fr) → HeapN l l.length → FreeOk (x.ix.kill id) l := fun l hp hh => H.out.free.push HLV.out H.out.ok hh (by rw [if_pos hgo]; exact hp)
    have HFK := Lib.hid hfk
    have HKO := Lib.hid (H.out.ok.kill HLV.out).1
    clear hgo hfk
    go_wp2_with fail
    generalize (w1.setCell ⟨q, id, none⟩ (.bool false)).setCell ⟨q3, id, none⟩ (.int .i64 (x.ix.gen id + 1)) = W3 at HST3 c0' c1' d3 ⊢
    clear c1 c2 d1 d2 f1 f2
    go_quiet (fail)
    go_wp2_with fail
    refine (HPUSH.out (W3.drewN nq) (HST3.out.below (c := W3.drewN nq) ⟨rfl, rfl, rfl, Nat.le_refl _, fun _ _ => rfl⟩)).mono ?_
    rintro en w5 ⟨rfl, fa, fc, l, hs, hp, hh⟩
    have HF := Lib.hid (show ∃ x', x'.ix = x.ix.kill id ∧ XIn w5 x' ∧ XStep x x' w w5 from ⟨_, rfl, ⟨hs.mem, HKO.out, HFK.out l hp hh⟩, hs⟩)
    clear hs hp hh
    go_wp2_with fail
    go_returns
    exact ⟨rfl, HF.out⟩
  · have g1 : decide (x.ix.gen id + 1 ≤ x.ix.most) = false := decide_eq_false hgo
    have HFK := Lib.hid (H.out.free.push (fr' := x.fr) HLV.out H.out.ok H.out.free.heap (by rw [if_neg hgo]))
    have HKO := Lib.hid (H.out.ok.kill HLV.out).1
    clear hgo
    go_wp2_with fail
    generalize (w1.setCell ⟨q, id, none⟩ (.bool false)).setCell ⟨q3, id, none⟩ (.int .i64 (x.ix.gen id + 1)) = W3 at HST3 c0' c1' d3 ⊢
    clear c1 c2 d1 d2 f1 f2
    go_quiet (fail)
    have hs := HST3.out.below (c := W3.drewN nq) ⟨rfl, rfl, rfl, Nat.le_refl _, fun _ _ => rfl⟩
    have HF := Lib.hid (show ∃ x', x'.ix = x.ix.kill id ∧ XIn _ x' ∧ XStep x x' w _ from ⟨_, rfl, ⟨hs.mem, HKO.out, HFK.out⟩, hs⟩)
    clear hs
    go_wp2_with fail
    go_returns
    exact ⟨rfl, HF.out⟩
end Go.Proofs.YtnhlnnehpmjeiaaGreatDoor
