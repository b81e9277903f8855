/- How the arguments of the worlds' laws are read: caps, deeds. · What a deed does to all: plain. · A world's await: somebody whose values aren't there yet. · A world's isAll: whether a list has just those who live. -/
import Derived.Test.YthmpknlgkflhiabGreatQ19
import Derived.Test.YthmpknlgkflhiabGreatQ42
import Derived.Test.YthmpknlgkflhiabGreatQ31
namespace Go.Proofs.YthmpknlgkflhiabGreat
open Go.ChangeShapes Go.WideShapes Go.RowKit Go.Deep
set_option linter.unusedVariables false
section
variable {H : Type} {enc : TypeId × Value → H} {w : World} {base : Nat} {spare : Nat → Bool} {held : Bool}
theorem open_struct {P : Program} {t : TypeId} {fs : Array Field} {r : Reach} {b0 : Nat} {v : Value} {d : DataW H} {p : List MemPlace} (hs : P.underlying t = some (.struct fs)) (hone : oneCellFields P fs = true) (hC : P.cellsOf t = fs.size) (hv : Value.okWide P w r b0 t v) (h : DataW.Trod enc P w base spare held t v d p) :
  ∃ cs : Array Value, v = .agg cs ∧ cs.size = fs.size ∧ ∀ (j : Nat) (f : Field), fs[j]? = some f → ∃ (u : Value) (y : DataW H × List MemPlace) (n : Nat), cs[j]? = some u ∧ DataW.trod enc P w base spare held n f.type [u] = some y := by
 obtain ⟨cs, rfl, hsz⟩ := okWide_struct hs hv
 obtain ⟨fuel, hf⟩ := h
 obtain ⟨xs, n, _, _, _, hlen, hg⟩ := DataW.trod_struct hs hf
 refine ⟨cs, rfl, hsz.trans hC, fun j f hj => ?_⟩
 obtain ⟨ho, hk⟩ := hone_of hone j f hj
 have hjl : j < fs.size := (Array.getElem?_eq_some_iff.1 hj).1
 have hjc : j < cs.size := by rw [hsz, hC]; exact hjl
 have h1 := hg j f hj
 rw [ho, hk] at h1
 have h2 : (((Value.agg cs).cells).toList.drop j).take 1 = [cs[j]] := by
  show ((cs.toList).drop j).take 1 = _
  rw [List.drop_eq_getElem_cons (by simpa using hjc)]
  simp
 rw [h2] at h1
 have hx : xs[j]? = some (xs[j]'(by omega)) := List.getElem?_eq_getElem (by omega)
 exact ⟨cs[j], xs[j]'(by omega), n, Array.getElem?_eq_getElem hjc, h1.trans hx⟩
theorem Tryz.one26 : ∃ fs, Tryz.prog.underlying 26 = some (.struct fs) ∧ oneCellFields Tryz.prog fs = true ∧ Tryz.prog.cellsOf 26 = fs.size ∧ fs.size = 6 ∧ (fs[0]?.map (·.type)) = some 3 ∧ (fs[1]?.map (·.type)) = some 3 ∧ (fs[2]?.map (·.type)) = some 3 ∧ (fs[3]?.map (·.type)) = some 3 ∧ (fs[4]?.map (·.type)) = some 3 ∧ (fs[5]?.map (·.type)) = some 3 :=
 ⟨_, Tryz.underlying26, by kernel_rfl, by kernel_rfl, rfl, rfl, rfl, rfl, rfl, rfl, rfl⟩
theorem Tryz.one37 : ∃ fs, Tryz.prog.underlying 37 = some (.struct fs) ∧ oneCellFields Tryz.prog fs = true ∧ Tryz.prog.cellsOf 37 = fs.size ∧ fs.size = 5 ∧ (fs[0]?.map (·.type)) = some 3 ∧ (fs[1]?.map (·.type)) = some 3 ∧ (fs[2]?.map (·.type)) = some 34 ∧ (fs[3]?.map (·.type)) = some 3 ∧ (fs[4]?.map (·.type)) = some 35 :=
 ⟨_, Tryz.underlying37, by kernel_rfl, by kernel_rfl, rfl, rfl, rfl, rfl, rfl, rfl⟩
theorem six {cs : Array Value} (h : cs.size = 6) {a b c d e f : Value} (h0 : cs[0]? = some a) (h1 : cs[1]? = some b) (h2 : cs[2]? = some c) (h3 : cs[3]? = some d) (h4 : cs[4]? = some e) (h5 : cs[5]? = some f) : cs = #[a, b, c, d, e, f] := by
 obtain ⟨l⟩ := cs
 match l, h with
 | [x0, x1, x2, x3, x4, x5], _ =>
  simp at h0 h1 h2 h3 h4 h5
  subst h0; subst h1; subst h2; subst h3; subst h4; subst h5
  rfl
set_option maxRecDepth 100000 in
theorem open_caps {r : Reach} {b0 : Nat} {v : Value} {d : DataW H} {p : List MemPlace} (hv : Value.okWide Tryz.prog w r b0 26 v) (h : DataW.Trod enc Tryz.prog w base spare held 26 v d p) :
  ∃ c : CapsD, v = .agg #[.int .i64 c.ents, .int .i64 c.rows, .int .i64 c.archs, .int .i64 c.cmds, .int .i64 c.fuel, .int .i64 c.gens] := by
 obtain ⟨fds, hu, hone, hC, hsz, g0, g1, g2, g3, g4, g5⟩ := Tryz.one26
 obtain ⟨cs, rfl, hcs, hf⟩ := open_struct hu hone hC hv h
 have key : ∀ (j : Nat), (fds[j]?.map (fun (f : Field) => f.type)) = some 3 → ∃ k, cs[j]? = some (Value.int .i64 k) := by
  intro j hj
  obtain ⟨f, q, rr⟩ := field_of hj
  obtain ⟨u, y, n, hu', ht⟩ := hf j f q
  rw [rr] at ht
  obtain ⟨k, e, _, _⟩ := DataW.trod_int Tryz.underlying3 ht
  cases e
  exact ⟨k, hu'⟩
 obtain ⟨k0, h0⟩ := key 0 g0
 obtain ⟨k1, h1⟩ := key 1 g1
 obtain ⟨k2, h2⟩ := key 2 g2
 obtain ⟨k3, h3⟩ := key 3 g3
 obtain ⟨k4, h4⟩ := key 4 g4
 obtain ⟨k5, h5⟩ := key 5 g5
 exact ⟨⟨k0, k1, k2, k3, k4, k5⟩, by rw [six (by omega) h0 h1 h2 h3 h4 h5]⟩
set_option maxRecDepth 100000 in
theorem open_wacts {fuel : Nat} {v : Value} {x : DataW H × List MemPlace} (h : DataW.trod enc Tryz.prog w base spare held fuel 27 [v] = some x) :
  ∃ a len cap l, v = .slice a len cap ∧ WActsAt w.heap.size w a len l := by
 obtain ⟨fds, hu, hone, hC, hsz, g0, g1, g2, g3, g4⟩ := Tryz.one37
 rcases open_elems Tryz.underlying27 hu hone hC (by omega) h with h1 | ⟨b, off, sp, len, cap, h1, hlm, hlc, hsp, hel⟩
 ·cases h1
  exact ⟨none, 0, 0, [], rfl, rfl, by unfold maxLen; omega, by simp, .inl rfl⟩
 ·cases h1
  obtain ⟨f0, q0, r0⟩ := field_of g0
  obtain ⟨f1, q1, r1⟩ := field_of g1
  obtain ⟨f2, q2, r2⟩ := field_of g2
  obtain ⟨f3, q3, r3⟩ := field_of g3
  obtain ⟨f4, q4, r4⟩ := field_of g4
  obtain ⟨l, hl, hp⟩ := list_of (fun i (x : WA) => (w.cell? ⟨b, off + i * 5, none⟩ = some (.int .i64 x.kind) ∧ w.cell? ⟨b, off + i * 5 + 1, none⟩ = some (.int .i64 x.i) ∧ w.cell? ⟨b, off + i * 5 + 2, none⟩ = some (.int .u64 x.e) ∧ w.cell? ⟨b, off + i * 5 + 3, none⟩ = some (.int .i64 x.comp) ∧ w.cell? ⟨b, off + i * 5 + 4, none⟩ = some (.slice x.pa x.pl x.pc)) ∧ PartsAt w.heap.size w x.pa x.pl x.pc x.ps ∧ 0 ≤ x.e ∧ x.e < 18446744073709551616) len (by
   intro i hi
   obtain ⟨v0, y0, n0, c0, t0⟩ := hel i hi 0 f0 q0
   obtain ⟨v1, y1, n1, c1, t1⟩ := hel i hi 1 f1 q1
   obtain ⟨v2, y2, n2, c2, t2⟩ := hel i hi 2 f2 q2
   obtain ⟨v3, y3, n3, c3, t3⟩ := hel i hi 3 f3 q3
   obtain ⟨v4, y4, n4, c4, t4⟩ := hel i hi 4 f4 q4
   rw [r0] at t0; rw [r1] at t1; rw [r2] at t2; rw [r3] at t3; rw [r4] at t4
   obtain ⟨a0, e0, _, _⟩ := DataW.trod_int Tryz.underlying3 t0
   obtain ⟨a1, e1, _, _⟩ := DataW.trod_int Tryz.underlying3 t1
   obtain ⟨a2, e2, _, w2⟩ := DataW.trod_int Tryz.underlying34 t2
   obtain ⟨a3, e3, _, _⟩ := DataW.trod_int Tryz.underlying3 t3
   obtain ⟨pa, pl, pc, ps, e4, hv⟩ := open_parts t4
   cases e0; cases e1; cases e2; cases e3; subst e4
   rw [hsz] at c0 c1 c2 c3 c4
   have hb := u64_of w2
   exact ⟨⟨a0, a1, a2, a3, pa, pl, pc, ps⟩, ⟨c0, c1, c2, c3, c4⟩, hv, hb.1, by show a2 < _; omega⟩)
  refine ⟨some ⟨b, off, sp⟩, len, cap, l, rfl, hl, hlm, fun x hx => ?_, ?_⟩
  ·obtain ⟨i, hi⟩ := List.getElem?_of_mem hx
   exact (hp i x hi).2
  ·by_cases h0 : len = 0
   ·exact .inl h0
   ·obtain ⟨rfl, hb⟩ := hsp (by omega)
    exact .inr ⟨b, off, rfl, hb, fun i x hx => (hp i x hx).1⟩
end
end Go.Proofs.YthmpknlgkflhiabGreat
namespace Go.Proofs.YthmpknlgkflhiabGreat
open Go.RowKit
set_option linter.unusedVariables false
structure RowOk (S : WS) (s : Int) (r : List (List WI)) : Prop where
 s0 : 0 ≤ s
 s1 : s ≤ 4294967295
 is : sIs s = true
 len : r.length = (idsTo s 24).length
 mem : s ∈ S.sets
def WS.AllRow (S : WS) : Prop := ∀ e ∈ S.ix.liveL, ∃ s r, S.who e = some ⟨s, some r⟩ ∧ RowOk S s r
structure Deed (S S' : WS) (h err dn : Int) : Prop where
 keep : ∀ x ∈ S.ix.liveL, ¬ (x = h ∧ err = 0) → x ∈ S'.ix.liveL ∧ S'.who x = S.who x
 count : (S'.ix.liveL.length : Int) = S.ix.liveL.length + dn
 sets : err ≠ 0 → S'.sets = S.sets
 all : S'.AllRow
 caps : S'.caps = S.caps
section
variable {S S' : WS} {h err c : Int} {l : List (Int × List WI)} {p : Int × List WI}
theorem Deed.same (ha : S.AllRow) (h err : Int) : Deed S S h err 0 := ⟨fun x hx _ => ⟨hx, rfl⟩, by omega, fun _ => rfl, ha, rfl⟩
theorem RowOk.sets {s : Int} {r : List (List WI)} (h : RowOk S s r) (hm : ∀ x ∈ S.sets, x ∈ S'.sets) : RowOk S' s r := ⟨h.s0, h.s1, h.is, h.len, hm _ h.mem⟩
theorem openS_mem (S : WS) (s : Int) : s ∈ S.openS s ∧ ∀ x ∈ S.sets, x ∈ S.openS s := by
 unfold WS.openS
 cases hp : posOf s S.sets with
 | some i => exact ⟨List.mem_of_getElem? (posOf_at hp), fun x hx => hx⟩
 | none => exact ⟨by simp, fun x hx => List.mem_append_left _ hx⟩
theorem AllRow.put (ha : S.AllRow) {sets : List Int} {s : Int} {r : List (List WI)} (hs : ∀ x ∈ S.sets, x ∈ sets) (h0 : 0 ≤ s) (h1 : s ≤ 4294967295) (his : sIs s = true) (hl : r.length = (idsTo s 24).length) (hm : s ∈ sets) (h : Int) :
  WS.AllRow { S with sets := sets, who := updW S.who h (some ⟨s, some r⟩) } := by
 intro e he
 by_cases hx : e = h
 ·subst hx
  exact ⟨s, r, updW_same _ _ _, h0, h1, his, hl, hm⟩
 ·obtain ⟨s', r', hw, hr⟩ := ha e he
  exact ⟨s', r', (updW_ne hx).trans hw, hr.s0, hr.s1, hr.is, hr.len, hs _ hr.mem⟩
theorem Deed.put (ha : S.AllRow) {sets : List Int} {s : Int} {r : List (List WI)} (hs : ∀ x ∈ S.sets, x ∈ sets) (h0 : 0 ≤ s) (h1 : s ≤ 4294967295) (his : sIs s = true) (hl : r.length = (idsTo s 24).length) (hm : s ∈ sets) (h : Int) :
  Deed S { S with sets := sets, who := updW S.who h (some ⟨s, some r⟩) } h 0 0 :=
 ⟨fun x hx hn => ⟨hx, updW_ne fun e => hn ⟨e, rfl⟩⟩, by show (S.ix.liveL.length : Int) = _; omega, fun hn => absurd rfl hn, AllRow.put ha hs h0 h1 his hl hm h, rfl⟩
theorem moved_deed (ha : S.AllRow) {s : Int} (h0 : 0 ≤ s) (h1 : s ≤ 4294967295) (his : sIs s = true) (h : Int) (l : List (Int × List WI)) : Deed S (S.movedS h s l) h 0 0 :=
 Deed.put ha (openS_mem S s).2 h0 h1 his (rowOfC_len l s) (openS_mem S s).1 h
theorem cpC_ids {ver : Int} {cs : List Cmp} (hs : schemaCheck ver cs = 0) (h : cpC cs l = 0) : (l.map (·.1)).all idB = true := by
 have := (PartsOk.of hs h).ids
 unfold comps at this
 rw [List.map_map] at this
 exact this
theorem fC_id {ver : Int} {cs : List Cmp} (hs : schemaCheck ver cs = 0) (h : fC cs p = 0) : idB p.1 = true := by
 have hc : cpC cs [p] = 0 := by
  unfold cpC
  exact cpsGo_mk cs _ _ (by simp) (by simp) (by simp; exact h)
 have := cpC_ids hs hc
 simpa using this
theorem spawn_deed (ha : S.AllRow) (hx : S.ix.Ok) (hs : schemaCheck S.ver S.cs = 0) (hk : S.spawnE l = 0) (h : Int) : Deed S (S.spawnS l) h 0 1 ∧ 0 < S.spawnH ∧ S.spawnH < 18446744073709551616 := by
 unfold WS.spawnE at hk
 split at hk
 ·exact absurd hk ‹_›
 ·rename_i hc
  have hc : cpC S.cs l = 0 := Classical.byContradiction hc
  split at hk
  ·cases hk
  ·rename_i hn
   cases hn' : S.ix.next with
   | none => exact absurd hn' hn
   | some id =>
    obtain ⟨hok, hni, hperm⟩ := hx.spawn hn'
    have hS : S.spawnS l = { S with ix := S.ix.spawn id, sets := S.openS (setC l), who := updW S.who (hOf id (S.ix.gen id)) (some ⟨setC l, some (rowOfC l (setC l))⟩) } := by unfold WS.spawnS; rw [hn']
    have hH : S.spawnH = hOf id (S.ix.gen id) := by unfold WS.spawnH; rw [hn']
    have hbd := foldS_bd (l.map (·.1))
    have hni2 : ∀ x ∈ S.ix.liveL, x ≠ hOf id (S.ix.gen id) := fun x hx e => hni (e ▸ hx)
    rw [hS, hH]
    refine ⟨⟨fun x hx _ => ⟨hperm.mem_iff.2 (List.mem_cons_of_mem _ hx), updW_ne (hni2 x hx)⟩, ?_, fun hn => absurd rfl hn, ?_, rfl⟩, ?_⟩
    ·show ((S.ix.spawn id).liveL.length : Int) = _
     rw [hperm.length_eq, List.length_cons]; omega
    ·intro e he
     have he : e ∈ (S.ix.spawn id).liveL := he
     rcases List.mem_cons.1 (hperm.mem_iff.1 he) with rfl | he
     ·exact ⟨_, _, updW_same _ _ _, hbd.1, hbd.2, sIs_fold _ (cpC_ids hs hc), rowOfC_len _ _, (openS_mem S _).1⟩
     ·obtain ⟨s, r, hw, hr⟩ := ha e he
      exact ⟨s, r, (updW_ne (hni2 e he)).trans hw, hr.s0, hr.s1, hr.is, hr.len, (openS_mem S _).2 _ hr.mem⟩
    ·have := hok.live_bd (hperm.mem_iff.2 List.mem_cons_self)
     omega
theorem despawn_deed (ha : S.AllRow) (hx : S.ix.Ok) (h0 : 0 ≤ h) (hk : S.deadE h = 0) : Deed S (S.despawnS h) h 0 (-1) := by
 unfold WS.deadE at hk
 split at hk
 ·rename_i hal
  have he := (hx.alive_iff h h0).1 hal
  obtain ⟨id, hl, hE, hid, _⟩ := hx.live_id he
  obtain ⟨hok, hperm⟩ := hx.kill hl
  rw [← hE] at hperm
  have hnd : (h :: (S.ix.kill id).liveL).Nodup := hperm.nodup hx.liveL_nd
  unfold WS.despawnS
  rw [hid]
  refine ⟨fun x hx hn => ?_, ?_, fun hn => absurd rfl hn, ?_, rfl⟩
  ·have hne : x ≠ h := fun e => hn ⟨e, rfl⟩
   exact ⟨(List.mem_cons.1 (hperm.mem_iff.1 hx)).resolve_left hne, updW_ne hne⟩
  ·show ((S.ix.kill id).liveL.length : Int) = _
   rw [hperm.length_eq, List.length_cons]; omega
  ·intro e he
   have he : e ∈ (S.ix.kill id).liveL := he
   have hne : e ≠ h := fun e' => (List.nodup_cons.1 hnd).1 (e' ▸ he)
   obtain ⟨s, r, hw, hr⟩ := ha e (hperm.mem_iff.2 (List.mem_cons_of_mem _ he))
   exact ⟨s, r, (updW_ne hne).trans hw, hr.s0, hr.s1, hr.is, hr.len, hr.mem⟩
 ·cases hk
theorem rowAt_who {e s : Int} {r : List (List WI)} (h : S.rowAt e = some (s, r)) : S.who e = some ⟨s, some r⟩ := by
 unfold WS.rowAt at h
 split at h
 ·rename_i hw; cases h; exact hw
 ·cases h
theorem AllRow.row (ha : S.AllRow) (hx : S.ix.Ok) (h0 : 0 ≤ h) (hal : S.ix.alive h = true) : ∃ s r, S.rowAt h = some (s, r) ∧ RowOk S s r := by
 obtain ⟨s, r, hw, hr⟩ := ha h ((hx.alive_iff h h0).1 hal)
 exact ⟨s, r, by unfold WS.rowAt; rw [hw], hr⟩
theorem AllRow.is (ha : S.AllRow) (hx : S.ix.Ok) {e s : Int} {r : List (List WI)} (hd : ∀ e, (S.who e).isSome = true → e ∈ S.ix.liveL) (h : S.rowAt e = some (s, r)) : sIs s = true := by
 have hw := rowAt_who h
 obtain ⟨s', r', hw', hr⟩ := ha e (hd e (by rw [hw]; rfl))
 rw [hw] at hw'
 cases hw'
 exact hr.is
theorem addE_zero (ha : S.AllRow) (hx : S.ix.Ok) (h0 : 0 ≤ h) (hk : S.addE h p = 0) : fC S.cs p = 0 ∧ ∃ s r, S.rowAt h = some (s, r) ∧ RowOk S s r ∧ hasB s p.1 = false ∧ S.openE (sWith s p.1) = 0 ∧ S.addS h p = S.movedS h (sWith s p.1) (cvOf s r ++ [p]) := by
 unfold WS.addE at hk
 split at hk
 ·rename_i hal
  obtain ⟨s, r, hr, hok⟩ := AllRow.row ha hx h0 hal
  split at hk
  ·exact absurd hk ‹_›
  ·rename_i hf
   have hf : fC S.cs p = 0 := Classical.byContradiction hf
   rw [hr] at hk
   simp only at hk
   cases hb : hasB s p.1 with
   | true => rw [hb] at hk; cases hk
   | false =>
    rw [hb] at hk
    exact ⟨hf, s, r, hr, hok, hb, hk, by unfold WS.addS; rw [hr]⟩
 ·cases hk
theorem add_deed (ha : S.AllRow) (hx : S.ix.Ok) (hs : schemaCheck S.ver S.cs = 0) (h0 : 0 ≤ h) (hk : S.addE h p = 0) : Deed S (S.addS h p) h 0 0 := by
 obtain ⟨hf, s, r, hr, hok, hb, _, hS⟩ := addE_zero ha hx h0 hk
 rw [hS]
 have hbd := sWith_bd (n := p.1) hok.s0 hok.s1
 exact moved_deed ha hbd.1 hbd.2 (sIs_with hok.s0 hok.s1 (fC_id hs hf) hok.is) h _
theorem remove_deed (ha : S.AllRow) (hx : S.ix.Ok) (h0 : 0 ≤ h) (hk : S.removeE h c = 0) : Deed S (S.removeS h c) h 0 0 := by
 unfold WS.removeE at hk
 split at hk
 ·rename_i hal
  obtain ⟨s, r, hr, hok⟩ := AllRow.row ha hx h0 hal
  rw [hr] at hk
  simp only at hk
  cases hb : hasB s c with
  | false => rw [hb] at hk; cases hk
  | true =>
   have hS : S.removeS h c = S.movedS h (sWithout s c) ((cvOf s r).filter fun p => decide (p.1 ≠ c)) := by unfold WS.removeS; rw [hr]
   rw [hS]
   have hbd := sWithout_bd (n := c) hok.s0 hok.s1
   exact moved_deed ha hbd.1 hbd.2 (sIs_without hok.s0 hok.s1 (hasB_id hb) hok.is) h _
 ·cases hk
theorem set_deed (ha : S.AllRow) (hx : S.ix.Ok) (h0 : 0 ≤ h) (hk : S.setE h p = 0) : Deed S (S.setS h p) h 0 0 := by
 unfold WS.setE at hk
 split at hk
 ·rename_i hal
  obtain ⟨s, r, hr, hok⟩ := AllRow.row ha hx h0 hal
  have hS : S.setS h p = { S with who := updW S.who h (some ⟨s, some (rowOfC (putC (cvOf s r) p) s)⟩) } := by unfold WS.setS; rw [hr]
  rw [hS]
  exact Deed.put ha (fun _ hx => hx) hok.s0 hok.s1 hok.is (rowOfC_len _ _) hok.mem h
 ·cases hk
theorem Deed.parts {dn : Int} (h' : Deed S S' h err dn) {x : Int} (hx : x ∈ S.ix.liveL) (hn : ¬ (x = h ∧ err = 0)) : x ∈ S'.ix.liveL ∧ S'.rowAt x = S.rowAt x := by
 obtain ⟨h1, h2⟩ := h'.keep x hx hn
 exact ⟨h1, by unfold WS.rowAt; rw [h2]⟩
theorem sum_count {l : List Int} {f : Int → Int → Bool} : ∀ (sets : List Int), sets.Nodup → (∀ e ∈ l, ∃ s ∈ sets, ∀ t, f t e = decide (t = s)) → (sets.map fun s => l.countP (f s)).sum = l.length := by
 induction l with
 | nil => intro sets _ _; induction sets <;> simp_all
 | cons e l ih =>
  intro sets hn h
  have h1 := ih sets hn fun e he => h e (List.mem_cons_of_mem _ he)
  obtain ⟨s, hs, hf⟩ := h e List.mem_cons_self
  have h2 : ∀ (m : List Int), m.Nodup → (m.map fun t => (e :: l).countP (f t)).sum = (m.map fun t => l.countP (f t)).sum + if s ∈ m then 1 else 0 := by
   intro m
   induction m with
   | nil => intro _; simp
   | cons t m ihm =>
    intro hm
    have hmn := List.nodup_cons.1 hm
    rw [List.map_cons, List.sum_cons, List.map_cons, List.sum_cons, ihm hmn.2, List.countP_cons, hf t]
    by_cases e' : t = s
    ·subst e'
     simp [hmn.1]; omega
    ·have : ¬ s = t := fun x => e' x.symm
     simp [e', this]; omega
  rw [h2 sets hn, h1, if_pos hs, List.length_cons]
theorem AllRow.sum (ha : S.AllRow) (hn : S.sets.Nodup) : (S.sets.map S.cnt).sum = S.ix.liveL.length := by
 refine sum_count S.sets hn fun e he => ?_
 obtain ⟨s, r, hw, hr⟩ := ha e he
 refine ⟨s, hr.mem, fun t => ?_⟩
 rw [hw]
 show decide (s = t) = decide (t = s)
 exact decide_eq_decide.2 ⟨fun e => e.symm, fun e => e.symm⟩
end
end Go.Proofs.YthmpknlgkflhiabGreat
namespace Go.Proofs.YthmpknlgkflhiabGreat
open Go.RowKit
set_option linter.unusedVariables false
def WS.awaitS (S : WS) (e s : Int) : WS := { S with sets := S.openS s, who := updW S.who e (some ⟨s, none⟩) }
section
variable {w w' w1 : World} {d : WD} {L L' : List Int} {N n : Nat}
theorem WRaw.keepAdd (h : WRaw w d n) (hn : n < 1000000) {i : Nat} {t t' : TD} {v : List (List (List WI))} {e : Int} (hi : d.T[i]? = some t) (hv : d.V[i]? = some v) (hpl : d.pl e = none) (h0 : 0 ≤ e) (h1 : e < 18446744073709551616) (hd : TDeed 0 t t' w w1) (e1 : t'.ents = t.ents) (e2 : t'.kept = t.kept + 1) (hV' : Vals t' v) {W : World} (hb : Below w1.heap.size w1 W) :
  W.cell? ⟨d.wb, 8, none⟩ = some (.map (some d.ab)) ∧ ∃ w2, (Instr.mapUpdate 86 (.map (some d.ab)) (.int .u64 e) (.agg #[.int .i64 (i : Int), .int .i64 (-1)])).run Tryz.prog W = .ok () w2 ∧ ∃ d', WRaw w2 d' (n + 1) ∧ WFr d d' w w2 ∧ d'.P = d.P.keep i (PTof t v) e ∧ d'.x = d.x ∧ d'.caps = d.caps ∧ d'.g = d.g ∧ d'.wb = d.wb ∧ d'.gb = d.gb ∧ d'.ab = d.ab := by
 obtain ⟨k1, k2⟩ := h.tdeed hi hd hV'
 have k3 := k1.below hb
 obtain ⟨_, _, c8⟩ := k3.cells
 obtain ⟨w2, hput, hr, hf⟩ := putRun k3 hn e h0 h1 ⟨i, none⟩
 have hne : (WD.pl { d with T := d.T.set i t', V := d.V.set i v } e).isSome = false := by show (d.pl e).isSome = false; rw [hpl]; rfl
 rw [hne] at hr
 refine ⟨c8, w2, hput, _, hr, (k2.trans (WFr.of_below hb)).trans hf, ?_, rfl, rfl, rfl, rfl, rfl, rfl⟩
 show (⟨List.zipWith PTof (d.T.set i t') (d.V.set i v), updP d.pl e _⟩ : PS) = ⟨d.P.tabs.set i _, updP d.pl e _⟩
 rw [zip_set]
 unfold PTof
 rw [hd.set, e1, e2]; rfl
def IsAwait (d : WD) (L : List Int) (e s : Int) (N : Nat) (w : World) (en : Ending) (w' : World) : Prop :=
 ∃ d', WFr d d' w w' ∧ d'.x = d.x ∧ d'.wb = d.wb ∧ en = .returned (.int .i64 (d.S.openE s)) ∧ WMid w' d' (if d.S.openE s = 0 then e :: L else L) N ∧ d'.S = if d.S.openE s = 0 then d.S.awaitS e s else d.S
set_option maxRecDepth 100000 in
set_option maxHeartbeats 4000000 in
theorem wAwait_any (h : WMid w d L N) (hc : Counts d L) (e : Int) (h0 : 0 ≤ e) (h1 : e < 18446744073709551616) (he : e ∉ L) (hL : L.length + 1 ≤ 257) (s : Int) (s0 : 0 ≤ s) (s1 : s ≤ 4294967295) : Calls Tryz.prog 63 #[.pointer (some ⟨d.wb, 0, none⟩), .agg #[.int .u64 e, .int .u32 s]] w (IsAwait d L e s N w) := by
 have hpl := h.ok.noPl he
 have hb0 : Below w.heap.size w (w.alloc (.cells #[.int .u64 e, .int .u32 s] 74)) := by go_grown
 have hk0 := heap_alloc_new w (.cells #[.int .u64 e, .int .u32 s] 74)
 have hroom := wRoom_mid (h.below hb0) hc s s0 s1
 have HROOM := Lib.hid hroom
 have H := Lib.hid h
 have HC := Lib.hid hc
 have HE := Lib.hid he
 have HPL := Lib.hid hpl
 have HB0 := Lib.hid hb0
 have HK0 := Lib.hid hk0
 have HLT : Hid (¬ d.foot w.heap.size) := Lib.hid fun hf => Nat.lt_irrefl _ (h.raw.lt hf)
 clear h hc hpl he hb0 hk0 hroom
 go_enter Tryz.func63, Tryz.ntmps63
 go_wp2_with fail
 refine HROOM.out.mono ?_
 rintro en w4 ⟨d1, hw1, hf1, hsm, hor⟩
 have hk4 := hf1.out.keep HK0.out HLT.out
 have p0 := cell_at hk4 0
 have p1 := cell_at hk4 1
 simp at p0 p1
 have HK4 := Lib.hid hk4
 have hf01 := (WFr.of_below HB0.out).trans hf1
 clear hk4 HROOM
 rcases hor with ⟨ho, rfl, hT, hg, hP⟩ | ⟨ho, i, t, rfl, ht, hts, hfree, hsig, hPs⟩
 ·have HFIN : Hid (IsAwait d L e s N w (.returned (.int .i64 (d.S.openE s))) w4) := Lib.hid ⟨d1, hf01, hsm.x, hsm.wb, rfl, by rw [if_neg ho]; exact hw1, by
   rw [if_neg ho]
   unfold WD.S
   rw [hsm.x, hsm.caps, hg, hP]⟩
  have hkn : (d.S.openE s != 0) = true := by simpa using ho
  clear ho hT hg hP hw1 hf1 hsm hf01 p0 p1
  go_wp2_with fail
  go_returns
  exact HFIN.out
 ·have HO := Lib.hid ho
  have HPS := Lib.hid hPs
  have HSIG := Lib.hid hsig
  have HTS := Lib.hid hts
  have HFREE := Lib.hid hfree
  have HT := Lib.hid ht
  have HSM := Lib.hid hsm
  have HW1 := Lib.hid hw1
  have HF1 := Lib.hid hf01
  have hwb := hsm.wb
  obtain ⟨_, c7, _⟩ := hw1.raw.cells
  rw [hwb] at c7
  have htab := table_any 0 d1.gb d1.g (i : Int) w4 hw1.raw.gr
  rw [show tabPtr d1.g i = some ⟨t.tb, 0, none⟩ from hw1.ptr ht] at htab
  obtain ⟨v, hv, hV, hpt⟩ := hw1.tabv ht
  have hkp := tabKeep_deed (hw1.tab ht) hV hfree
  have hpl1 : d1.pl e = none := by rw [hsm.pl]; exact HPL.out
  have HTAB := Lib.hid htab
  have HKP := Lib.hid hkp
  have HV := Lib.hid hv
  have HPT := Lib.hid hpt
  have HPL1 := Lib.hid hpl1
  have HLT4 : Hid (¬ t.foot w.heap.size) := Lib.hid fun hf => by
   rcases hf01.foot _ (.inr (.inr (.inr (.inr ⟨t, List.mem_of_getElem? ht, hf⟩)))) with hh | hh
   ·exact HLT.out hh
   ·have hb1 := lt_some HK4.out
    rcases hf1.foot _ (.inr (.inr (.inr (.inr ⟨t, List.mem_of_getElem? ht, hf⟩)))) with hh2 | hh2
    ·exact HLT.out hh2
    ·simp at hh2; omega
  clear ho hPs hsig hts hfree ht hsm hw1 hf1 hf01 hwb htab hv hV hpt hkp hpl1 p0 p1
  go_wp2_with fail
  refine HTAB.out.mono ?_
  rintro en w6 ⟨rfl, rfl⟩
  go_wp2_with fail
  refine HKP.out.mono ?_
  rintro en w6 ⟨rfl, t', hd, e1, e2, e3, hV'⟩
  have hk6 := hd.out.keep HK4.out HLT4.out
  have q0 := cell_at hk6 0
  have q1 := cell_at hk6 1
  simp at q0 q1
  obtain ⟨c8, w7, hput, d4, hr4, hf4, hP4, hx4, hc4, hg4, hwb4, hgb4, hab4⟩ := HW1.out.raw.keepAdd (by omega) HT.out HV.out HPL1.out h0 h1 hd e1 e2 hV' ((Below.refl _ w6).drew)
  replace c8 : w6.cell? ⟨d.wb, 8, none⟩ = some (.map (some d1.ab)) := by rw [← HSM.out.wb]; exact c8
  have hPok : d4.P.Ok (e :: L) := by
   rw [hP4]
   exact PS.Ok.keep HW1.out.ok HPT.out HE.out (List.Perm.refl _)
  have hwho : d4.P.who = updW d.P.who e (some ⟨t.set, none⟩) := by
   refine updW_fun fun y => ?_
   rw [hP4]
   have h1 := PS.Ok.keep_who HW1.out.ok HPT.out (e := e) y
   rw [h1]
   have h2 : d1.P.who y = d.P.who y := by
    rcases HPS.out with hh | ⟨_, hh⟩
    ·rw [hh]
    ·rw [hh]; exact H.out.ok.snoc_who s y
   split
   ·rfl
   ·exact h2
  have HFIN : Hid (IsAwait d L e s N w (.returned (.int .i64 0)) w7) := Lib.hid (by
   refine ⟨d4, HF1.out.trans hf4, hx4.trans HSM.out.x, hwb4.trans HSM.out.wb, by rw [show d.S.openE s = 0 from HO.out], ?_, ?_⟩
   ·rw [if_pos HO.out]
    exact HW1.out.fin hr4 hPok hg4 hx4 hc4 (by simpa using hL)
   ·rw [if_pos HO.out]
    show WS.mk d4.caps d4.g.ver d4.g.cs d4.x.ix d4.g.sigs d4.P.who = _
    rw [hc4, hg4, hx4, hwho, HSM.out.caps, HSM.out.ver, HSM.out.cs, HSM.out.x, HSIG.out, HTS.out]
    rfl)
  clear hd e1 e2 e3 hV' hr4 hf4 hP4 hx4 hc4 hg4 hwb4 hPok hwho hk6 hgb4 hab4
  go_wp2_with fail
  go_region
  all_goals
   go_wp2_with fail
   go_returns
   exact HFIN.out
end
end Go.Proofs.YthmpknlgkflhiabGreat
namespace Go.Proofs.YthmpknlgkflhiabGreat
open Go.RowKit
set_option linter.unusedVariables false
def AwaitsAt (B : Nat) (w : World) (a : Option Addr) (len : Nat) (l : List (Int × Int)) : Prop :=
 l.length = len ∧ len ≤ maxLen ∧ (len = 0 ∨ ∃ b off, a = some ⟨b, off, none⟩ ∧ b < B ∧ ∀ (i : Nat) (x : Int × Int), l[i]? = some x →
  w.cell? ⟨b, off + i * 2, none⟩ = some (.int .u64 x.1) ∧ w.cell? ⟨b, off + i * 2 + 1, none⟩ = some (.int .u32 x.2))
theorem AwaitsAt.below {B : Nat} {w w' : World} {a : Option Addr} {len : Nat} {l : List (Int × Int)} (h : AwaitsAt B w a len l) (hb : Below B w w') : AwaitsAt B w' a len l := by
 obtain ⟨h1, h2, h3⟩ := h
 refine ⟨h1, h2, h3.imp id ?_⟩
 rintro ⟨b, off, ha, hB, hc⟩
 exact ⟨b, off, ha, hB, fun i x hx => ⟨(hb.cell (p := ⟨b, _, none⟩) hB).trans (hc i x hx).1, (hb.cell (p := ⟨b, _, none⟩) hB).trans (hc i x hx).2⟩⟩
theorem AwaitsAt.get {B : Nat} {w : World} {a : Option Addr} {len : Nat} {l : List (Int × Int)} (h : AwaitsAt B w a len l) {k : Nat} (hk : k < len) : ∃ b off e s, a = some ⟨b, off, none⟩ ∧ b < B ∧ l[k]? = some (e, s) ∧ w.cell? ⟨b, off + k * 2, none⟩ = some (.int .u64 e) ∧ w.cell? ⟨b, off + k * 2 + 1, none⟩ = some (.int .u32 s) := by
 obtain ⟨h1, _, h3⟩ := h
 rcases h3 with h3 | ⟨b, off, ha, hB, hc⟩
 ·omega
 ·have hl : k < l.length := by omega
  obtain ⟨c0, c1⟩ := hc k _ (List.getElem?_eq_getElem hl)
  exact ⟨b, off, _, _, ha, hB, List.getElem?_eq_getElem hl, c0, c1⟩
def ERow (w : World) (a : Option Addr) (n : Nat) (l : List Int) : Prop := l.length = n ∧ n ≤ 100000 ∧ (n = 0 ∨ ∃ b off, a = some ⟨b, off, none⟩ ∧ b < w.heap.size ∧ ∀ (i : Nat) (x : Int), l[i]? = some x → w.cell? ⟨b, off + i, none⟩ = some (.int .u64 x))
theorem ERow.get {w : World} {a : Option Addr} {n : Nat} {l : List Int} (h : ERow w a n l) {k : Nat} (hk : k < n) : ∃ b off x, a = some ⟨b, off, none⟩ ∧ b < w.heap.size ∧ l[k]? = some x ∧ w.cell? ⟨b, off + k, none⟩ = some (.int .u64 x) := by
 obtain ⟨h1, _, h3⟩ := h
 rcases h3 with h3 | ⟨b, off, ha, hB, hc⟩
 ·omega
 ·have hl : k < l.length := by omega
  exact ⟨b, off, _, ha, hB, List.getElem?_eq_getElem hl, hc k _ (List.getElem?_eq_getElem hl)⟩
theorem ERow.below {w w' : World} {a : Option Addr} {n : Nat} {l : List Int} (h : ERow w a n l) (hb : Below w.heap.size w w') : ERow w' a n l := by
 obtain ⟨h1, h2, h3⟩ := h
 refine ⟨h1, h2, h3.imp id ?_⟩
 rintro ⟨b, off, ha, hB, hc⟩
 exact ⟨b, off, ha, Nat.lt_of_lt_of_le hB hb.size, fun i x hx => (hb.cell (p := ⟨b, _, none⟩) hB).trans (hc i x hx)⟩
theorem ERow.of {w : World} {B n : Nat} {va : Option Addr} {vc : Nat} {l : List Int} (h : w.ownsRow B 38 1 (.slice va n vc) n (l.map (.int .u64))) (hl : l.length = n) (hn : n ≤ 100000) : ERow w va n l := by
 refine ⟨hl, hn, ?_⟩
 by_cases h0 : n = 0
 ·exact .inl h0
 ·obtain ⟨q, hq, _, hlt, hc⟩ := row_block h (by omega)
  refine .inr ⟨q, 0, hq, hlt, fun i x hx => ?_⟩
  rw [Nat.zero_add]
  exact hc i _ (by rw [List.getElem?_map, hx]; rfl)
section
variable {w w' : World}
set_option maxRecDepth 100000 in
theorem insSort_one (va : Option Addr) (n vc : Nat) (hn : n ≤ 1) (fv : Value) (w : World) : Calls Tryz.prog 160 #[.slice va n vc, .int .i64 0, .int .i64 (n : Int), fv] w fun e w' => e = .returned (.tuple #[]) ∧ w = w' := by
 have h1 : ¬ (1 : Int) < (n : Int) := by omega
 have h2 : decide ((1 : Int) < (n : Int)) = false := decide_eq_false h1
 go_enter Tryz.func160, Tryz.ntmps160
 go_wp2_with fail
 go_loopw [8] (fun i wr => i = .int .i64 1 ∧ w = wr) (fun _ _ => 0)
 case atStart => exact ⟨rfl, rfl⟩
 case round =>
  obtain ⟨rfl, rfl⟩ := hrel
  go_wp2_with fail
  go_returns
  exact ⟨rfl, rfl⟩
set_option maxRecDepth 100000 in
theorem pdq_one (va : Option Addr) (n vc : Nat) (hn : n ≤ 1) (lim : Int) (fv : Value) (w : World) : Calls Tryz.prog 135 #[.slice va n vc, .int .i64 0, .int .i64 (n : Int), .int .i64 lim, fv] w fun e w' => e = .returned (.tuple #[]) ∧ w = w' := by
 have hins := fun W => insSort_one va n vc hn fv W
 have HI := Lib.hid hins
 clear hins
 go_enter Tryz.func135, Tryz.ntmps135
 go_wp2_with fail
 go_loopw [1, 2, 3, 10, 11] (fun a b l x y wr => a = .int .i64 0 ∧ b = .int .i64 (n : Int) ∧ l = .int .i64 lim ∧ x = .bool true ∧ y = .bool true ∧ w = wr) (fun _ _ _ _ _ _ => 0)
 case atStart => exact ⟨rfl, rfl, rfl, rfl, rfl, rfl⟩
 case round =>
  obtain ⟨rfl, rfl, rfl, rfl, rfl, rfl⟩ := hrel
  go_wp2_with fail
  refine (HI.out _).mono ?_
  rintro e w1 ⟨rfl, rfl⟩
  go_wp2_with fail
  go_returns
  exact ⟨rfl, rfl⟩
set_option maxRecDepth 100000 in
theorem len64_small (x : Int) (h0 : 0 ≤ x) (h1 : x ≤ 1) (w : World) : Calls Tryz.prog 169 #[.int .u64 x] w fun e w' => e = .returned (.int .i64 x) ∧ w = w' := by
 rcases (show x = 0 ∨ x = 1 by omega) with rfl | rfl
 ·go_enter Tryz.func169, Tryz.ntmps169
  go_wp2_with fail
  go_returns
  exact ⟨by kernel_rfl, rfl⟩
 ·go_enter Tryz.func169, Tryz.ntmps169
  go_wp2_with fail
  go_returns
  exact ⟨by kernel_rfl, rfl⟩
theorem bitsLen_small (x : Int) (h0 : 0 ≤ x) (h1 : x ≤ 1) (w : World) : Calls Tryz.prog 136 #[.int .u64 x] w fun e w' => e = .returned (.int .i64 x) ∧ w = w' := by
 have HL := Lib.hid (len64_small x h0 h1)
 go_enter Tryz.func136, Tryz.ntmps136
 go_wp2_with fail
 refine (HL.out _).mono ?_
 rintro e w1 ⟨rfl, rfl⟩
 go_wp2_with fail
 go_returns
 exact ⟨rfl, rfl⟩
theorem sort_one (va : Option Addr) (n vc : Nat) (hn : n ≤ 1) (fv : Value) (w : World) : Calls Tryz.prog 98 #[.slice va n vc, fv] w fun e w' => e = .returned (.tuple #[]) ∧ w = w' := by
 have HL := Lib.hid (fun W => bitsLen_small (n : Int) (by omega) (by omega) W)
 have HP := Lib.hid (fun lim W => pdq_one va n vc hn lim fv W)
 go_enter Tryz.func98, Tryz.ntmps98
 go_wp2_with fail
 refine (HL.out _).mono ?_
 rintro e w1 ⟨rfl, rfl⟩
 go_wp2_with fail
 refine (HP.out _ _).mono ?_
 rintro e w1 ⟨rfl, rfl⟩
 go_wp2_with fail
 go_returns
 exact ⟨rfl, rfl⟩
end
end Go.Proofs.YthmpknlgkflhiabGreat
