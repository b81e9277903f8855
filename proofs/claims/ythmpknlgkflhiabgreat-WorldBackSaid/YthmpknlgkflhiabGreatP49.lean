/- The worlds' laws: a world in work, and its deeds; New, whoever the caps. · world.CheckCaps and world.New, whoever the caps. Printed by mkL7.py. -/
import Derived.Test.YthmpknlgkflhiabGreatP48
namespace Go.Proofs.YthmpknlgkflhiabGreat
open Go.RowKit
set_option linter.unusedVariables false
/-- A world that a law has made: all who live have rows. -/
structure LW (w0 : World) (d : WD) (N : Nat) (w : World) : Prop where
  inn : WIn w d N
  fr : Fresh w0 d w
  all : d.S.AllRow
/-- What a deed leaves. -/
def LDeed (w0 : World) (d : WD) (M : Nat) (h err dn : Int) (w w' : World) : Prop := ∃ d', LW w0 d' M w' ∧ WFr d d' w w' ∧ Deed d.S d'.S h err dn
section
variable {w0 w w' : World} {d d' : WD} {N M n : Nat} {pa : Option Addr} {pl pc : Nat} {ps : List PW} {va : Option Addr} {vl vc : Nat} {v : List WI}
theorem LW.below (h : LW w0 d N w) (hb : Below w.heap.size w w') : LW w0 d N w' := ⟨h.inn.below hb, h.fr.below hb, h.all⟩
theorem LW.mono (h : LW w0 d N w) (hN : N ≤ M) : LW w0 d M w := ⟨WMid.mono h.inn hN, h.fr, h.all⟩
theorem LW.bel (h : LW w0 d N w) : Below w0.heap.size w0 w := h.fr.bel
theorem LW.ok (h : LW w0 d N w) : d.S.ix.Ok := h.inn.raw.ix.ok
theorem LW.sch (h : LW w0 d N w) : schemaCheck d.S.ver d.S.cs = 0 := WMid.sch h.inn
theorem LW.dom (h : LW w0 d N w) : ∀ e, (d.S.who e).isSome = true → e ∈ d.S.ix.liveL := fun e he => (h.inn.ok.whoIn e).1 he
theorem LW.is (h : LW w0 d N w) (e : Int) : ∀ s r, d.S.rowAt e = some (s, r) → sIs s = true := fun s r hr => AllRow.is h.all h.ok h.dom hr
theorem Fresh.parts (h : Fresh w0 d w) (hp : PartsAt w0.heap.size w0 pa pl pc ps) (hl : pl ≤ 100000) : PartsIn d w pa pl pc ps :=
  ⟨fun w' ho => by
    have hb := h.bel.trans (ho.below h.foot h.bel.size)
    exact (hp.below hb).mono hb.size, hl⟩
theorem Fresh.ints (h : Fresh w0 d w) (hp : IntsAt w0.heap.size w0 va vl vc v) : IntIn d w va vl vc v := fun w' ho => by
  have hb := h.bel.trans (ho.below h.foot h.bel.size)
  exact (hp.below hb).mono hb.size
/-- What is of no kind of a world's stays. -/
def Kp (w w' : World) : Prop := ∀ (b : Nat) (cs : Array Value) (ty : TypeId) (fr : Nat × Nat), w.heap[b]? = some (.cells cs ty fr) → ty ∉ wK ++ xK ++ gK ++ tK → w'.heap[b]? = some (.cells cs ty fr)
theorem Kp.refl (w : World) : Kp w w := fun _ _ _ _ h _ => h
theorem Kp.of_below (hb : Below w.heap.size w w') : Kp w w' := fun _ _ _ _ h _ => keep hb h
theorem Kp.trans {a b c : World} (h : Kp a b) (k : Kp b c) : Kp a c := fun x cs ty fr hx ht => k x cs ty fr (h x cs ty fr hx ht) ht
theorem LW.kp (h : LW w0 d N w) (hf : WFr d d' w w') : Kp w w' := fun b cs ty fr hb ht => hf.keep hb (h.inn.raw.not_foot hb ht)
theorem ownsRow_kp {B s : Nat} {e : TypeId} {x : Value} {xs : List Value} (h : w.ownsRow B e s x n xs) (hk : Kp w w') (he : e ∉ wK ++ xK ++ gK ++ tK) : w'.ownsRow B e s x n xs := by
  obtain ⟨h1, h2⟩ := h
  refine ⟨h1, h2.imp id ?_⟩
  rintro ⟨g, cap, cur, hv, hg, hh, r⟩
  exact ⟨g, cap, cur, hv, hg, hk g _ _ _ hh he, r⟩
theorem PO.kp {B c : Nat} {a : Option Addr} (h : PO B w a n c ps) (hk : Kp w w') : PO B w' a n c ps :=
  ⟨ownsRow_kp h.row hk (partK _ (.inl rfl)), fun p hp => ⟨ownsRow_kp (h.vals p hp).1 hk (partK _ (.inr rfl)), (h.vals p hp).2⟩, h.len⟩
theorem LW.same (h : LW w0 d N w) (hb : Below w.heap.size w w') (hN : N ≤ M) (x err : Int) : LDeed w0 d M x err 0 w w' := ⟨d, (h.below hb).mono hN, WFr.of_below hb, Deed.same h.all x err⟩
theorem LW.deed (h : LW w0 d N w) (k : WIn w' d' M) (hf : WFr d d' w w') {S' : WS} (hS : d'.S = S') {x err dn : Int} (hd : Deed d.S S' x err dn) : LDeed w0 d M x err dn w w' := ⟨d', ⟨k, h.fr.go hf, by rw [hS]; exact hd.all⟩, hf, by rw [hS]; exact hd⟩
theorem l_spawn (h : LW w0 d N w) (hp : PartsIn d w pa pl pc ps) (x : Int) : Calls Tryz.prog 12 #[.pointer (some ⟨d.wb, 0, none⟩), .slice pa pl pc] w fun en w' => ∃ n err : Int, en = .returned (.tuple #[.int .u64 n, .int .i64 err]) ∧ ((err ≠ 0 ∧ n = 0 ∧ LDeed w0 d N x err 0 w w') ∨ (err = 0 ∧ 0 < n ∧ LDeed w0 d N x 0 1 w w')) := by
  refine (wSpawn_any h.inn hp).mono ?_
  rintro en w' ⟨d', k1, k2, _, hor⟩
  rcases hor with ⟨k4, rfl, k5⟩ | ⟨k4, rfl, k5⟩
  · exact ⟨_, _, rfl, .inl ⟨k4, rfl, h.deed k1 k2 k5 (Deed.same h.all x _)⟩⟩
  · obtain ⟨hd, hn⟩ := spawn_deed h.all h.ok h.sch k4 x
    exact ⟨_, _, rfl, .inr ⟨rfl, hn, h.deed k1 k2 k5 hd⟩⟩
theorem l_deed (h : LW w0 d N w) {en : Ending} {err x dn : Int} {S' : WS} (hd : err = 0 → Deed d.S S' x 0 dn) (hi : IsDeed d err S' M w en w') : en = .returned (.int .i64 err) ∧ LDeed w0 d M x err (if err = 0 then dn else 0) w w' := by
  obtain ⟨d', k1, k2, _, rfl, k5⟩ := hi
  by_cases he : err = 0
  · subst he
    rw [if_pos rfl] at k5 ⊢
    exact ⟨rfl, h.deed k1 k2 k5 (hd rfl)⟩
  · rw [if_neg he] at k5 ⊢
    exact ⟨rfl, h.deed k1 k2 k5 (Deed.same h.all x err)⟩
theorem l_despawn (h : LW w0 d N w) (e : Int) (h0 : 0 ≤ e) (h1 : e < 18446744073709551616) : Calls Tryz.prog 13 #[.pointer (some ⟨d.wb, 0, none⟩), .int .u64 e] w fun en w' => ∃ err : Int, en = .returned (.int .i64 err) ∧ LDeed w0 d N e err (if err = 0 then -1 else 0) w w' :=
  (wDespawn_any h.inn e h0 h1).mono fun en w' hi => ⟨_, l_deed h (fun he => despawn_deed h.all h.ok h0 he) hi⟩
theorem l_remove (h : LW w0 d N w) (hN : N ≤ 999990) (e : Int) (h0 : 0 ≤ e) (h1 : e < 18446744073709551616) (c : Int) : Calls Tryz.prog 15 #[.pointer (some ⟨d.wb, 0, none⟩), .int .u64 e, .int .i64 c] w fun en w' => ∃ err : Int, en = .returned (.int .i64 err) ∧ LDeed w0 d (N + 2) e err 0 w w' :=
  (wRemove_any h.inn hN e h0 h1 c (h.is e)).mono fun en w' hi => ⟨_, by
    have := l_deed (dn := 0) h (fun he => remove_deed h.all h.ok h0 he) hi
    simpa using this⟩
theorem LW.rowAt (h : LW w0 d N w) {e : Int} (he : e ∈ d.S.ix.liveL) : ∃ s r, d.S.rowAt e = some (s, r) ∧ d.S.partsV e = cvOf s r := by
  obtain ⟨s, r, hw, hr⟩ := h.all e he
  have hra : d.S.rowAt e = some (s, r) := by unfold WS.rowAt; rw [hw]
  exact ⟨s, r, hra, by unfold WS.partsV; rw [hra]⟩
theorem l_parts (h : LW w0 d N w) {e : Int} (he : e ∈ d.S.ix.liveL) : Calls Tryz.prog 10 #[.pointer (some ⟨d.wb, 0, none⟩), .int .u64 e] w (IsParts (d.S.partsV e) w) := by
  obtain ⟨s, r, hr, hp⟩ := h.rowAt he
  rw [hp]
  exact wParts_ok h.inn e he hr
theorem LW.bounds (h : LW w0 d N w) : (d.S.sets.length : Int) ≤ d.S.caps.archs ∧ (d.S.ix.liveL.length : Int) ≤ d.S.caps.ents ∧ ∀ s ∈ d.S.sets, (d.S.cnt s : Int) ≤ d.S.caps.rows := by
  have hg : (d.g.ts.length : Int) ≤ d.g.archs := by obtain ⟨_, _, _, _, _, hh⟩ := h.inn.raw.gr; exact hh.wf.2.2.2.2.1
  refine ⟨?_, ?_, fun s hs => ?_⟩
  · show (d.g.sigs.length : Int) ≤ d.caps.archs
    rw [sigs_len, ← WMid.archs h.inn]; exact hg
  · have h1 := h.ok.liveL_len
    have h2 := WMid.ents h.inn
    show (d.x.ix.liveL.length : Int) ≤ d.caps.ents
    have h1 : d.x.ix.liveL.length + 1 ≤ d.x.ix.gens.length := h1
    omega
  · have hs : s ∈ d.g.sigs := hs
    obtain ⟨i, hi⟩ := List.getElem?_of_mem hs
    obtain ⟨t, ht, hts⟩ := WMid.of_pos h.inn (h.inn.inv.nd i s hi)
    subst hts
    rw [h.inn.cnt ht]
    have h2 := (WMid.like h.inn ht).1
    have h3 := (WMid.tab h.inn ht).room
    show ((t.ents.length + t.kept : Nat) : Int) ≤ d.caps.rows
    omega
theorem LW.setsNd (h : LW w0 d N w) : d.S.sets.Nodup := by
  have := h.inn.ok.sets
  rw [WMid.sets_eq h.inn] at this
  exact this
end
end Go.Proofs.YthmpknlgkflhiabGreat
namespace Go.Proofs.YthmpknlgkflhiabGreat
open Go.RowKit
set_option linter.unusedVariables false
section
variable {w w' : World}
set_option maxRecDepth 100000 in
set_option maxHeartbeats 1000000 in
theorem checkCaps_bad1 (a1 a2 a3 a4 a5 a6 : Int)  (h1 : ¬ (1 ≤ a1 ∧ a1 ≤ 256)) (w : World) : Calls Tryz.prog 27 #[.agg #[.int .i64 a1, .int .i64 a2, .int .i64 a3, .int .i64 a4, .int .i64 a5, .int .i64 a6]] w fun e w' => e = .returned (.int .i64 1) ∧ Below w.heap.size w w' := by
  have k1 := fun (W : World) => isWithin_any a1 1 256 W
  rw [decide_eq_false h1] at k1
  have K1 := Lib.hid k1
  clear k1 h1
  go_enter Tryz.func27, Tryz.ntmps27
  go_wp2_with fail
  refine (K1.out _).mono ?_
  rintro e w1 ⟨rfl, rfl⟩
  go_wp2_with fail
  go_ret
  exact ⟨rfl, by go_grown⟩
set_option maxRecDepth 100000 in
set_option maxHeartbeats 1000000 in
theorem checkCaps_bad2 (a1 a2 a3 a4 a5 a6 : Int) (h1 : 1 ≤ a1 ∧ a1 ≤ 256) (h2 : ¬ (1 ≤ a2 ∧ a2 ≤ 256)) (w : World) : Calls Tryz.prog 27 #[.agg #[.int .i64 a1, .int .i64 a2, .int .i64 a3, .int .i64 a4, .int .i64 a5, .int .i64 a6]] w fun e w' => e = .returned (.int .i64 1) ∧ Below w.heap.size w w' := by
  have k1 := fun (W : World) => isWithin_any a1 1 256 W
  rw [decide_eq_true h1] at k1
  have K1 := Lib.hid k1
  have k2 := fun (W : World) => isWithin_any a2 1 256 W
  rw [decide_eq_false h2] at k2
  have K2 := Lib.hid k2
  clear k1 h1 k2 h2
  go_enter Tryz.func27, Tryz.ntmps27
  go_wp2_with fail
  refine (K1.out _).mono ?_
  rintro e w1 ⟨rfl, rfl⟩
  go_wp2_with fail
  refine (K2.out _).mono ?_
  rintro e w1 ⟨rfl, rfl⟩
  go_wp2_with fail
  go_ret
  exact ⟨rfl, by go_grown⟩
set_option maxRecDepth 100000 in
set_option maxHeartbeats 1000000 in
theorem checkCaps_bad3 (a1 a2 a3 a4 a5 a6 : Int) (h1 : 1 ≤ a1 ∧ a1 ≤ 256) (h2 : 1 ≤ a2 ∧ a2 ≤ 256) (h3 : ¬ (1 ≤ a3 ∧ a3 ≤ 64)) (w : World) : Calls Tryz.prog 27 #[.agg #[.int .i64 a1, .int .i64 a2, .int .i64 a3, .int .i64 a4, .int .i64 a5, .int .i64 a6]] w fun e w' => e = .returned (.int .i64 1) ∧ Below w.heap.size w w' := by
  have k1 := fun (W : World) => isWithin_any a1 1 256 W
  rw [decide_eq_true h1] at k1
  have K1 := Lib.hid k1
  have k2 := fun (W : World) => isWithin_any a2 1 256 W
  rw [decide_eq_true h2] at k2
  have K2 := Lib.hid k2
  have k3 := fun (W : World) => isWithin_any a3 1 64 W
  rw [decide_eq_false h3] at k3
  have K3 := Lib.hid k3
  clear k1 h1 k2 h2 k3 h3
  go_enter Tryz.func27, Tryz.ntmps27
  go_wp2_with fail
  refine (K1.out _).mono ?_
  rintro e w1 ⟨rfl, rfl⟩
  go_wp2_with fail
  refine (K2.out _).mono ?_
  rintro e w1 ⟨rfl, rfl⟩
  go_wp2_with fail
  refine (K3.out _).mono ?_
  rintro e w1 ⟨rfl, rfl⟩
  go_wp2_with fail
  go_ret
  exact ⟨rfl, by go_grown⟩
set_option maxRecDepth 100000 in
set_option maxHeartbeats 1000000 in
theorem checkCaps_bad4 (a1 a2 a3 a4 a5 a6 : Int) (h1 : 1 ≤ a1 ∧ a1 ≤ 256) (h2 : 1 ≤ a2 ∧ a2 ≤ 256) (h3 : 1 ≤ a3 ∧ a3 ≤ 64) (h4 : ¬ (0 ≤ a4 ∧ a4 ≤ 64)) (w : World) : Calls Tryz.prog 27 #[.agg #[.int .i64 a1, .int .i64 a2, .int .i64 a3, .int .i64 a4, .int .i64 a5, .int .i64 a6]] w fun e w' => e = .returned (.int .i64 1) ∧ Below w.heap.size w w' := by
  have k1 := fun (W : World) => isWithin_any a1 1 256 W
  rw [decide_eq_true h1] at k1
  have K1 := Lib.hid k1
  have k2 := fun (W : World) => isWithin_any a2 1 256 W
  rw [decide_eq_true h2] at k2
  have K2 := Lib.hid k2
  have k3 := fun (W : World) => isWithin_any a3 1 64 W
  rw [decide_eq_true h3] at k3
  have K3 := Lib.hid k3
  have k4 := fun (W : World) => isWithin_any a4 0 64 W
  rw [decide_eq_false h4] at k4
  have K4 := Lib.hid k4
  clear k1 h1 k2 h2 k3 h3 k4 h4
  go_enter Tryz.func27, Tryz.ntmps27
  go_wp2_with fail
  refine (K1.out _).mono ?_
  rintro e w1 ⟨rfl, rfl⟩
  go_wp2_with fail
  refine (K2.out _).mono ?_
  rintro e w1 ⟨rfl, rfl⟩
  go_wp2_with fail
  refine (K3.out _).mono ?_
  rintro e w1 ⟨rfl, rfl⟩
  go_wp2_with fail
  refine (K4.out _).mono ?_
  rintro e w1 ⟨rfl, rfl⟩
  go_wp2_with fail
  go_ret
  exact ⟨rfl, by go_grown⟩
set_option maxRecDepth 100000 in
set_option maxHeartbeats 1000000 in
theorem checkCaps_bad5 (a1 a2 a3 a4 a5 a6 : Int) (h1 : 1 ≤ a1 ∧ a1 ≤ 256) (h2 : 1 ≤ a2 ∧ a2 ≤ 256) (h3 : 1 ≤ a3 ∧ a3 ≤ 64) (h4 : 0 ≤ a4 ∧ a4 ≤ 64) (h5 : ¬ (0 ≤ a5 ∧ a5 ≤ 4096)) (w : World) : Calls Tryz.prog 27 #[.agg #[.int .i64 a1, .int .i64 a2, .int .i64 a3, .int .i64 a4, .int .i64 a5, .int .i64 a6]] w fun e w' => e = .returned (.int .i64 1) ∧ Below w.heap.size w w' := by
  have k1 := fun (W : World) => isWithin_any a1 1 256 W
  rw [decide_eq_true h1] at k1
  have K1 := Lib.hid k1
  have k2 := fun (W : World) => isWithin_any a2 1 256 W
  rw [decide_eq_true h2] at k2
  have K2 := Lib.hid k2
  have k3 := fun (W : World) => isWithin_any a3 1 64 W
  rw [decide_eq_true h3] at k3
  have K3 := Lib.hid k3
  have k4 := fun (W : World) => isWithin_any a4 0 64 W
  rw [decide_eq_true h4] at k4
  have K4 := Lib.hid k4
  have k5 := fun (W : World) => isWithin_any a5 0 4096 W
  rw [decide_eq_false h5] at k5
  have K5 := Lib.hid k5
  clear k1 h1 k2 h2 k3 h3 k4 h4 k5 h5
  go_enter Tryz.func27, Tryz.ntmps27
  go_wp2_with fail
  refine (K1.out _).mono ?_
  rintro e w1 ⟨rfl, rfl⟩
  go_wp2_with fail
  refine (K2.out _).mono ?_
  rintro e w1 ⟨rfl, rfl⟩
  go_wp2_with fail
  refine (K3.out _).mono ?_
  rintro e w1 ⟨rfl, rfl⟩
  go_wp2_with fail
  refine (K4.out _).mono ?_
  rintro e w1 ⟨rfl, rfl⟩
  go_wp2_with fail
  refine (K5.out _).mono ?_
  rintro e w1 ⟨rfl, rfl⟩
  go_wp2_with fail
  go_ret
  exact ⟨rfl, by go_grown⟩
set_option maxRecDepth 100000 in
set_option maxHeartbeats 1000000 in
theorem checkCaps_bad6 (a1 a2 a3 a4 a5 a6 : Int) (h1 : 1 ≤ a1 ∧ a1 ≤ 256) (h2 : 1 ≤ a2 ∧ a2 ≤ 256) (h3 : 1 ≤ a3 ∧ a3 ≤ 64) (h4 : 0 ≤ a4 ∧ a4 ≤ 64) (h5 : 0 ≤ a5 ∧ a5 ≤ 4096) (h6 : ¬ (1 ≤ a6 ∧ a6 ≤ 65535)) (w : World) : Calls Tryz.prog 27 #[.agg #[.int .i64 a1, .int .i64 a2, .int .i64 a3, .int .i64 a4, .int .i64 a5, .int .i64 a6]] w fun e w' => e = .returned (.int .i64 1) ∧ Below w.heap.size w w' := by
  have k1 := fun (W : World) => isWithin_any a1 1 256 W
  rw [decide_eq_true h1] at k1
  have K1 := Lib.hid k1
  have k2 := fun (W : World) => isWithin_any a2 1 256 W
  rw [decide_eq_true h2] at k2
  have K2 := Lib.hid k2
  have k3 := fun (W : World) => isWithin_any a3 1 64 W
  rw [decide_eq_true h3] at k3
  have K3 := Lib.hid k3
  have k4 := fun (W : World) => isWithin_any a4 0 64 W
  rw [decide_eq_true h4] at k4
  have K4 := Lib.hid k4
  have k5 := fun (W : World) => isWithin_any a5 0 4096 W
  rw [decide_eq_true h5] at k5
  have K5 := Lib.hid k5
  have k6 := fun (W : World) => isWithin_any a6 1 65535 W
  rw [decide_eq_false h6] at k6
  have K6 := Lib.hid k6
  clear k1 h1 k2 h2 k3 h3 k4 h4 k5 h5 k6 h6
  go_enter Tryz.func27, Tryz.ntmps27
  go_wp2_with fail
  refine (K1.out _).mono ?_
  rintro e w1 ⟨rfl, rfl⟩
  go_wp2_with fail
  refine (K2.out _).mono ?_
  rintro e w1 ⟨rfl, rfl⟩
  go_wp2_with fail
  refine (K3.out _).mono ?_
  rintro e w1 ⟨rfl, rfl⟩
  go_wp2_with fail
  refine (K4.out _).mono ?_
  rintro e w1 ⟨rfl, rfl⟩
  go_wp2_with fail
  refine (K5.out _).mono ?_
  rintro e w1 ⟨rfl, rfl⟩
  go_wp2_with fail
  refine (K6.out _).mono ?_
  rintro e w1 ⟨rfl, rfl⟩
  go_wp2_with fail
  go_ret
  exact ⟨rfl, by go_grown⟩
theorem checkCaps_bad (c : CapsD) (h : ¬ CapsOk c) (w : World) : Calls Tryz.prog 27 #[.agg #[.int .i64 c.ents, .int .i64 c.rows, .int .i64 c.archs, .int .i64 c.cmds, .int .i64 c.fuel, .int .i64 c.gens]] w fun e w' => e = .returned (.int .i64 1) ∧ Below w.heap.size w w' := by
  by_cases h1 : 1 ≤ c.ents ∧ c.ents ≤ 256
  · by_cases h2 : 1 ≤ c.rows ∧ c.rows ≤ 256
    · by_cases h3 : 1 ≤ c.archs ∧ c.archs ≤ 64
      · by_cases h4 : 0 ≤ c.cmds ∧ c.cmds ≤ 64
        · by_cases h5 : 0 ≤ c.fuel ∧ c.fuel ≤ 4096
          · by_cases h6 : 1 ≤ c.gens ∧ c.gens ≤ 65535
            · exact absurd ⟨h1, h2, h3, h4, h5, h6⟩ h
            · exact checkCaps_bad6 _ _ _ _ _ _ h1 h2 h3 h4 h5 h6 w
          · exact checkCaps_bad5 _ _ _ _ _ _ h1 h2 h3 h4 h5 w
        · exact checkCaps_bad4 _ _ _ _ _ _ h1 h2 h3 h4 w
      · exact checkCaps_bad3 _ _ _ _ _ _ h1 h2 h3 w
    · exact checkCaps_bad2 _ _ _ _ _ _ h1 h2 w
  · exact checkCaps_bad1 _ _ _ _ _ _ h1 w
set_option maxRecDepth 100000 in
set_option maxHeartbeats 2000000 in
theorem wNew_nil (c : CapsD) (ver : Int) (cs : List Cmp) (a : Option Addr) (len cap : Nat) (w : World) (hcs : CompsAt w.heap.size w a len cs) (hw : CompsWf cs) (hn : ¬ (schemaCheck ver cs = 0 ∧ CapsOk c)) :
    Calls Tryz.prog 8 #[.agg #[.int .i64 ver, .slice a len cap], .agg #[.int .i64 c.ents, .int .i64 c.rows, .int .i64 c.archs, .int .i64 c.cmds, .int .i64 c.fuel, .int .i64 c.gens]] w fun e w' => e = .returned (.pointer none) ∧ Below w.heap.size w w' := by
  have hb0 : Below w.heap.size w ((w.alloc (.cells #[.int .i64 ver, .slice a len cap] 24)).alloc (.cells #[.int .i64 c.ents, .int .i64 c.rows, .int .i64 c.archs, .int .i64 c.cmds, .int .i64 c.fuel, .int .i64 c.gens] 26)) := by go_grown
  have HB0 := Lib.hid hb0
  have HC0 := Lib.hid (heap_alloc_new (w.alloc (.cells #[.int .i64 ver, .slice a len cap] 24)) (.cells #[.int .i64 c.ents, .int .i64 c.rows, .int .i64 c.archs, .int .i64 c.cmds, .int .i64 c.fuel, .int .i64 c.gens] 26))
  have hsc := fun (W : World) (hb : Below w.heap.size w W) => schemaCheck_any ver cs a len cap W ((hcs.below hb).mono hb.size) hw
  by_cases hs : schemaCheck ver cs = 0
  · have hcap := checkCaps_bad c (fun hc => hn ⟨hs, hc⟩)
    have HCB := Lib.hid hcap
    rw [hs] at hsc
    have HSC := Lib.hid hsc
    clear hb0 hsc hcap hn hs hcs hw
    obtain ⟨a1, a2, a3, a4, a5, a6⟩ := c
    dsimp only at *
    go_enter Tryz.func8, Tryz.ntmps8
    go_wp2_with fail
    refine (HSC.out _ HB0.out).mono ?_
    rintro e w1 ⟨rfl, hb1⟩
    have hc1 := keep hb1 HC0.out
    have HB1 := Lib.hid (HB0.out.trans (hb1.mono HB0.out.size))
    have x0 := cell_at hc1 0
    have x1 := cell_at hc1 1
    have x2 := cell_at hc1 2
    have x3 := cell_at hc1 3
    have x4 := cell_at hc1 4
    have x5 := cell_at hc1 5
    simp at x0 x1 x2 x3 x4 x5
    clear hb1 hc1
    go_wp2_with fail
    refine (HCB.out _).mono ?_
    rintro e w2 ⟨rfl, hb2⟩
    have HB2 := Lib.hid (HB1.out.trans (hb2.mono HB1.out.size))
    clear hb2 x0 x1 x2 x3 x4 x5
    go_wp2_with fail
    go_ret
    exact ⟨rfl, HB2.out⟩
  · obtain ⟨k, hk⟩ : ∃ k, schemaCheck ver cs = k := ⟨_, rfl⟩
    rw [hk] at hsc hs
    have hkn : (k != 0) = true := by simpa using hs
    have HSC := Lib.hid hsc
    clear hb0 hsc hn hs hcs hw hk
    obtain ⟨a1, a2, a3, a4, a5, a6⟩ := c
    dsimp only at *
    go_enter Tryz.func8, Tryz.ntmps8
    go_wp2_with fail
    refine (HSC.out _ HB0.out).mono ?_
    rintro e w1 ⟨rfl, hb1⟩
    have HB1 := Lib.hid (HB0.out.trans (hb1.mono HB0.out.size))
    clear hb1
    go_wp2_with fail
    go_ret
    exact ⟨rfl, HB1.out⟩
end
end Go.Proofs.YthmpknlgkflhiabGreat
