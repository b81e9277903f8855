/- Worlds: what is not theirs stays; a set, told; caps that can't be. What awake keeps. · The worlds' laws: whether parts are the same. · The worlds' laws: a world in work, and its deeds; New, whoever the caps. -/
import Derived.Test.YthmpknlgkflhiabGreatQ44
import Derived.Test.YthmpknlgkflhiabGreatQ18
import Derived.Test.YthmpknlgkflhiabGreatQ42
import Derived.Deep.QuietTactic
import Derived.BigQuiet
namespace Go.Proofs.YthmpknlgkflhiabGreat
open Go.RowKit
set_option linter.unusedVariables false
section
variable {w w' : World} {d d' : WD} {N n : Nat}
theorem WRaw.not_foot (h : WRaw w d n) {b : Nat} {cs : Array Value} {ty : TypeId} {fr : Nat × Nat} (hb : w.heap[b]? = some (.cells cs ty fr)) (ht : ty ∉ wK ++ xK ++ gK ++ tK) : ¬ d.foot b := by
 intro hf
 rcases h.kin hf with ⟨cs', ty', fr', h1, h2⟩ | ⟨es, c, h1⟩
 ·rw [hb] at h1; cases h1; exact ht h2
 ·rw [hb] at h1; cases h1
theorem WFr.keep (hf : WFr d d' w w') {b : Nat} {o : Obj} (hb : w.heap[b]? = some o) (hn : ¬ d.foot b) : w'.heap[b]? = some o := hf.out.keep hb hn
theorem wSig_is (h : WIn w d N) (e : Int) (he : e ∈ d.x.ix.liveL) : Calls Tryz.prog 24 #[.pointer (some ⟨d.wb, 0, none⟩), .int .u64 e] w fun en w' => en = .returned (.tuple #[.int .u32 (d.S.sigV e), .int .i64 0]) ∧ Below w.heap.size w w' := by
 obtain ⟨⟨i, r⟩, t, v, hp, ht, hv, _⟩ := h.place he
 have hs : d.S.sigV e = t.set := by
  have hpt := tabs_at ht hv
  have hw : ∃ r', d.P.who e = some ⟨t.set, r'⟩ := by
   cases r with
   | none => exact ⟨_, who_kept hp hpt⟩
   | some r => exact ⟨_, Go.Proofs.YthmpknlgkflhiabGreat.who_row hp hpt⟩
  obtain ⟨r', hw⟩ := hw
  unfold WS.sigV
  rw [show d.S.who e = _ from hw]
 rw [hs]
 exact wSig_ok h e he hp ht
set_option maxRecDepth 100000 in
theorem checkCaps_zero (w : World) : Calls Tryz.prog 27 #[.agg #[.int .i64 0, .int .i64 0, .int .i64 0, .int .i64 0, .int .i64 0, .int .i64 0]] w fun e w' => e = .returned (.int .i64 1) ∧ Below w.heap.size w w' := by
 have K1 := Lib.hid (fun (W : World) => isWithin_any 0 1 256 W)
 go_enter Tryz.func27, Tryz.ntmps27
 go_wp2_with fail
 refine (K1.out _).mono ?_
 rintro e w1 ⟨rfl, rfl⟩
 rw [show decide ((1 : Int) ≤ 0 ∧ (0 : Int) ≤ 256) = false from rfl]
 go_wp2_with fail
 go_ret
 exact ⟨rfl, by go_grown⟩
theorem intsNone (d : WD) (w : World) : IntIn d w none 0 0 [] := fun w' _ => ⟨rfl, Nat.le_refl _, by unfold maxLen; omega, by simp, .inl rfl⟩
theorem partsNone (d : WD) (w : World) : PartsIn d w none 0 0 [] := ⟨fun w' _ => ⟨rfl, Nat.le_refl _, by unfold maxLen; omega, by simp, .inl rfl⟩, by omega⟩
theorem partK (ty : TypeId) (h : ty = 48 ∨ ty = 67) : ty ∉ wK ++ xK ++ gK ++ tK := by rcases h with rfl | rfl <;> decide
theorem partsOne (h : WRaw w d n) {pb ib : Nat} (hp : w.heap[pb]? = some (.cells #[.int .i64 1, .slice (some ⟨ib, 0, none⟩) 1 1] 48 (0, 0))) (hi : w.heap[ib]? = some (.cells #[.bool false, .int .u64 0, .int .u64 7] 67 (0, 0))) : PartsIn d w (some ⟨pb, 0, none⟩) 1 1 (p16 (some ⟨ib, 0, none⟩)) :=
 ⟨fun w' ho => parts16At (ho.keep hp (h.not_foot hp (partK _ (.inl rfl)))) (ho.keep hi (h.not_foot hi (partK _ (.inr rfl)))), by omega⟩
theorem intsOne (h : WRaw w d n) {ib : Nat} (hi : w.heap[ib]? = some (.cells #[.bool false, .int .u64 0, .int .u64 7] 67 (0, 0))) : IntIn d w (some ⟨ib, 0, none⟩) 1 1 [⟨false, 0, 7⟩] := by
 intro w' ho
 have hk := ho.keep hi (h.not_foot hi (partK _ (.inr rfl)))
 refine ⟨rfl, Nat.le_refl _, by unfold maxLen; omega, fun x hx => ?_, .inr ⟨ib, 0, rfl, lt_some hk, fun i x hx => ?_⟩⟩
 ·simp only [List.mem_cons, List.not_mem_nil, or_false] at hx
  subst hx
  exact wf_lo (by omega) (by omega)
 ·match i, hx with
  | 0, hx =>
   cases hx
   exact ⟨by rw [cell_at hk]; rfl, by rw [cell_at hk]; rfl, by rw [cell_at hk]; rfl⟩
  | n + 1, hx => simp at hx
theorem cv16 (va : Option Addr) : cv (p16 va) = [q18] := rfl
structure AwW (w0 : World) (S : WS) (N WB pb ib : Nat) (I : List (Nat × Array Value)) (w : World) : Prop where
 ex : ∃ d, WIn w d N ∧ d.S = S ∧ d.wb = WB ∧ Fresh w0 d w
 hp : w.heap[pb]? = some (.cells #[.int .i64 1, .slice (some ⟨ib, 0, none⟩) 1 1] 48 (0, 0))
 hi : w.heap[ib]? = some (.cells #[.bool false, .int .u64 0, .int .u64 7] 67 (0, 0))
 hI : ∀ x ∈ I, w.heap[x.1]? = some (.cells x.2 67 (0, 0))
variable {w0 : World} {S S' : WS} {WB pb ib : Nat} {I : List (Nat × Array Value)}
theorem AwW.below (h : AwW w0 S N WB pb ib I w) (hb : Below w.heap.size w w') : AwW w0 S N WB pb ib I w' := by
 obtain ⟨⟨d, h1, h2, h3, h4⟩, h5, h6, h7⟩ := h
 exact ⟨⟨d, h1.below hb, h2, h3, h4.below hb⟩, keep hb h5, keep hb h6, fun x hx => keep hb (h7 x hx)⟩
theorem AwW.bel (h : AwW w0 S N WB pb ib I w) : Below w0.heap.size w0 w := by
 obtain ⟨⟨d, _, _, _, h4⟩, _⟩ := h
 exact h4.bel
theorem AwW.deed (h : AwW w0 S N WB pb ib I w) (h1 : WIn w d N) (h3 : d.wb = WB) (h4 : Fresh w0 d w) {M : Nat} (k : WIn w' d' M) (hf : WFr d d' w w') (hS : d'.S = S') : AwW w0 S' M WB pb ib I w' :=
 ⟨⟨d', k, hS, hf.wb.trans h3, h4.go hf⟩, hf.keep h.hp (h1.raw.not_foot h.hp (partK _ (.inl rfl))), hf.keep h.hi (h1.raw.not_foot h.hi (partK _ (.inr rfl))), fun x hx => hf.keep (h.hI x hx) (h1.raw.not_foot (h.hI x hx) (partK _ (.inr rfl)))⟩
theorem aw_spawn (h : AwW w0 S N WB pb ib I w) {b : Nat} (hb : w.heap[b]? = some (.cells #[.int .i64 1, .slice (some ⟨ib, 0, none⟩) 1 1] 48 (0, 0))) (hk : S.spawnE [q18] = 0) : Calls Tryz.prog 12 #[.pointer (some ⟨WB, 0, none⟩), .slice (some ⟨b, 0, none⟩) 1 1] w fun en w' => en = .returned (.tuple #[.int .u64 S.spawnH, .int .i64 0]) ∧ AwW w0 (S.spawnS [q18]) N WB pb ib I w' := by
 obtain ⟨⟨d, h1', rfl, rfl, h4⟩, _⟩ := id h
 refine (wSpawn_any h1' (partsOne h1'.raw hb h.hi)).mono ?_
 rintro en w' ⟨d', k1, k2, k3, hor⟩
 rw [cv16] at hor
 rcases hor with ⟨k4, _⟩ | ⟨_, rfl, k5⟩
 ·exact absurd hk k4
 ·exact ⟨rfl, h.deed h1' rfl h4 k1 k2 k5⟩
theorem aw_spawn0 (h : AwW w0 S N WB pb ib I w) (hk : S.spawnE [] = 0) : Calls Tryz.prog 12 #[.pointer (some ⟨WB, 0, none⟩), .slice none 0 0] w fun en w' => en = .returned (.tuple #[.int .u64 S.spawnH, .int .i64 0]) ∧ AwW w0 (S.spawnS []) N WB pb ib I w' := by
 obtain ⟨⟨d, h1', rfl, rfl, h4⟩, _⟩ := id h
 refine (wSpawn_any h1' (partsNone d w)).mono ?_
 rintro en w' ⟨d', k1, k2, k3, hor⟩
 rw [show cv ([] : List PW) = [] from rfl] at hor
 rcases hor with ⟨k4, _⟩ | ⟨_, rfl, k5⟩
 ·exact absurd hk k4
 ·exact ⟨rfl, h.deed h1' rfl h4 k1 k2 k5⟩
theorem aw_add (h : AwW w0 S N WB pb ib I w) (hN : N ≤ 999990) (e : Int) (h0 : 0 ≤ e) (h1 : e < 18446744073709551616) (c : Int) (k : Int) (hk : S.addE e (c, []) = k) (hS : (if k = 0 then S.addS e (c, []) else S) = S') (hs : ∀ s r, S.rowAt e = some (s, r) → sIs s = true) :
  Calls Tryz.prog 14 #[.pointer (some ⟨WB, 0, none⟩), .int .u64 e, .agg #[.int .i64 c, .slice none 0 0]] w fun en w' => en = .returned (.int .i64 k) ∧ AwW w0 S' (N + 2) WB pb ib I w' := by
 obtain ⟨⟨d, h1', rfl, rfl, h4⟩, _⟩ := id h
 refine (wAdd_any h1' hN e h0 h1 (intsNone d w) c hs).mono ?_
 rintro en w' ⟨d', k1, k2, k3, rfl, k5⟩
 rw [hk] at k5 ⊢
 exact ⟨rfl, h.deed h1' rfl h4 k1 k2 (k5.trans hS)⟩
theorem aw_remove (h : AwW w0 S N WB pb ib I w) (hN : N ≤ 999990) (e : Int) (h0 : 0 ≤ e) (h1 : e < 18446744073709551616) (c : Int) (hk : S.removeE e c = 0) (hs : ∀ s r, S.rowAt e = some (s, r) → sIs s = true) :
  Calls Tryz.prog 15 #[.pointer (some ⟨WB, 0, none⟩), .int .u64 e, .int .i64 c] w fun en w' => en = .returned (.int .i64 0) ∧ AwW w0 (S.removeS e c) (N + 2) WB pb ib I w' := by
 obtain ⟨⟨d, h1', rfl, rfl, h4⟩, _⟩ := id h
 refine (wRemove_any h1' hN e h0 h1 c hs).mono ?_
 rintro en w' ⟨d', k1, k2, k3, rfl, k5⟩
 rw [hk] at k5 ⊢
 exact ⟨rfl, h.deed h1' rfl h4 k1 k2 (k5.trans (if_pos rfl))⟩
theorem aw_set (h : AwW w0 S N WB pb ib I w) (e : Int) (h0 : 0 ≤ e) (h1 : e < 18446744073709551616) (k : Int) (hk : S.setE e q18 = k) (hn : k ≠ 0) :
  Calls Tryz.prog 16 #[.pointer (some ⟨WB, 0, none⟩), .int .u64 e, .agg #[.int .i64 1, .slice (some ⟨ib, 0, none⟩) 1 1]] w fun en w' => en = .returned (.int .i64 k) ∧ AwW w0 S N WB pb ib I w' := by
 obtain ⟨⟨d, h1', rfl, rfl, h4⟩, _⟩ := id h
 refine (wSet_any h1' e h0 h1 (intsOne h1'.raw h.hi) 1).mono ?_
 rintro en w' ⟨d', k1, k2, k3, rfl, k5⟩
 rw [show d.S.setE e (1, [⟨false, 0, 7⟩]) = k from hk] at k5 ⊢
 exact ⟨rfl, h.deed h1' rfl h4 k1 k2 (k5.trans (if_neg hn))⟩
theorem aw_despawn (h : AwW w0 S N WB pb ib I w) (e : Int) (h0 : 0 ≤ e) (h1 : e < 18446744073709551616) (hk : S.deadE e = 0) :
  Calls Tryz.prog 13 #[.pointer (some ⟨WB, 0, none⟩), .int .u64 e] w fun en w' => en = .returned (.int .i64 0) ∧ AwW w0 (S.despawnS e) N WB pb ib I w' := by
 obtain ⟨⟨d, h1', rfl, rfl, h4⟩, _⟩ := id h
 refine (wDespawn_any h1' e h0 h1).mono ?_
 rintro en w' ⟨d', k1, k2, k3, rfl, k5⟩
 rw [hk] at k5 ⊢
 exact ⟨rfl, h.deed h1' rfl h4 k1 k2 (k5.trans (if_pos rfl))⟩
theorem aw_get (h : AwW w0 S N WB pb ib I w) (e : Int) (h0 : 0 ≤ e) (c : Int) (hk : S.getE e c = 0) (hv : S.getV e c = [⟨false, 0, 7⟩]) :
  Calls Tryz.prog 19 #[.pointer (some ⟨WB, 0, none⟩), .int .u64 e, .int .i64 c] w fun en w' => ∃ b cap cur, en = .returned (.tuple #[.slice (some ⟨b, 0, none⟩) 1 cap, .int .i64 0]) ∧ AwW w0 S N WB pb ib ((b, cur) :: I) w' ∧ cur[0]? = some (.bool false) ∧ cur[1]? = some (.int .u64 0) ∧ cur[2]? = some (.int .u64 7) := by
 obtain ⟨⟨d, h1', rfl, rfl, h4⟩, _⟩ := id h
 refine (wGet_ok h1' e h0 c hk).mono ?_
 rintro en w' ⟨va, vc, rfl, hown, _, hb⟩
 rw [hv] at hown ⊢
 have hA := h.below hb
 rcases hown.2 with ⟨_, h0'⟩ | ⟨g, cap, cur, hgv, _, hg, hc1, hc2, hc3, hc4⟩
 ·cases h0'
 ·cases hgv
  refine ⟨g, vc, cur, rfl, ⟨hA.ex, hA.hp, hA.hi, fun x hx => ?_⟩, ?_, ?_, ?_⟩
  ·rcases List.mem_cons.1 hx with rfl | hx
   ·exact hg
   ·exact hA.hI x hx
  all_goals
   have hat : ∀ i v, i < 3 → ([.bool false, .int .u64 0, .int .u64 7] : List Value)[i]? = some v → cur[i]? = some v := by
    intro i v hi hv'
    have h2 : (cur.toList.take 3)[i]? = some v := by rw [show cur.toList.take 3 = _ from hc4]; exact hv'
    rw [List.getElem?_take, if_pos hi] at h2
    simpa using h2
   exact hat _ _ (by omega) rfl
end
end Go.Proofs.YthmpknlgkflhiabGreat
namespace Go.Proofs.YthmpknlgkflhiabGreat
open Go.RowKit
set_option linter.unusedVariables false
section
variable {w w' : World}
theorem values18_is (xs ys : List WI) (a : Option Addr) (l c : Nat) (a' : Option Addr) (l' c' : Nat) (w : World) (hx : IntsAt w.heap.size w a l c xs) (hy : IntsAt w.heap.size w a' l' c' ys) (r : Bool) (hr : r = true ↔ xs = ys) :
  Calls Tryz.prog 20 #[.slice a l c, .slice a' l' c'] w fun e w' => e = .returned (.bool r) ∧ ∃ m, w' = w.drewN m := by
 refine (values18_any xs ys a l c a' l' c' w hx hy).mono ?_
 rintro e w' ⟨r', rfl, h, hd⟩
 refine ⟨?_, hd⟩
 have : r' = r := Bool.eq_iff_iff.2 (h.trans hr.symm)
 rw [this]
theorem cv_take_succ {ps qs : List PW} {k : Nat} {p q : PW} (hp : ps[k]? = some p) (hq : qs[k]? = some q) (h : cv (ps.take k) = cv (qs.take k)) (h1 : p.comp = q.comp) (h2 : p.val = q.val) : cv (ps.take (k + 1)) = cv (qs.take (k + 1)) := by
 have e : ∀ (l : List PW) (x : PW), cv (l ++ [x]) = cv l ++ [(x.comp, x.val)] := fun l x => by unfold cv; rw [List.map_append]; rfl
 rw [take_snoc hp, take_snoc hq, e, e, h, h1, h2]
theorem cv_get {ps : List PW} {k : Nat} {p : PW} (hp : ps[k]? = some p) : (cv ps)[k]? = some (p.comp, p.val) := by
 unfold cv
 rw [List.getElem?_map, hp]; rfl
set_option maxRecDepth 100000 in
set_option maxHeartbeats 4000000 in
theorem same18_any (ps qs : List PW) (a : Option Addr) (l c : Nat) (a' : Option Addr) (l' c' : Nat) (w : World) (hx : PartsAt w.heap.size w a l c ps) (hy : PartsAt w.heap.size w a' l' c' qs) :
  Calls Tryz.prog 17 #[.slice a l c, .slice a' l' c'] w fun e w' => ∃ r : Bool, e = .returned (.bool r) ∧ (r = true ↔ cv ps = cv qs) ∧ Drawn w w' := by
 have hlx := hx.1
 have hly := hy.1
 have hmx : l ≤ maxLen := Nat.le_trans hx.2.1 hx.2.2.1
 have hmy : l' ≤ maxLen := Nat.le_trans hy.2.1 hy.2.2.1
 unfold maxLen at hmx hmy
 have HX := Lib.hid hx
 have HY := Lib.hid hy
 have HLX := Lib.hid hlx
 have HLY := Lib.hid hly
 clear hx hy hlx hly
 by_cases hl : l = l'
 ·subst hl
  go_enter Tryz.func17, Tryz.ntmps17
  go_wp2_with fail
  go_loopw [5] (fun i wr => ∃ k : Nat, k ≤ l ∧ i = .int .i64 (k : Int) ∧ cv (ps.take k) = cv (qs.take k) ∧ Drawn w wr) (fun i _ => l - (intOf i).toNat)
  case atStart => exact ⟨0, by omega, rfl, rfl, Drawn.refl _⟩
  case round =>
   obtain ⟨k, hk, rfl, htk, hdr⟩ := hrel
   have HDR := Lib.hid hdr
   have hbr := hdr.below
   clear hdr
   by_cases hlt : k < l
   ·obtain ⟨b, off, x, rfl, hB, hxk, hxi, x0, x1⟩ := HX.out.get hbr hlt
    obtain ⟨b', off', y, rfl, hB', hyk, hyi, y0, y1⟩ := HY.out.get hbr hlt
    have hv := fun (r : Bool) (hr : r = true ↔ x.val = y.val) (n : Nat) => values18_is x.val y.val x.va x.vl x.vc y.va y.vl y.vc (wr.drewN n) ((hxi.below (below_drewN (Below.refl _ _) n)).mono hbr.size) ((hyi.below (below_drewN (Below.refl _ _) n)).mono hbr.size) r hr
    have HV := Lib.hid hv
    have HXK := Lib.hid hxk
    have HYK := Lib.hid hyk
    have HTK := Lib.hid htk
    have i1 : (0 : Int) ≤ (k : Int) := by omega
    have i2 : (k : Int) < (l : Int) := by omega
    have z1 : b < wr.heap.size := by have := hbr.size; omega
    have z2 : b' < wr.heap.size := by have := hbr.size; omega
    clear hxk hyk htk hbr hxi hyi hv
    by_cases hc : x.comp = y.comp
    ·have g1 : (x.comp != y.comp) = false := by simp [hc]
     have HC := Lib.hid hc
     clear hc
     by_cases hvv : x.val = y.val
     ·have HVS := Lib.hid (HV.out true ⟨fun _ => hvv, fun _ => rfl⟩)
      have HE := Lib.hid hvv
      clear hvv HV
      go_wp2_with fail
      go_quiet ((go_at_call 20; exact Calls.quiet_of (HVS.out _)))
      go_wp2_with fail
      go_roundw
      case rel => exact ⟨k + 1, by omega, by go_num, cv_take_succ HXK.out HYK.out HTK.out HC.out HE.out, HDR.out.more _⟩
      case measure => simp only [intOf]; omega
     ·have HVS := Lib.hid (HV.out false ⟨fun h => (by cases h), fun h => absurd h hvv⟩)
      have HE := Lib.hid hvv
      clear hvv HV
      go_wp2_with fail
      go_quiet ((go_at_call 20; exact Calls.quiet_of (HVS.out _)))
      go_wp2_with fail
      go_returns
      refine ⟨false, rfl, ⟨fun h => (by cases h), fun h => ?_⟩, HDR.out.more _⟩
      have h1 := cv_get HXK.out
      rw [h, cv_get HYK.out] at h1
      have h2 := congrArg (fun o => o.map Prod.snd) h1
      exact absurd (by simpa using h2.symm) HE.out
    ·have g1 : (x.comp != y.comp) = true := by simp [hc]
     have HC := Lib.hid hc
     clear hc HV
     go_wp2_with fail
     go_quiet (fail)
     go_wp2_with fail
     go_returns
     refine ⟨false, rfl, ⟨fun h => (by cases h), fun h => ?_⟩, HDR.out.more _⟩
     have h1 := cv_get HXK.out
     rw [h, cv_get HYK.out] at h1
     have h2 := congrArg (fun o => o.map Prod.fst) h1
     exact absurd (by simpa using h2.symm) HC.out
   ·obtain rfl : k = l := by omega
    have HT := Lib.hid htk
    clear htk
    go_wp2_with fail
    go_returns
    refine ⟨true, rfl, ⟨fun _ => ?_, fun _ => rfl⟩, HDR.out⟩
    have h := HT.out
    rw [List.take_of_length_le (by have := HLX.out; omega), List.take_of_length_le (by have := HLY.out; omega)] at h
    exact h
 ·have hl2 : ((l : Int) != (l' : Int)) = true := by rw [bne_iff_ne]; omega
  go_enter Tryz.func17, Tryz.ntmps17
  go_wp2_with fail
  go_returns
  refine ⟨false, rfl, ⟨fun h => (by cases h), fun h => absurd ?_ hl⟩, Drawn.refl _⟩
  have h1 := congrArg List.length h
  unfold cv at h1
  rw [List.length_map, List.length_map] at h1
  rw [← HLX.out, ← HLY.out, h1]
theorem same18_is (ps qs : List PW) (a : Option Addr) (l c : Nat) (a' : Option Addr) (l' c' : Nat) (w : World) (hx : PartsAt w.heap.size w a l c ps) (hy : PartsAt w.heap.size w a' l' c' qs) (r : Bool) (hr : r = true ↔ cv ps = cv qs) :
  Calls Tryz.prog 17 #[.slice a l c, .slice a' l' c'] w fun e w' => e = .returned (.bool r) ∧ Drawn w w' := by
 refine (same18_any ps qs a l c a' l' c' w hx hy).mono ?_
 rintro e w' ⟨r', rfl, h, hd⟩
 refine ⟨?_, hd⟩
 have : r' = r := Bool.eq_iff_iff.2 (h.trans hr.symm)
 rw [this]
end
end Go.Proofs.YthmpknlgkflhiabGreat
namespace Go.Proofs.YthmpknlgkflhiabGreat
open Go.RowKit
set_option linter.unusedVariables false
structure LW (w0 : World) (d : WD) (N : Nat) (w : World) : Prop where
 inn : WIn w d N
 fr : Fresh w0 d w
 all : d.S.AllRow
def LDeed (w0 : World) (d : WD) (M : Nat) (h err dn : Int) (w w' : World) : Prop := ∃ d', LW w0 d' M w' ∧ WFr d d' w w' ∧ Deed d.S d'.S h err dn
section
variable {w0 w w' : World} {d d' : WD} {N M n : Nat} {pa : Option Addr} {pl pc : Nat} {ps : List PW} {va : Option Addr} {vl vc : Nat} {v : List WI}
theorem LW.below (h : LW w0 d N w) (hb : Below w.heap.size w w') : LW w0 d N w' := ⟨h.inn.below hb, h.fr.below hb, h.all⟩
theorem LW.mono (h : LW w0 d N w) (hN : N ≤ M) : LW w0 d M w := ⟨WMid.mono h.inn hN, h.fr, h.all⟩
theorem LW.bel (h : LW w0 d N w) : Below w0.heap.size w0 w := h.fr.bel
theorem LW.ok (h : LW w0 d N w) : d.S.ix.Ok := h.inn.raw.ix.ok
theorem LW.sch (h : LW w0 d N w) : schemaCheck d.S.ver d.S.cs = 0 := WMid.sch h.inn
theorem LW.dom (h : LW w0 d N w) : ∀ e, (d.S.who e).isSome = true → e ∈ d.S.ix.liveL := fun e he => (h.inn.ok.whoIn e).1 he
theorem LW.is (h : LW w0 d N w) (e : Int) : ∀ s r, d.S.rowAt e = some (s, r) → sIs s = true := fun s r hr => AllRow.is h.all h.ok h.dom hr
theorem Fresh.parts (h : Fresh w0 d w) (hp : PartsAt w0.heap.size w0 pa pl pc ps) (hl : pl ≤ 100000) : PartsIn d w pa pl pc ps :=
 ⟨fun w' ho => by
  have hb := h.bel.trans (ho.below h.foot h.bel.size)
  exact (hp.below hb).mono hb.size, hl⟩
theorem Fresh.ints (h : Fresh w0 d w) (hp : IntsAt w0.heap.size w0 va vl vc v) : IntIn d w va vl vc v := fun w' ho => by
 have hb := h.bel.trans (ho.below h.foot h.bel.size)
 exact (hp.below hb).mono hb.size
def Kp (w w' : World) : Prop := ∀ (b : Nat) (cs : Array Value) (ty : TypeId) (fr : Nat × Nat), w.heap[b]? = some (.cells cs ty fr) → ty ∉ wK ++ xK ++ gK ++ tK → w'.heap[b]? = some (.cells cs ty fr)
theorem Kp.refl (w : World) : Kp w w := fun _ _ _ _ h _ => h
theorem Kp.of_below (hb : Below w.heap.size w w') : Kp w w' := fun _ _ _ _ h _ => keep hb h
theorem Kp.trans {a b c : World} (h : Kp a b) (k : Kp b c) : Kp a c := fun x cs ty fr hx ht => k x cs ty fr (h x cs ty fr hx ht) ht
theorem LW.kp (h : LW w0 d N w) (hf : WFr d d' w w') : Kp w w' := fun b cs ty fr hb ht => hf.keep hb (h.inn.raw.not_foot hb ht)
theorem ownsRow_kp {B s : Nat} {e : TypeId} {x : Value} {xs : List Value} (h : w.ownsRow B e s x n xs) (hk : Kp w w') (he : e ∉ wK ++ xK ++ gK ++ tK) : w'.ownsRow B e s x n xs := by
 obtain ⟨h1, h2⟩ := h
 refine ⟨h1, h2.imp id ?_⟩
 rintro ⟨g, cap, cur, hv, hg, hh, r⟩
 exact ⟨g, cap, cur, hv, hg, hk g _ _ _ hh he, r⟩
theorem PO.kp {B c : Nat} {a : Option Addr} (h : PO B w a n c ps) (hk : Kp w w') : PO B w' a n c ps :=
 ⟨ownsRow_kp h.row hk (partK _ (.inl rfl)), fun p hp => ⟨ownsRow_kp (h.vals p hp).1 hk (partK _ (.inr rfl)), (h.vals p hp).2⟩, h.len⟩
theorem LW.same (h : LW w0 d N w) (hb : Below w.heap.size w w') (hN : N ≤ M) (x err : Int) : LDeed w0 d M x err 0 w w' := ⟨d, (h.below hb).mono hN, WFr.of_below hb, Deed.same h.all x err⟩
theorem LW.deed (h : LW w0 d N w) (k : WIn w' d' M) (hf : WFr d d' w w') {S' : WS} (hS : d'.S = S') {x err dn : Int} (hd : Deed d.S S' x err dn) : LDeed w0 d M x err dn w w' := ⟨d', ⟨k, h.fr.go hf, by rw [hS]; exact hd.all⟩, hf, by rw [hS]; exact hd⟩
theorem l_spawn (h : LW w0 d N w) (hp : PartsIn d w pa pl pc ps) (x : Int) : Calls Tryz.prog 12 #[.pointer (some ⟨d.wb, 0, none⟩), .slice pa pl pc] w fun en w' => ∃ n err : Int, en = .returned (.tuple #[.int .u64 n, .int .i64 err]) ∧ ((err ≠ 0 ∧ n = 0 ∧ LDeed w0 d N x err 0 w w') ∨ (err = 0 ∧ 0 < n ∧ n < 18446744073709551616 ∧ LDeed w0 d N x 0 1 w w')) := by
 refine (wSpawn_any h.inn hp).mono ?_
 rintro en w' ⟨d', k1, k2, _, hor⟩
 rcases hor with ⟨k4, rfl, k5⟩ | ⟨k4, rfl, k5⟩
 ·exact ⟨_, _, rfl, .inl ⟨k4, rfl, h.deed k1 k2 k5 (Deed.same h.all x _)⟩⟩
 ·obtain ⟨hd, hn⟩ := spawn_deed h.all h.ok h.sch k4 x
  exact ⟨_, _, rfl, .inr ⟨rfl, hn.1, hn.2, h.deed k1 k2 k5 hd⟩⟩
theorem l_deed (h : LW w0 d N w) {en : Ending} {err x dn : Int} {S' : WS} (hd : err = 0 → Deed d.S S' x 0 dn) (hi : IsDeed d err S' M w en w') : en = .returned (.int .i64 err) ∧ LDeed w0 d M x err (if err = 0 then dn else 0) w w' := by
 obtain ⟨d', k1, k2, _, rfl, k5⟩ := hi
 by_cases he : err = 0
 ·subst he
  rw [if_pos rfl] at k5 ⊢
  exact ⟨rfl, h.deed k1 k2 k5 (hd rfl)⟩
 ·rw [if_neg he] at k5 ⊢
  exact ⟨rfl, h.deed k1 k2 k5 (Deed.same h.all x err)⟩
theorem l_despawn (h : LW w0 d N w) (e : Int) (h0 : 0 ≤ e) (h1 : e < 18446744073709551616) : Calls Tryz.prog 13 #[.pointer (some ⟨d.wb, 0, none⟩), .int .u64 e] w fun en w' => ∃ err : Int, en = .returned (.int .i64 err) ∧ LDeed w0 d N e err (if err = 0 then -1 else 0) w w' :=
 (wDespawn_any h.inn e h0 h1).mono fun en w' hi => ⟨_, l_deed h (fun he => despawn_deed h.all h.ok h0 he) hi⟩
theorem l_add (h : LW w0 d N w) (hN : N ≤ 999990) (e : Int) (h0 : 0 ≤ e) (h1 : e < 18446744073709551616) (hp : IntIn d w va vl vc v) (c : Int) : Calls Tryz.prog 14 #[.pointer (some ⟨d.wb, 0, none⟩), .int .u64 e, .agg #[.int .i64 c, .slice va vl vc]] w fun en w' => ∃ err : Int, en = .returned (.int .i64 err) ∧ LDeed w0 d (N + 2) e err 0 w w' :=
 (wAdd_any h.inn hN e h0 h1 hp c (h.is e)).mono fun en w' hi => ⟨_, by
  have := l_deed (dn := 0) h (fun he => add_deed h.all h.ok h.sch h0 he) hi
  simpa using this⟩
theorem l_remove (h : LW w0 d N w) (hN : N ≤ 999990) (e : Int) (h0 : 0 ≤ e) (h1 : e < 18446744073709551616) (c : Int) : Calls Tryz.prog 15 #[.pointer (some ⟨d.wb, 0, none⟩), .int .u64 e, .int .i64 c] w fun en w' => ∃ err : Int, en = .returned (.int .i64 err) ∧ LDeed w0 d (N + 2) e err 0 w w' :=
 (wRemove_any h.inn hN e h0 h1 c (h.is e)).mono fun en w' hi => ⟨_, by
  have := l_deed (dn := 0) h (fun he => remove_deed h.all h.ok h0 he) hi
  simpa using this⟩
theorem l_set (h : LW w0 d N w) (e : Int) (h0 : 0 ≤ e) (h1 : e < 18446744073709551616) (hp : IntIn d w va vl vc v) (c : Int) : Calls Tryz.prog 16 #[.pointer (some ⟨d.wb, 0, none⟩), .int .u64 e, .agg #[.int .i64 c, .slice va vl vc]] w fun en w' => ∃ err : Int, en = .returned (.int .i64 err) ∧ LDeed w0 d N e err 0 w w' :=
 (wSet_any h.inn e h0 h1 hp c).mono fun en w' hi => ⟨_, by
  have := l_deed (dn := 0) h (fun he => set_deed h.all h.ok h0 he) hi
  simpa using this⟩
theorem LW.rowAt (h : LW w0 d N w) {e : Int} (he : e ∈ d.S.ix.liveL) : ∃ s r, d.S.rowAt e = some (s, r) ∧ d.S.partsV e = cvOf s r := by
 obtain ⟨s, r, hw, hr⟩ := h.all e he
 have hra : d.S.rowAt e = some (s, r) := by unfold WS.rowAt; rw [hw]
 exact ⟨s, r, hra, by unfold WS.partsV; rw [hra]⟩
theorem l_parts (h : LW w0 d N w) {e : Int} (he : e ∈ d.S.ix.liveL) : Calls Tryz.prog 10 #[.pointer (some ⟨d.wb, 0, none⟩), .int .u64 e] w (IsParts (d.S.partsV e) w) := by
 obtain ⟨s, r, hr, hp⟩ := h.rowAt he
 rw [hp]
 exact wParts_ok h.inn e he hr
theorem LW.bounds (h : LW w0 d N w) : (d.S.sets.length : Int) ≤ d.S.caps.archs ∧ (d.S.ix.liveL.length : Int) ≤ d.S.caps.ents ∧ ∀ s ∈ d.S.sets, (d.S.cnt s : Int) ≤ d.S.caps.rows := by
 have hg : (d.g.ts.length : Int) ≤ d.g.archs := by obtain ⟨_, _, _, _, _, hh⟩ := h.inn.raw.gr; exact hh.wf.2.2.2.2.1
 refine ⟨?_, ?_, fun s hs => ?_⟩
 ·show (d.g.sigs.length : Int) ≤ d.caps.archs
  rw [sigs_len, ← WMid.archs h.inn]; exact hg
 ·have h1 := h.ok.liveL_len
  have h2 := WMid.ents h.inn
  show (d.x.ix.liveL.length : Int) ≤ d.caps.ents
  have h1 : d.x.ix.liveL.length + 1 ≤ d.x.ix.gens.length := h1
  omega
 ·have hs : s ∈ d.g.sigs := hs
  obtain ⟨i, hi⟩ := List.getElem?_of_mem hs
  obtain ⟨t, ht, hts⟩ := WMid.of_pos h.inn (h.inn.inv.nd i s hi)
  subst hts
  rw [h.inn.cnt ht]
  have h2 := (WMid.like h.inn ht).1
  have h3 := (WMid.tab h.inn ht).room
  show ((t.ents.length + t.kept : Nat) : Int) ≤ d.caps.rows
  omega
end
end Go.Proofs.YthmpknlgkflhiabGreat
