/- A world's Heir, of no tables ahead. · Worlds: what is not theirs stays; a set, told; caps that can't be. What awake keeps. · The worlds' laws: whether parts are the same. -/
import Derived.Test.YthmpknlgkflhiabGreatP47
import Derived.StillTailTactics
import Derived.Test.YthmpknlgkflhiabGreatP19
import Derived.Test.YthmpknlgkflhiabGreatP45
import Derived.Deep.QuietTactic
import Derived.BigQuiet
namespace Go.Proofs.YthmpknlgkflhiabGreat
open Go.RowKit
set_option linter.unusedVariables false
section
variable {w w' : World} {d : WD} {L L' : List Int} {N n : Nat}
/-- The state of an heir before anybody is awaited. -/
def heir0 (S : WS) (ver : Int) (cs : List Cmp) : WS := ⟨S.caps, ver, cs, S.ix, [], fun _ => none⟩
def IsHeir (S : WS) (ver : Int) (cs : List Cmp) (l : List (Int × Int)) (w : World) (e : Ending) (w' : World) : Prop :=
  Below w.heap.size w w' ∧ (((awaitAll (heir0 S ver cs) l).1 ≠ 0 ∧ e = .returned (.tuple #[.pointer none, .int .i64 (awaitAll (heir0 S ver cs) l).1])) ∨
    ((awaitAll (heir0 S ver cs) l).1 = 0 ∧ ∃ d', e = .returned (.tuple #[.pointer (some ⟨d'.wb, 0, none⟩), .int .i64 0]) ∧ WIn w' d' 0 ∧ d'.S = (awaitAll (heir0 S ver cs) l).2 ∧ ∀ b, d'.foot b → w.heap.size ≤ b))
/-- What the rounds keep: k are awaited, the rest are to be. -/
structure HeirR (w0 : World) (S : WS) (ver : Int) (cs : List Cmp) (l : List (Int × Int)) (hb : Nat) (k : Nat) (d : WD) (w : World) : Prop where
  mid : WMid w d ((l.take k).map (·.1)).reverse 0
  fresh : Fresh w0 d w
  ix : d.x.ix = S.ix
  wb : d.wb = hb
  all : awaitAll (heir0 S ver cs) l = awaitAll d.S (l.drop k)
set_option maxRecDepth 100000 in
set_option maxHeartbeats 8000000 in
theorem wHeir_any (h : WIn w d N) (ver : Int) (cs : List Cmp) (a : Option Addr) (len cap : Nat) (hcs : CompsAt w.heap.size w a len cs) (hw : CompsWf cs) (hl : len ≤ 100000) (hf : ∀ c ∈ cs, c.fields.length ≤ 100000) (hna : a = none → len = 0 ∧ cap = 0) (hs : schemaCheck ver cs = 0)
    (l : List (Int × Int)) (a2 : Option Addr) (len2 cap2 : Nat) (hA : AwaitsAt w.heap.size w a2 len2 l) (hlist : l.map (·.1) = d.x.ix.liveL) (hset : ∀ x ∈ l, 0 ≤ x.2 ∧ x.2 ≤ 4294967295)
    (hsort : ∀ (va : Option Addr) (vc : Nat) (fv : Value) (B : Nat) (W : World), W.ownsRow B 38 1 (.slice va len2 vc) len2 ((l.map (·.1)).map (.int .u64)) → Calls Tryz.prog 98 #[.slice va len2 vc, fv] W fun e w' => e = .returned (.tuple #[]) ∧ W = w') :
    Calls Tryz.prog 25 #[.pointer (some ⟨d.wb, 0, none⟩), .agg #[.int .i64 ver, .slice a len cap], .slice none 0 0, .slice a2 len2 cap2] w (IsHeir d.S ver cs l w) := by
  have hl2 : len2 ≤ 257 := by
    have h1 := WMid.lbd h
    rw [← hlist, List.length_map, hA.1] at h1
    exact h1
  have hb0 : Below w.heap.size w (w.alloc (.cells #[.int .i64 ver, .slice a len cap] 24)) := by go_grown
  have hk0 := heap_alloc_new w (.cells #[.int .i64 ver, .slice a len cap] 24)
  have hsc := fun (W : World) (hb : Below w.heap.size w W) => schemaCheck_any ver cs a len cap W ((hcs.below hb).mono hb.size) hw
  rw [hs] at hsc
  obtain ⟨nE, hnE⟩ : ∃ nE : Nat, d.caps.ents = (nE : Int) := ⟨d.caps.ents.toNat, by have := (WMid.caps h).ents; omega⟩
  have HALL := Lib.hid (fun (W : World) (hb : Below w.heap.size w W) => wIsAll_any (h.below hb) l a2 len2 cap2 ((hA.below hb).mono hb.size) (by omega) fun va vc fv W' ho _ => hsort va vc fv _ W' ho)
  have HSC := Lib.hid hsc
  have HNEW := Lib.hid (fun (W : World) (hb : Below w.heap.size w W) => wNew_any d.caps (WMid.caps h) ver cs a len cap nE hnE W ((hcs.below hb).mono hb.size) hw hl hf hna hs)
  have HCL := Lib.hid (fun (W : World) (hb : Below w.heap.size w W) => xClone_any d.x W (h.below hb).raw.ix)
  have H := Lib.hid h
  have HA := Lib.hid hA
  have HLI := Lib.hid hlist
  have HSET := Lib.hid hset
  have HB0 := Lib.hid hb0
  have HK0 := Lib.hid hk0
  have HNE := Lib.hid hnE
  have HCAPS := Lib.hid h.raw.blk
  clear h hcs hw hl hf hna hs hA hlist hset hsort hb0 hk0 hsc hnE
  go_enter Tryz.func25, Tryz.ntmps25
  go_wp2_with fail
  refine (HSC.out _ HB0.out).mono ?_
  rintro e w1 ⟨rfl, hb1⟩
  have HB1 := Lib.hid (HB0.out.trans (hb1.mono HB0.out.size))
  have HK1 := Lib.hid (keep hb1 HK0.out)
  clear hb1
  go_wp2_with fail
  refine (HALL.out _ HB1.out).mono ?_
  rintro e w2 ⟨r, rfl, hr, hb2⟩
  obtain rfl : r = true := hr.2 HLI.out
  have HB2 := Lib.hid (HB1.out.trans (hb2.mono HB1.out.size))
  have hk2 := keep hb2 HK1.out
  have u0 := cell_at hk2 0
  have u1 := cell_at hk2 1
  have hc2 := keep HB2.out HCAPS.out
  have y0 := cell_at hc2 0
  have y1 := cell_at hc2 1
  have y2 := cell_at hc2 2
  have y3 := cell_at hc2 3
  have y4 := cell_at hc2 4
  have y5 := cell_at hc2 5
  simp at u0 u1 y0 y1 y2 y3 y4 y5
  clear hr hb2 hk2 hc2
  go_wp2_with fail
  go_still_tail 5, (by kernel_rfl)
  change wpList _ _ _ _ _ w2.drew
  go_wp2_with fail
  refine (HNEW.out _ HB2.out.drew).mono ?_
  rintro e w3 ⟨d3, rfl, hw3, hS3, hf3, hb3⟩
  have HB3 := Lib.hid (HB2.out.drew.trans (hb3.mono HB2.out.drew.size))
  have hd3 := H.out.below HB3.out
  obtain ⟨c6, _, _⟩ := hd3.raw.cells
  have HW3 := Lib.hid hw3
  have HS3 := Lib.hid hS3
  have HF3 : Hid (∀ b, d3.foot b → w.heap.size ≤ b) := Lib.hid fun b hb => Nat.le_trans HB2.out.drew.size (hf3 b hb)
  clear hw3 hS3 hf3 hb3 hd3 u0 u1 y0 y1 y2 y3 y4 y5
  go_wp2_with fail
  refine (HCL.out _ HB3.out).mono ?_
  rintro e w4 ⟨x', rfl, hx', hX', hxf, hb4⟩
  have hw4 := HW3.out.below hb4
  have s6 := cell_at hw4.raw.blk 6
  have f6 := free_at hw4.raw.blk 6
  simp at s6
  have hcaps : d3.caps = d.caps := congrArg WS.caps HS3.out
  have hix3 : d3.x.ix.liveL = [] := by
    have h1 : d3.x.ix = newIX nE d.caps.gens := congrArg WS.ix HS3.out
    have he := (WMid.caps H.out).ents
    have hg := (WMid.caps H.out).gens
    rw [HNE.out] at he
    rw [h1]
    exact newIX_live (by omega) (by omega) hg.1 hg.2
  have hmid4 : WMid w4 d3 [] 0 := by
    have := hw4
    unfold WIn at this
    rw [hix3] at this
    exact this
  have hmid5 := hmid4.setIx hX' (by rw [hx', WMid.gens H.out, hmid4.gens, hcaps]) (by have h1 := WMid.ents H.out; have h2 := hmid4.ents; rw [hcaps] at h2; rw [hx']; omega)
  have hS5 : WD.S { d3 with x := x' } = heir0 d.S ver cs := by
    have k1 : d3.g.ver = ver := congrArg WS.ver HS3.out
    have k2 : d3.g.cs = cs := congrArg WS.cs HS3.out
    have k3 : d3.g.sigs = [] := congrArg WS.sets HS3.out
    have k4 : d3.P.who = fun _ => none := congrArg WS.who HS3.out
    show WS.mk d3.caps d3.g.ver d3.g.cs x'.ix d3.g.sigs d3.P.who = _
    rw [hcaps, k1, k2, k3, k4, hx']
    rfl
  have HR0 : Hid (HeirR w d.S ver cs l d3.wb 0 { d3 with x := x' } (w4.setCell ⟨d3.wb, 6, none⟩ (.pointer (some ⟨x'.xb, 0, none⟩)))) := Lib.hid ⟨hmid5, ⟨(HB3.out.trans (hb4.mono HB3.out.size)).setCell (HF3.out _ (.inl rfl)) _, fun b hb => by
      rcases hb with hb | hb | hb | hb | hb
      · exact HF3.out b (.inl hb)
      · exact HF3.out b (.inr (.inl hb))
      · exact Nat.le_trans HB3.out.size (hxf b hb)
      · exact HF3.out b (.inr (.inr (.inr (.inl hb))))
      · exact HF3.out b (.inr (.inr (.inr (.inr hb))))⟩, hx', rfl, by rw [hS5]; rfl⟩
  obtain ⟨WB, hWB⟩ : ∃ WB, d3.wb = WB := ⟨_, rfl⟩
  rw [hWB] at s6 f6 HR0 ⊢
  clear hw4 hcaps hix3 hmid4 hmid5 hS5 hWB hx' hX' hxf hb4 c6
  go_wp2_with fail
  generalize w4.setCell ⟨WB, 6, none⟩ (.pointer (some ⟨x'.xb, 0, none⟩)) = w5 at HR0 ⊢
  clear s6 f6
  go_loopw [46] (fun i wr => i = .int .i64 0 ∧ w5 = wr) (fun _ _ => 0)
  case atStart => exact ⟨rfl, rfl⟩
  case round =>
    obtain ⟨rfl, rfl⟩ := hrel
    go_wp2_with fail
    go_loopw [65] (fun i wr => ∃ (k : Nat) (dk : WD), k ≤ len2 ∧ i = .int .i64 (k : Int) ∧ HeirR w d.S ver cs l WB k dk wr) (fun i _ => len2 - (intOf i).toNat)
    case atStart => exact ⟨0, _, Nat.zero_le _, rfl, HR0.out⟩
    case round =>
      obtain ⟨k, dk, hk, rfl, hrd⟩ := hrel
      have HRD := Lib.hid hrd
      clear hrd
      by_cases hlt : k < len2
      · obtain ⟨b, off, e, s, rfl, hB, hlk, d0, d1⟩ := (HA.out.below HRD.out.fresh.bel).get hlt
        have i1 : (0 : Int) ≤ (k : Int) := by omega
        have i2 : (k : Int) < (len2 : Int) := by omega
        have hlm : (l.map (·.1))[k]? = some e := by rw [List.getElem?_map, hlk]; rfl
        have heL : e ∈ d.x.ix.liveL := by rw [← HLI.out]; exact List.mem_of_getElem? hlm
        have hnd := H.out.raw.ix.ok.liveL_nd
        have hni : e ∉ ((l.take k).map (·.1)).reverse := by
          rw [List.mem_reverse, List.map_take]
          intro hm
          obtain ⟨j, hj⟩ := List.getElem?_of_mem hm
          rw [List.getElem?_take] at hj
          split at hj
          · have := nd_inj (by rw [HLI.out]; exact hnd) hj hlm
            omega
          · cases hj
        have hbA : Below wr.heap.size wr (wr.alloc (.cells #[.int .u64 e, .int .u32 s] 74)) := (Below.refl _ _).alloc (Nat.le_refl _) _
        have a0 : (wr.alloc (.cells #[.int .u64 e, .int .u32 s] 74)).cell? ⟨wr.heap.size, 0, none⟩ = some (.int .u64 e) := by rw [cell_at (heap_alloc_new wr _)]; rfl
        have a1 : (wr.alloc (.cells #[.int .u64 e, .int .u32 s] 74)).cell? ⟨wr.heap.size, 1, none⟩ = some (.int .u32 s) := by rw [cell_at (heap_alloc_new wr _)]; rfl
        have hmA := HRD.out.mid.below hbA
        have hsub : ∀ y ∈ ((l.take k).map (·.1)).reverse, y ∈ dk.x.ix.liveL := fun y hy => by
          rw [HRD.out.ix]
          show y ∈ d.x.ix.liveL
          rw [← HLI.out]
          rw [List.mem_reverse, List.map_take] at hy
          exact List.mem_of_mem_take hy
        have hxok : dk.x.ix.Ok := hmA.raw.ix.ok
        have hbd := H.out.bd heL
        have hse := HSET.out (e, s) (List.mem_of_getElem? hlk)
        have haw := wAwait_any hmA (hmA.counts hxok hsub) e hbd.1 hbd.2 hni (by rw [List.length_reverse, List.length_map, List.length_take]; omega) s hse.1 hse.2
        rw [HRD.out.wb] at haw
        have HAW := Lib.hid haw
        have HLK := Lib.hid hlk
        have HBA := Lib.hid hbA
        clear hlk hlm heL hnd hni hbA hmA hsub hxok hbd hse haw
        go_wp2_with fail
        refine HAW.out.mono ?_
        rintro en w6 ⟨d6, hf6, hx6, hwb6, rfl, hm6, hS6⟩
        have hfr6 := (HRD.out.fresh.below HBA.out).go hf6
        by_cases ho : dk.S.openE s = 0
        · rw [if_pos ho] at hm6 hS6
          have HN : Hid (HeirR w d.S ver cs l WB (k + 1) d6 w6) := Lib.hid ⟨by
            have e1 : ((l.take (k + 1)).map (·.1)).reverse = e :: ((l.take k).map (·.1)).reverse := by rw [take_snoc HLK.out, List.map_append, List.reverse_append]; rfl
            rw [e1]; exact hm6, hfr6, by rw [hx6]; exact HRD.out.ix, hwb6.trans HRD.out.wb, by
            have e2 : l.drop k = (e, s) :: l.drop (k + 1) := drop_get HLK.out
            rw [HRD.out.all, e2, hS6]
            show awaitAll dk.S ((e, s) :: l.drop (k + 1)) = _
            rw [awaitAll]
            rw [if_pos ho]⟩
          rw [ho]
          clear hf6 hx6 hwb6 hm6 hS6 hfr6 ho HAW
          go_wp2_with fail
          go_roundw
          case rel => exact ⟨k + 1, d6, by omega, by go_num, HN.out⟩
          case measure => simp [intOf]; omega
        · obtain ⟨q, hq⟩ : ∃ q, dk.S.openE s = q := ⟨_, rfl⟩
          have hall : awaitAll (heir0 d.S ver cs) l = (q, dk.S) := by
            have e2 : l.drop k = (e, s) :: l.drop (k + 1) := drop_get HLK.out
            rw [HRD.out.all, e2, awaitAll, if_neg ho, hq]
          have hqn : (q != 0) = true := by rw [← hq]; simpa using ho
          have HF : Hid (IsHeir d.S ver cs l w (.returned (.tuple #[.pointer none, .int .i64 q])) w6) := Lib.hid ⟨hfr6.bel, .inl ⟨by rw [hall, ← hq]; exact ho, by rw [hall]⟩⟩
          rw [hq]
          clear hf6 hx6 hwb6 hm6 hS6 hfr6 ho hq hall HAW
          go_wp2_with fail
          go_ret2
          exact HF.out
      · obtain rfl : k = len2 := by omega
        have hall : awaitAll (heir0 d.S ver cs) l = (0, dk.S) := by rw [HRD.out.all, List.drop_eq_nil_of_le (by rw [HA.out.1]; exact Nat.le_refl _)]; rfl
        have HF : Hid (IsHeir d.S ver cs l w (.returned (.tuple #[.pointer (some ⟨WB, 0, none⟩), .int .i64 0])) wr) := Lib.hid ⟨HRD.out.fresh.bel, .inr ⟨by rw [hall], dk, by rw [HRD.out.wb], by
          have hm := HRD.out.mid
          rw [List.take_of_length_le (by rw [HA.out.1]; exact Nat.le_refl _), HLI.out] at hm
          unfold WIn
          rw [show dk.x.ix = d.x.ix from HRD.out.ix]
          exact hm.perm (List.reverse_perm _), by rw [hall], HRD.out.fresh.foot⟩⟩
        clear hall
        go_wp2_with fail
        go_ret2
        exact HF.out
end
end Go.Proofs.YthmpknlgkflhiabGreat
namespace Go.Proofs.YthmpknlgkflhiabGreat
open Go.RowKit
set_option linter.unusedVariables false
section
variable {w w' : World} {d d' : WD} {N n : Nat}
theorem WRaw.not_foot (h : WRaw w d n) {b : Nat} {cs : Array Value} {ty : TypeId} {fr : Nat × Nat} (hb : w.heap[b]? = some (.cells cs ty fr)) (ht : ty ∉ wK ++ xK ++ gK ++ tK) : ¬ d.foot b := by
  intro hf
  rcases h.kin hf with ⟨cs', ty', fr', h1, h2⟩ | ⟨es, c, h1⟩
  · rw [hb] at h1; cases h1; exact ht h2
  · rw [hb] at h1; cases h1
theorem WFr.keep (hf : WFr d d' w w') {b : Nat} {o : Obj} (hb : w.heap[b]? = some o) (hn : ¬ d.foot b) : w'.heap[b]? = some o := hf.out.keep hb hn
theorem wSig_is (h : WIn w d N) (e : Int) (he : e ∈ d.x.ix.liveL) : Calls Tryz.prog 24 #[.pointer (some ⟨d.wb, 0, none⟩), .int .u64 e] w fun en w' => en = .returned (.tuple #[.int .u32 (d.S.sigV e), .int .i64 0]) ∧ Below w.heap.size w w' := by
  obtain ⟨⟨i, r⟩, t, v, hp, ht, hv, _⟩ := h.place he
  have hs : d.S.sigV e = t.set := by
    have hpt := tabs_at ht hv
    have hw : ∃ r', d.P.who e = some ⟨t.set, r'⟩ := by
      cases r with
      | none => exact ⟨_, who_kept hp hpt⟩
      | some r => exact ⟨_, Go.Proofs.YthmpknlgkflhiabGreat.who_row hp hpt⟩
    obtain ⟨r', hw⟩ := hw
    unfold WS.sigV
    rw [show d.S.who e = _ from hw]
  rw [hs]
  exact wSig_ok h e he hp ht
set_option maxRecDepth 100000 in
theorem checkCaps_zero (w : World) : Calls Tryz.prog 27 #[.agg #[.int .i64 0, .int .i64 0, .int .i64 0, .int .i64 0, .int .i64 0, .int .i64 0]] w fun e w' => e = .returned (.int .i64 1) ∧ Below w.heap.size w w' := by
  have K1 := Lib.hid (fun (W : World) => isWithin_any 0 1 256 W)
  go_enter Tryz.func27, Tryz.ntmps27
  go_wp2_with fail
  refine (K1.out _).mono ?_
  rintro e w1 ⟨rfl, rfl⟩
  rw [show decide ((1 : Int) ≤ 0 ∧ (0 : Int) ≤ 256) = false from rfl]
  go_wp2_with fail
  go_ret
  exact ⟨rfl, by go_grown⟩
theorem intsNone (d : WD) (w : World) : IntIn d w none 0 0 [] := fun w' _ => ⟨rfl, Nat.le_refl _, by unfold maxLen; omega, by simp, .inl rfl⟩
theorem partsNone (d : WD) (w : World) : PartsIn d w none 0 0 [] := ⟨fun w' _ => ⟨rfl, Nat.le_refl _, by unfold maxLen; omega, by simp, .inl rfl⟩, by omega⟩
theorem partK (ty : TypeId) (h : ty = 48 ∨ ty = 67) : ty ∉ wK ++ xK ++ gK ++ tK := by rcases h with rfl | rfl <;> decide
/-- A part alone in a row, and its numbers. -/
theorem partsOne (h : WRaw w d n) {pb ib : Nat} (hp : w.heap[pb]? = some (.cells #[.int .i64 1, .slice (some ⟨ib, 0, none⟩) 1 1] 48 (0, 0))) (hi : w.heap[ib]? = some (.cells #[.bool false, .int .u64 0, .int .u64 7] 67 (0, 0))) : PartsIn d w (some ⟨pb, 0, none⟩) 1 1 (p16 (some ⟨ib, 0, none⟩)) :=
  ⟨fun w' ho => parts16At (ho.keep hp (h.not_foot hp (partK _ (.inl rfl)))) (ho.keep hi (h.not_foot hi (partK _ (.inr rfl)))), by omega⟩
theorem intsOne (h : WRaw w d n) {ib : Nat} (hi : w.heap[ib]? = some (.cells #[.bool false, .int .u64 0, .int .u64 7] 67 (0, 0))) : IntIn d w (some ⟨ib, 0, none⟩) 1 1 [⟨false, 0, 7⟩] := by
  intro w' ho
  have hk := ho.keep hi (h.not_foot hi (partK _ (.inr rfl)))
  refine ⟨rfl, Nat.le_refl _, by unfold maxLen; omega, fun x hx => ?_, .inr ⟨ib, 0, rfl, lt_some hk, fun i x hx => ?_⟩⟩
  · simp only [List.mem_cons, List.not_mem_nil, or_false] at hx
    subst hx
    exact wf_lo (by omega) (by omega)
  · match i, hx with
    | 0, hx =>
      cases hx
      exact ⟨by rw [cell_at hk]; rfl, by rw [cell_at hk]; rfl, by rw [cell_at hk]; rfl⟩
    | n + 1, hx => simp at hx
theorem cv16 (va : Option Addr) : cv (p16 va) = [q18] := rfl
/-- What awake keeps from deed to deed: the world, told, its part, and rows of numbers. -/
structure AwW (w0 : World) (S : WS) (N WB pb ib : Nat) (I : List (Nat × Array Value)) (w : World) : Prop where
  ex : ∃ d, WIn w d N ∧ d.S = S ∧ d.wb = WB ∧ Fresh w0 d w
  hp : w.heap[pb]? = some (.cells #[.int .i64 1, .slice (some ⟨ib, 0, none⟩) 1 1] 48 (0, 0))
  hi : w.heap[ib]? = some (.cells #[.bool false, .int .u64 0, .int .u64 7] 67 (0, 0))
  hI : ∀ x ∈ I, w.heap[x.1]? = some (.cells x.2 67 (0, 0))
variable {w0 : World} {S S' : WS} {WB pb ib : Nat} {I : List (Nat × Array Value)}
theorem AwW.below (h : AwW w0 S N WB pb ib I w) (hb : Below w.heap.size w w') : AwW w0 S N WB pb ib I w' := by
  obtain ⟨⟨d, h1, h2, h3, h4⟩, h5, h6, h7⟩ := h
  exact ⟨⟨d, h1.below hb, h2, h3, h4.below hb⟩, keep hb h5, keep hb h6, fun x hx => keep hb (h7 x hx)⟩
theorem AwW.bel (h : AwW w0 S N WB pb ib I w) : Below w0.heap.size w0 w := by
  obtain ⟨⟨d, _, _, _, h4⟩, _⟩ := h
  exact h4.bel
theorem AwW.deed (h : AwW w0 S N WB pb ib I w) (h1 : WIn w d N) (h3 : d.wb = WB) (h4 : Fresh w0 d w) {M : Nat} (k : WIn w' d' M) (hf : WFr d d' w w') (hS : d'.S = S') : AwW w0 S' M WB pb ib I w' :=
  ⟨⟨d', k, hS, hf.wb.trans h3, h4.go hf⟩, hf.keep h.hp (h1.raw.not_foot h.hp (partK _ (.inl rfl))), hf.keep h.hi (h1.raw.not_foot h.hi (partK _ (.inr rfl))), fun x hx => hf.keep (h.hI x hx) (h1.raw.not_foot (h.hI x hx) (partK _ (.inr rfl)))⟩
theorem aw_spawn (h : AwW w0 S N WB pb ib I w) {b : Nat} (hb : w.heap[b]? = some (.cells #[.int .i64 1, .slice (some ⟨ib, 0, none⟩) 1 1] 48 (0, 0))) (hk : S.spawnE [q18] = 0) : Calls Tryz.prog 12 #[.pointer (some ⟨WB, 0, none⟩), .slice (some ⟨b, 0, none⟩) 1 1] w fun en w' => en = .returned (.tuple #[.int .u64 S.spawnH, .int .i64 0]) ∧ AwW w0 (S.spawnS [q18]) N WB pb ib I w' := by
  obtain ⟨⟨d, h1', rfl, rfl, h4⟩, _⟩ := id h
  refine (wSpawn_any h1' (partsOne h1'.raw hb h.hi)).mono ?_
  rintro en w' ⟨d', k1, k2, k3, hor⟩
  rw [cv16] at hor
  rcases hor with ⟨k4, _⟩ | ⟨_, rfl, k5⟩
  · exact absurd hk k4
  · exact ⟨rfl, h.deed h1' rfl h4 k1 k2 k5⟩
theorem aw_spawn0 (h : AwW w0 S N WB pb ib I w) (hk : S.spawnE [] = 0) : Calls Tryz.prog 12 #[.pointer (some ⟨WB, 0, none⟩), .slice none 0 0] w fun en w' => en = .returned (.tuple #[.int .u64 S.spawnH, .int .i64 0]) ∧ AwW w0 (S.spawnS []) N WB pb ib I w' := by
  obtain ⟨⟨d, h1', rfl, rfl, h4⟩, _⟩ := id h
  refine (wSpawn_any h1' (partsNone d w)).mono ?_
  rintro en w' ⟨d', k1, k2, k3, hor⟩
  rw [show cv ([] : List PW) = [] from rfl] at hor
  rcases hor with ⟨k4, _⟩ | ⟨_, rfl, k5⟩
  · exact absurd hk k4
  · exact ⟨rfl, h.deed h1' rfl h4 k1 k2 k5⟩
theorem aw_add (h : AwW w0 S N WB pb ib I w) (hN : N ≤ 999990) (e : Int) (h0 : 0 ≤ e) (h1 : e < 18446744073709551616) (c : Int) (k : Int) (hk : S.addE e (c, []) = k) (hS : (if k = 0 then S.addS e (c, []) else S) = S') (hs : ∀ s r, S.rowAt e = some (s, r) → sIs s = true) :
    Calls Tryz.prog 14 #[.pointer (some ⟨WB, 0, none⟩), .int .u64 e, .agg #[.int .i64 c, .slice none 0 0]] w fun en w' => en = .returned (.int .i64 k) ∧ AwW w0 S' (N + 2) WB pb ib I w' := by
  obtain ⟨⟨d, h1', rfl, rfl, h4⟩, _⟩ := id h
  refine (wAdd_any h1' hN e h0 h1 (intsNone d w) c hs).mono ?_
  rintro en w' ⟨d', k1, k2, k3, rfl, k5⟩
  rw [hk] at k5 ⊢
  exact ⟨rfl, h.deed h1' rfl h4 k1 k2 (k5.trans hS)⟩
theorem aw_remove (h : AwW w0 S N WB pb ib I w) (hN : N ≤ 999990) (e : Int) (h0 : 0 ≤ e) (h1 : e < 18446744073709551616) (c : Int) (hk : S.removeE e c = 0) (hs : ∀ s r, S.rowAt e = some (s, r) → sIs s = true) :
    Calls Tryz.prog 15 #[.pointer (some ⟨WB, 0, none⟩), .int .u64 e, .int .i64 c] w fun en w' => en = .returned (.int .i64 0) ∧ AwW w0 (S.removeS e c) (N + 2) WB pb ib I w' := by
  obtain ⟨⟨d, h1', rfl, rfl, h4⟩, _⟩ := id h
  refine (wRemove_any h1' hN e h0 h1 c hs).mono ?_
  rintro en w' ⟨d', k1, k2, k3, rfl, k5⟩
  rw [hk] at k5 ⊢
  exact ⟨rfl, h.deed h1' rfl h4 k1 k2 (k5.trans (if_pos rfl))⟩
theorem aw_set (h : AwW w0 S N WB pb ib I w) (e : Int) (h0 : 0 ≤ e) (h1 : e < 18446744073709551616) (k : Int) (hk : S.setE e q18 = k) (hn : k ≠ 0) :
    Calls Tryz.prog 16 #[.pointer (some ⟨WB, 0, none⟩), .int .u64 e, .agg #[.int .i64 1, .slice (some ⟨ib, 0, none⟩) 1 1]] w fun en w' => en = .returned (.int .i64 k) ∧ AwW w0 S N WB pb ib I w' := by
  obtain ⟨⟨d, h1', rfl, rfl, h4⟩, _⟩ := id h
  refine (wSet_any h1' e h0 h1 (intsOne h1'.raw h.hi) 1).mono ?_
  rintro en w' ⟨d', k1, k2, k3, rfl, k5⟩
  rw [show d.S.setE e (1, [⟨false, 0, 7⟩]) = k from hk] at k5 ⊢
  exact ⟨rfl, h.deed h1' rfl h4 k1 k2 (k5.trans (if_neg hn))⟩
theorem aw_despawn (h : AwW w0 S N WB pb ib I w) (e : Int) (h0 : 0 ≤ e) (h1 : e < 18446744073709551616) (hk : S.deadE e = 0) :
    Calls Tryz.prog 13 #[.pointer (some ⟨WB, 0, none⟩), .int .u64 e] w fun en w' => en = .returned (.int .i64 0) ∧ AwW w0 (S.despawnS e) N WB pb ib I w' := by
  obtain ⟨⟨d, h1', rfl, rfl, h4⟩, _⟩ := id h
  refine (wDespawn_any h1' e h0 h1).mono ?_
  rintro en w' ⟨d', k1, k2, k3, rfl, k5⟩
  rw [hk] at k5 ⊢
  exact ⟨rfl, h.deed h1' rfl h4 k1 k2 (k5.trans (if_pos rfl))⟩
theorem aw_get (h : AwW w0 S N WB pb ib I w) (e : Int) (h0 : 0 ≤ e) (c : Int) (hk : S.getE e c = 0) (hv : S.getV e c = [⟨false, 0, 7⟩]) :
    Calls Tryz.prog 19 #[.pointer (some ⟨WB, 0, none⟩), .int .u64 e, .int .i64 c] w fun en w' => ∃ b cap cur, en = .returned (.tuple #[.slice (some ⟨b, 0, none⟩) 1 cap, .int .i64 0]) ∧ AwW w0 S N WB pb ib ((b, cur) :: I) w' ∧ cur[0]? = some (.bool false) ∧ cur[1]? = some (.int .u64 0) ∧ cur[2]? = some (.int .u64 7) := by
  obtain ⟨⟨d, h1', rfl, rfl, h4⟩, _⟩ := id h
  refine (wGet_ok h1' e h0 c hk).mono ?_
  rintro en w' ⟨va, vc, rfl, hown, _, hb⟩
  rw [hv] at hown ⊢
  have hA := h.below hb
  rcases hown.2 with ⟨_, h0'⟩ | ⟨g, cap, cur, hgv, _, hg, hc1, hc2, hc3, hc4⟩
  · cases h0'
  · cases hgv
    refine ⟨g, vc, cur, rfl, ⟨hA.ex, hA.hp, hA.hi, fun x hx => ?_⟩, ?_, ?_, ?_⟩
    · rcases List.mem_cons.1 hx with rfl | hx
      · exact hg
      · exact hA.hI x hx
    all_goals
      have hat : ∀ i v, i < 3 → ([.bool false, .int .u64 0, .int .u64 7] : List Value)[i]? = some v → cur[i]? = some v := by
        intro i v hi hv'
        have h2 : (cur.toList.take 3)[i]? = some v := by rw [show cur.toList.take 3 = _ from hc4]; exact hv'
        rw [List.getElem?_take, if_pos hi] at h2
        simpa using h2
      exact hat _ _ (by omega) rfl
end
end Go.Proofs.YthmpknlgkflhiabGreat
namespace Go.Proofs.YthmpknlgkflhiabGreat
open Go.RowKit
set_option linter.unusedVariables false
section
variable {w w' : World}
theorem values18_is (xs ys : List WI) (a : Option Addr) (l c : Nat) (a' : Option Addr) (l' c' : Nat) (w : World) (hx : IntsAt w.heap.size w a l c xs) (hy : IntsAt w.heap.size w a' l' c' ys) (r : Bool) (hr : r = true ↔ xs = ys) :
    Calls Tryz.prog 20 #[.slice a l c, .slice a' l' c'] w fun e w' => e = .returned (.bool r) ∧ ∃ m, w' = w.drewN m := by
  refine (values18_any xs ys a l c a' l' c' w hx hy).mono ?_
  rintro e w' ⟨r', rfl, h, hd⟩
  refine ⟨?_, hd⟩
  have : r' = r := Bool.eq_iff_iff.2 (h.trans hr.symm)
  rw [this]
theorem cv_take_succ {ps qs : List PW} {k : Nat} {p q : PW} (hp : ps[k]? = some p) (hq : qs[k]? = some q) (h : cv (ps.take k) = cv (qs.take k)) (h1 : p.comp = q.comp) (h2 : p.val = q.val) : cv (ps.take (k + 1)) = cv (qs.take (k + 1)) := by
  have e : ∀ (l : List PW) (x : PW), cv (l ++ [x]) = cv l ++ [(x.comp, x.val)] := fun l x => by unfold cv; rw [List.map_append]; rfl
  rw [take_snoc hp, take_snoc hq, e, e, h, h1, h2]
theorem cv_get {ps : List PW} {k : Nat} {p : PW} (hp : ps[k]? = some p) : (cv ps)[k]? = some (p.comp, p.val) := by
  unfold cv
  rw [List.getElem?_map, hp]; rfl
set_option maxRecDepth 100000 in
set_option maxHeartbeats 4000000 in
theorem same18_any (ps qs : List PW) (a : Option Addr) (l c : Nat) (a' : Option Addr) (l' c' : Nat) (w : World) (hx : PartsAt w.heap.size w a l c ps) (hy : PartsAt w.heap.size w a' l' c' qs) :
    Calls Tryz.prog 17 #[.slice a l c, .slice a' l' c'] w fun e w' => ∃ r : Bool, e = .returned (.bool r) ∧ (r = true ↔ cv ps = cv qs) ∧ Drawn w w' := by
  have hlx := hx.1
  have hly := hy.1
  have hmx : l ≤ maxLen := Nat.le_trans hx.2.1 hx.2.2.1
  have hmy : l' ≤ maxLen := Nat.le_trans hy.2.1 hy.2.2.1
  unfold maxLen at hmx hmy
  have HX := Lib.hid hx
  have HY := Lib.hid hy
  have HLX := Lib.hid hlx
  have HLY := Lib.hid hly
  clear hx hy hlx hly
  by_cases hl : l = l'
  · subst hl
    go_enter Tryz.func17, Tryz.ntmps17
    go_wp2_with fail
    go_loopw [5] (fun i wr => ∃ k : Nat, k ≤ l ∧ i = .int .i64 (k : Int) ∧ cv (ps.take k) = cv (qs.take k) ∧ Drawn w wr) (fun i _ => l - (intOf i).toNat)
    case atStart => exact ⟨0, by omega, rfl, rfl, Drawn.refl _⟩
    case round =>
      obtain ⟨k, hk, rfl, htk, hdr⟩ := hrel
      have HDR := Lib.hid hdr
      have hbr := hdr.below
      clear hdr
      by_cases hlt : k < l
      · obtain ⟨b, off, x, rfl, hB, hxk, hxi, x0, x1⟩ := HX.out.get hbr hlt
        obtain ⟨b', off', y, rfl, hB', hyk, hyi, y0, y1⟩ := HY.out.get hbr hlt
        have hv := fun (r : Bool) (hr : r = true ↔ x.val = y.val) (n : Nat) => values18_is x.val y.val x.va x.vl x.vc y.va y.vl y.vc (wr.drewN n) ((hxi.below (below_drewN (Below.refl _ _) n)).mono hbr.size) ((hyi.below (below_drewN (Below.refl _ _) n)).mono hbr.size) r hr
        have HV := Lib.hid hv
        have HXK := Lib.hid hxk
        have HYK := Lib.hid hyk
        have HTK := Lib.hid htk
        have i1 : (0 : Int) ≤ (k : Int) := by omega
        have i2 : (k : Int) < (l : Int) := by omega
        have z1 : b < wr.heap.size := by have := hbr.size; omega
        have z2 : b' < wr.heap.size := by have := hbr.size; omega
        clear hxk hyk htk hbr hxi hyi hv
        by_cases hc : x.comp = y.comp
        · have g1 : (x.comp != y.comp) = false := by simp [hc]
          have HC := Lib.hid hc
          clear hc
          by_cases hvv : x.val = y.val
          · have HVS := Lib.hid (HV.out true ⟨fun _ => hvv, fun _ => rfl⟩)
            have HE := Lib.hid hvv
            clear hvv HV
            go_wp2_with fail
            go_quiet ((go_at_call 20; exact Calls.quiet_of (HVS.out _)))
            go_wp2_with fail
            go_roundw
            case rel => exact ⟨k + 1, by omega, by go_num, cv_take_succ HXK.out HYK.out HTK.out HC.out HE.out, HDR.out.more _⟩
            case measure => simp only [intOf]; omega
          · have HVS := Lib.hid (HV.out false ⟨fun h => (by cases h), fun h => absurd h hvv⟩)
            have HE := Lib.hid hvv
            clear hvv HV
            go_wp2_with fail
            go_quiet ((go_at_call 20; exact Calls.quiet_of (HVS.out _)))
            go_wp2_with fail
            go_returns
            refine ⟨false, rfl, ⟨fun h => (by cases h), fun h => ?_⟩, HDR.out.more _⟩
            have h1 := cv_get HXK.out
            rw [h, cv_get HYK.out] at h1
            have h2 := congrArg (fun o => o.map Prod.snd) h1
            exact absurd (by simpa using h2.symm) HE.out
        · have g1 : (x.comp != y.comp) = true := by simp [hc]
          have HC := Lib.hid hc
          clear hc HV
          go_wp2_with fail
          go_quiet (fail)
          go_wp2_with fail
          go_returns
          refine ⟨false, rfl, ⟨fun h => (by cases h), fun h => ?_⟩, HDR.out.more _⟩
          have h1 := cv_get HXK.out
          rw [h, cv_get HYK.out] at h1
          have h2 := congrArg (fun o => o.map Prod.fst) h1
          exact absurd (by simpa using h2.symm) HC.out
      · obtain rfl : k = l := by omega
        have HT := Lib.hid htk
        clear htk
        go_wp2_with fail
        go_returns
        refine ⟨true, rfl, ⟨fun _ => ?_, fun _ => rfl⟩, HDR.out⟩
        have h := HT.out
        rw [List.take_of_length_le (by have := HLX.out; omega), List.take_of_length_le (by have := HLY.out; omega)] at h
        exact h
  · have hl2 : ((l : Int) != (l' : Int)) = true := by rw [bne_iff_ne]; omega
    go_enter Tryz.func17, Tryz.ntmps17
    go_wp2_with fail
    go_returns
    refine ⟨false, rfl, ⟨fun h => (by cases h), fun h => absurd ?_ hl⟩, Drawn.refl _⟩
    have h1 := congrArg List.length h
    unfold cv at h1
    rw [List.length_map, List.length_map] at h1
    rw [← HLX.out, ← HLY.out, h1]
theorem same18_is (ps qs : List PW) (a : Option Addr) (l c : Nat) (a' : Option Addr) (l' c' : Nat) (w : World) (hx : PartsAt w.heap.size w a l c ps) (hy : PartsAt w.heap.size w a' l' c' qs) (r : Bool) (hr : r = true ↔ cv ps = cv qs) :
    Calls Tryz.prog 17 #[.slice a l c, .slice a' l' c'] w fun e w' => e = .returned (.bool r) ∧ Drawn w w' := by
  refine (same18_any ps qs a l c a' l' c' w hx hy).mono ?_
  rintro e w' ⟨r', rfl, h, hd⟩
  refine ⟨?_, hd⟩
  have : r' = r := Bool.eq_iff_iff.2 (h.trans hr.symm)
  rw [this]
end
end Go.Proofs.YthmpknlgkflhiabGreat
