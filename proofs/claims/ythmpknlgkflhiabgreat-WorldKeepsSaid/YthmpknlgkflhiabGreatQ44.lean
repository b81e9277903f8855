/- slices.Equal of handles; a world's isAll. · A world's Heir: plain parts. · The worlds' laws' awake, told. · A world's Place: who is awaited has a row. · A world's Heir, of no tables ahead. -/
import Derived.Test.YthmpknlgkflhiabGreatQ43
import Derived.Test.YthmpknlgkflhiabGreatQ42
import Derived.StillTailTactics
namespace Go.Proofs.YthmpknlgkflhiabGreat
open Go.RowKit
set_option linter.unusedVariables false
section
variable {w w' : World} {d : WD} {L : List Int} {N n : Nat}
set_option maxRecDepth 100000 in
theorem entsEqual_any (xs ys : List Int) (a : Option Addr) (l c : Nat) (a' : Option Addr) (l' c' : Nat) (w : World) (hx : ERow w a l xs) (hy : ERow w a' l' ys) :
  Calls Tryz.prog 100 #[.slice a l c, .slice a' l' c'] w fun e w' => ∃ r : Bool, e = .returned (.bool r) ∧ (r = true ↔ xs = ys) ∧ Below w.heap.size w w' := by
 have hlx := hx.1
 have hly := hy.1
 have hmx : l ≤ 100000 := hx.2.1
 have hmy : l' ≤ 100000 := hy.2.1
 have HX := Lib.hid hx
 have HY := Lib.hid hy
 have HLX := Lib.hid hlx
 have HLY := Lib.hid hly
 clear hx hy hlx hly
 by_cases hl : l = l'
 ·subst hl
  go_enter Tryz.func100, Tryz.ntmps100
  go_wp2_with fail
  go_loopw [13] (fun i wr => ∃ k : Nat, k ≤ l ∧ i = .int .i64 (k : Int) ∧ xs.take k = ys.take k ∧ Below w.heap.size w wr) (fun i _ => l - (intOf i).toNat)
  case atStart => exact ⟨0, by omega, rfl, rfl, Below.refl _ _⟩
  case round =>
   obtain ⟨k, hk, rfl, htk, hbr⟩ := hrel
   by_cases hlt : k < l
   ·obtain ⟨b, off, x, rfl, hB, hxk, x0⟩ := (HX.out.below hbr).get hlt
    obtain ⟨b', off', y, rfl, hB', hyk, y0⟩ := (HY.out.below hbr).get hlt
    have HXK := Lib.hid hxk
    have HYK := Lib.hid hyk
    have HTK := Lib.hid htk
    have HBR := Lib.hid hbr
    have i1 : (0 : Int) ≤ (k : Int) := by omega
    have i2 : (k : Int) < (l : Int) := by omega
    clear hxk hyk htk hbr
    by_cases hxy : x = y
    ·have h1 : (x != y) = false := by simp [hxy]
     have HE := Lib.hid hxy
     clear hxy
     go_wp2_with fail
     go_quiet (fail)
     go_wp2_with fail
     go_roundw
     case rel => exact ⟨k + 1, by omega, by go_num, take_eq_succ HXK.out HYK.out HTK.out HE.out, below_drewN HBR.out _⟩
     case measure => simp only [intOf]; omega
    ·have h1 : (x != y) = true := by simp [hxy]
     have HE := Lib.hid hxy
     clear hxy
     go_wp2_with fail
     go_quiet (fail)
     go_wp2_with fail
     go_returns
     refine ⟨false, rfl, ⟨fun h => (by cases h), fun h => ?_⟩, below_drewN HBR.out _⟩
     have h1 := HXK.out
     rw [h, HYK.out] at h1
     cases h1
     exact absurd rfl HE.out
   ·obtain rfl : k = l := by omega
    have HT := Lib.hid htk
    clear htk
    go_wp2_with fail
    go_returns
    refine ⟨true, rfl, ⟨fun _ => ?_, fun _ => rfl⟩, hbr⟩
    have h := HT.out
    rw [List.take_of_length_le (by have := HLX.out; omega), List.take_of_length_le (by have := HLY.out; omega)] at h
    exact h
 ·have hl2 : ((l : Int) != (l' : Int)) = true := by rw [bne_iff_ne]; omega
  go_enter Tryz.func100, Tryz.ntmps100
  go_wp2_with fail
  go_returns
  exact ⟨false, rfl, ⟨fun h => (by cases h), fun h => absurd (by rw [← HLX.out, ← HLY.out, h]) hl⟩, Below.refl _ _⟩
set_option maxRecDepth 100000 in
set_option maxHeartbeats 2000000 in
theorem wIsAll_any (h : WIn w d N) (l : List (Int × Int)) (a : Option Addr) (len cap : Nat) (hl : AwaitsAt w.heap.size w a len l) (hlen : len ≤ 100000)
  (hsort : ∀ (va : Option Addr) (vc : Nat) (fv : Value) (W : World), W.ownsRow w.heap.size 38 1 (.slice va len vc) len ((l.map (·.1)).map (.int .u64)) → Below w.heap.size w W → Calls Tryz.prog 98 #[.slice va len vc, fv] W fun e w' => e = .returned (.tuple #[]) ∧ W = w') :
  Calls Tryz.prog 60 #[.pointer (some ⟨d.wb, 0, none⟩), .slice a len cap] w fun e w' => ∃ r : Bool, e = .returned (.bool r) ∧ (r = true ↔ l.map (·.1) = d.x.ix.liveL) ∧ Below w.heap.size w w' := by
 obtain ⟨i0, hi, hz0, hz1, hz2⟩ := info_parts Tryz.infoE
 have hll := hl.1
 have HL := Lib.hid hl
 have HLL := Lib.hid hll
 have HLIVE := Lib.hid (fun (W : World) (hb : Below w.heap.size w W) => wLive_any (h.below hb))
 have HLN : Hid (d.x.ix.liveL.length ≤ 257) := Lib.hid (by have := WMid.lbd h; omega)
 have HS := Lib.hid hsort
 clear h hl hll hsort
 go_enter Tryz.func60, Tryz.ntmps60
 go_wp2_with fail
 go_loopw [5, 10] (fun v i wr => ∃ (k : Nat) (va : Option Addr) (vc : Nat), k ≤ len ∧ i = .int .i64 k ∧ v = .slice va k vc ∧ wr.ownsRow w.heap.size 38 1 (.slice va k vc) k (((l.take k).map (·.1)).map (.int .u64)) ∧ Below w.heap.size w wr)
  (fun _ i _ => len - (intOf i).toNat)
 case atStart => exact ⟨0, none, 0, Nat.zero_le _, rfl, rfl, World.ownsRow_nil _ _ _ _, Below.refl _ _⟩
 case round =>
  obtain ⟨k, va, vc, hk, rfl, rfl, hown, hbw⟩ := hrel
  have hzr := hbw.size
  by_cases hlt : k < len
  ·obtain ⟨b, off, e, s, rfl, hB, hlk, d0, d1⟩ := (HL.out.below hbw).get hlt
   have i0' : (0 : Int) ≤ (k : Int) := by omega
   have i1 : (k : Int) < (len : Int) := by omega
   have HTK := Lib.hid (take_snoc hlk)
   have HO := Lib.hid hown
   have hbA := hbw.alloc hzr (.cells #[.int .u64 e, .int .u32 s] 74)
   have a0 : (wr.alloc (.cells #[.int .u64 e, .int .u32 s] 74)).cell? ⟨wr.heap.size, 0, none⟩ = some (.int .u64 e) := by rw [cell_at (heap_alloc_new wr _)]; rfl
   have HBA := Lib.hid hbA
   clear hlk hown hbA
   have hnew := cell_one_new (wr.alloc (.cells #[.int .u64 e, .int .u32 s] 74)) (.int .u64 e) 38
   rw [World.size_alloc] at hnew
   have HNW := Lib.hid hnew
   clear hnew
   have hownA := (HO.out.alloc (.cells #[.int .u64 e, .int .u32 s] 74)).alloc (.cells #[.int .u64 e] 38)
   go_wp2_with (at_builtin; refine wpList_append_own _ rfl (.tmp 14) (.tmp 17) 33 rfl w.heap.size 38 i0 (.int .u64 0) 1 8 Tryz.underlying33 hi hz0 hz1 hz2 rfl (by decide) (.slice va k vc) k (((l.take k).map (·.1)).map (.int .u64)) rfl hownA ⟨wr.heap.size + 1, 0, none⟩ 1 1 [.int .u64 e] rfl rfl HNW.out (ints_oneCell .u64 [e]) (by unfold maxLen; omega) (by omega) (by simp; omega) ?_)
   intro v' w2 hown2 hg2 _
   obtain ⟨va', vc', hv'⟩ := ownsRow_slice hown2
   rw [hv'] at hown2 ⊢
   clear hv'
   have hrow : ∀ x, (Value.slice va k vc).ownBlock = some x → w.heap.size ≤ x := fun x hx => (HO.out.lt x hx).1
   have hbel : Below w.heap.size w w2 := (HBA.out.alloc HBA.out.size _).grown hg2 (by simp; omega) hrow
   have HO2 := Lib.hid hown2
   clear hown2 hownA hg2 hrow HO
   go_wp2_with fail
   go_roundw
   case rel => exact ⟨k + 1, va', vc', by omega, by go_num, rfl, by rw [HTK.out]; simpa using HO2.out, hbel⟩
   case measure => simp [intOf]; omega
  ·obtain rfl : k = len := by omega
   rw [List.take_of_length_le (by rw [HLL.out]; exact Nat.le_refl _)] at hown
   have HO := Lib.hid hown
   have HB := Lib.hid hbw
   clear hown hbw
   go_wp2_with fail
   refine (HS.out _ _ _ _ HO.out HB.out).mono ?_
   rintro e w1 ⟨rfl, rfl⟩
   go_wp2_with fail
   refine (HLIVE.out _ HB.out).mono ?_
   rintro e w1 ⟨va', vc', rfl, hown', hb1⟩
   have HE := Lib.hid (entsEqual_any (l.map (·.1)) d.x.ix.liveL va k vc va' d.x.ix.liveL.length vc' w1 ((ERow.of HO.out (by simp [HLL.out]) hlen).below hb1) (ERow.of hown' rfl (by have := HLN.out; omega)))
   have HB1 := Lib.hid (HB.out.trans (hb1.mono HB.out.size))
   clear hown' hb1
   go_wp2_with fail
   refine HE.out.mono ?_
   rintro e w2 ⟨r, rfl, hr, hb2⟩
   have HR := Lib.hid hr
   have HB2 := Lib.hid (HB1.out.trans (hb2.mono HB1.out.size))
   clear hr hb2
   go_wp2_with fail
   go_returns
   exact ⟨r, rfl, HR.out, HB2.out⟩
end
end Go.Proofs.YthmpknlgkflhiabGreat
namespace Go.Proofs.YthmpknlgkflhiabGreat
open Go.RowKit
set_option linter.unusedVariables false
def awaitAll (S : WS) : List (Int × Int) → Int × WS
 | [] => (0, S)
 | x :: r => if S.openE x.2 = 0 then awaitAll (S.awaitS x.1 x.2) r else (S.openE x.2, S)
theorem AwaitsAt.mono {B C : Nat} {w : World} {a : Option Addr} {len : Nat} {l : List (Int × Int)} (h : AwaitsAt B w a len l) (hb : B ≤ C) : AwaitsAt C w a len l := by
 obtain ⟨h1, h2, h3⟩ := h
 refine ⟨h1, h2, h3.imp id ?_⟩
 rintro ⟨b, off, ha, hB, hc⟩
 exact ⟨b, off, ha, Nat.lt_of_lt_of_le hB hb, hc⟩
section
variable {w w' : World} {d : WD} {L L' : List Int} {N n : Nat}
theorem WMid.perm (h : WMid w d L N) (hp : L.Perm L') : WMid w d L' N := by
 refine { h with raw := by rw [← hp.length_eq]; exact h.raw, ok := ⟨hp.nodup h.ok.nd, fun e => (h.ok.dom e).trans hp.mem_iff, h.ok.row, h.ok.tab, fun i t ht => (h.ok.kept i t ht).trans (hp.countP_eq _), h.ok.len, h.ok.sets⟩, lbd := by rw [← hp.length_eq]; exact h.lbd }
theorem WMid.counts (h : WMid w d L N) (hx : d.x.ix.Ok) (hs : ∀ e ∈ L, e ∈ d.x.ix.liveL) : Counts d L := by
 intro s
 show d.x.ix.liveL.countP (hasSet d.P s) = L.countP (hasSet d.P s)
 rw [List.countP_eq_length_filter, List.countP_eq_length_filter]
 refine nd_len (hx.liveL_nd.filter _) (h.ok.nd.filter _) fun e => ?_
 rw [List.mem_filter, List.mem_filter]
 constructor
 ·rintro ⟨_, h2⟩
  refine ⟨Classical.byContradiction fun he => ?_, h2⟩
  unfold hasSet at h2
  rw [who_none (h.ok.noPl he)] at h2
  cases h2
 ·rintro ⟨h1, h2⟩
  exact ⟨hs e h1, h2⟩
theorem WMid.setIx (h : WMid w d L N) {x : XD} (hx : XIn w x) (hm : x.ix.most = d.x.ix.most) (hl : x.ix.gens.length = d.x.ix.gens.length) : WMid (w.setCell ⟨d.wb, 6, none⟩ (.pointer (some ⟨x.xb, 0, none⟩))) { d with x := x } L N := by
 have hb := hset w d.wb 6 (.pointer (some ⟨x.xb, 0, none⟩)) _ _ _ h.raw.blk
 simp at hb
 have ho : Out (fun b => b = d.wb) w (w.setCell ⟨d.wb, 6, none⟩ (.pointer (some ⟨x.xb, 0, none⟩))) := Out.only (Only.at w d.wb 6 _) rfl
 have hM : ∀ b, b = d.wb → Mut w b := fun b hb => by subst hb; exact h.raw.wb_k.mut (by decide)
 have hT := h.raw.tabs.out ho (fun b hb t ht hf => by subst hb; exact h.raw.wb_t ht hf) hM
 refine { h with
  raw := { h.raw with
   blk := hb
   ix := hx.out ho (fun b hb e => by subst e; exact (hx.kin hb).ne h.raw.wb_k (by decide))
   gr := h.raw.gr.outM ho (fun b hb e => by subst e; exact h.raw.wb_g hb) hM hT.sigAt
   tabs := hT
   atm := h.raw.atm.out ho (fun e => h.raw.wb_ab e.symm) }
  gens := hm.trans h.gens
  ents := by show (x.ix.gens.length : Int) = _; rw [hl]; exact h.ents }
structure Fresh (w0 : World) (d : WD) (w : World) : Prop where
 bel : Below w0.heap.size w0 w
 foot : ∀ b, d.foot b → w0.heap.size ≤ b
theorem Fresh.go {w0 : World} {d' : WD} (h : Fresh w0 d w) (hf : WFr d d' w w') : Fresh w0 d' w' := ⟨h.bel.trans (hf.out.below h.foot h.bel.size), fun b hb => (hf.foot b hb).elim (h.foot b) (fun h' => Nat.le_trans h.bel.size h')⟩
theorem Fresh.below {w0 : World} (h : Fresh w0 d w) (hb : Below w.heap.size w w') : Fresh w0 d w' := h.go (WFr.of_below hb)
end
end Go.Proofs.YthmpknlgkflhiabGreat
namespace Go.Proofs.YthmpknlgkflhiabGreat
open Go.RowKit
set_option linter.unusedVariables false
def h18 : Int := 4294967297
def g18 : Int := 8589934593
def q18 : Int × List WI := (1, [⟨false, 0, 7⟩])
def A0 : WS := WS0 caps18 1 cs18 2
def A1 : WS := A0.spawnS [q18]
def A2 : WS := A1.addS h18 (2, [])
def A3 : WS := A2.removeS h18 1
def A4 : WS := A3.despawnS h18
def A5 : WS := A4.spawnS []
theorem a_spawn : A0.spawnE [q18] = 0 := by kernel_rfl
theorem a_hand : A0.spawnH = h18 := by kernel_rfl
theorem a_add : A1.addE h18 (2, []) = 0 := by kernel_rfl
theorem a_row1 : A1.rowAt h18 = some (2, [[⟨false, 0, 7⟩]]) := by kernel_rfl
theorem a_add2 : A2.addE h18 (2, []) = 7 := by kernel_rfl
theorem a_row2 : A2.rowAt h18 = some (6, [[⟨false, 0, 7⟩], []]) := by kernel_rfl
theorem a_get : A2.getE h18 1 = 0 := by kernel_rfl
theorem a_getv : A2.getV h18 1 = [⟨false, 0, 7⟩] := by kernel_rfl
theorem a_sig : A2.sigV h18 = 6 := by kernel_rfl
theorem a_remove : A2.removeE h18 1 = 0 := by kernel_rfl
theorem a_set : A3.setE h18 q18 = 6 := by kernel_rfl
theorem a_dead : A3.deadE h18 = 0 := by kernel_rfl
theorem a_spawn2 : A4.spawnE [] = 0 := by kernel_rfl
theorem a_hand2 : A4.spawnH = g18 := by kernel_rfl
theorem a_live : A5.ix.liveL = [g18] := by kernel_rfl
theorem a_sets : A5.sets.length = 4 := by kernel_rfl
def B0 : WS := ⟨caps18, 1, cs18, A5.ix, [], fun _ => none⟩
def B1 : WS := B0.awaitS g18 2
theorem b_await : B0.openE 2 = 0 := by kernel_rfl
theorem b_all : awaitAll B0 [(g18, 2)] = (0, B1) := by
 unfold awaitAll
 rw [if_pos b_await]
 rfl
theorem sIs2 : sIs 2 = true := by kernel_rfl
theorem sIs6 : sIs 6 = true := by kernel_rfl
end Go.Proofs.YthmpknlgkflhiabGreat
namespace Go.Proofs.YthmpknlgkflhiabGreat
open Go.RowKit
set_option linter.unusedVariables false
def WS.placeS (S : WS) (e s : Int) (l : List (Int × List WI)) : WS := { S with who := updW S.who e (some ⟨s, some (rowOfC l s)⟩) }
section
variable {w w' w1 : World} {d : WD} {L L' : List Int} {N n : Nat} {pa : Option Addr} {pl pc : Nat} {ps : List PW}
def PS.place (P : PS) (i : Nat) (t : PT) (e : Int) (v : List (List WI)) : PS := ⟨P.tabs.set i { t with kept := t.kept - 1, ents := t.ents ++ [e], vals := t.vals ++ [v] }, updP P.pl e (some ⟨i, some t.ents.length⟩)⟩
theorem PS.Ok.place {P : PS} (h : P.Ok L) {i : Nat} {t : PT} (ht : P.tabs[i]? = some t) {e : Int} (hp : P.pl e = some ⟨i, none⟩) (he : e ∈ L) (v : List (List WI)) : (P.place i t e v).Ok L ∧ ∀ x, (P.place i t e v).who x = if x = e then some ⟨t.set, some v⟩ else P.who x := by
 have hperm := List.perm_cons_erase he
 obtain ⟨hy, _⟩ := h.yield ht hp hperm
 have hn : e ∉ L.erase e := fun hm => (List.nodup_cons.1 (hperm.nodup h.nd)).1 hm
 have ht2 : (P.yield i t e).tabs[i]? = some { t with kept := t.kept - 1 } := set_same ht
 have heq : P.place i t e v = (P.yield i t e).add i { t with kept := t.kept - 1 } e v := by
  unfold PS.place PS.add PS.yield
  simp only [updP_back, List.set_set]
 rw [heq]
 refine ⟨hy.add ht2 hn hperm v, fun x => ?_⟩
 rw [hy.add_who ht2 (e := e) v x]
 split
 ·rfl
 ·rename_i hx
  rw [h.yield_who ht x, if_neg hx]
set_option maxRecDepth 100000 in
set_option maxHeartbeats 8000000 in
theorem wPlace_ok (h : WIn w d N) (e : Int) (he : e ∈ d.x.ix.liveL) {i : Nat} (hpl : d.pl e = some ⟨i, none⟩) {t : TD} (ht : d.T[i]? = some t) (hp : PartsIn d w pa pl pc ps) (hpo : PartsOk d.g.cs ps) (hset : foldS (comps ps) = t.set) : Calls Tryz.prog 26 #[.pointer (some ⟨d.wb, 0, none⟩), .int .u64 e, .slice pa pl pc] w (IsDeed d 0 (d.S.placeS e t.set (cv ps)) N w) := by
 obtain ⟨h0, h1⟩ := h.bd he
 have hc := wLives_any h e h0 h1
 rw [h.live0 he] at hc
 have HC := Lib.hid hc
 have HW := Lib.hid (fun (W : World) (hb : Below w.heap.size w W) => wAwaited_any (h.below hb).raw e h0 h1 hpl)
 have H := Lib.hid h
 have HP := Lib.hid hpl
 have HTM := Lib.hid ht
 have HE := Lib.hid he
 have HPP := Lib.hid hp
 have HPO := Lib.hid hpo
 have HSET := Lib.hid hset
 have HE0 : Hid (e ≠ 0) := Lib.hid (by have := h.hands e he; omega)
 clear h hc he hpl ht hp hpo hset
 go_enter Tryz.func26, Tryz.ntmps26
 go_wp2_with fail
 refine HC.out.mono ?_
 rintro en w1 ⟨rfl, hb⟩
 go_wp2_with fail
 refine (HW.out _ hb).mono ?_
 rintro en w2 ⟨rfl, rfl⟩
 have h2 := H.out.below hb
 obtain ⟨_, c7, c8⟩ := h2.raw.cells
 have HL := Lib.hid (fun (m : Nat) => (h2.raw.atm.out (F := fun _ => False) (Out.of (below_drewN (Below.refl _ w1) m)) id).look h0 h1)
 have hv : atV d.pl e = .agg #[.int .i64 (i : Int), .int .i64 (-1)] := by unfold atV; rw [HP.out]; rfl
 have hl := fun m => HL.out m
 rw [hv] at hl
 have hfd := field_pl0
 have htab := fun m => table_any 0 d.gb d.g (i : Int) (w1.drewN m) (h2.below (below_drewN (Below.refl _ _) m)).raw.gr
 rw [WMid.ptr h2 HTM.out] at htab
 have HTAB := Lib.hid htab
 have hl0 := hl 0
 have HB := Lib.hid hb
 have H2 := Lib.hid h2
 clear h2 hv htab hb
 go_wp2_with fail
 go_quiet ((go_at_call 41; exact quiet_sm (HTAB.out _)))
 have hb3 := below_drewN (Below.refl w1.heap.size w1) nq
 have HB3 := Lib.hid hb3
 have h3 := H2.out.below hb3
 generalize w1.drewN nq = w3 at HB3 h3 ⊢
 obtain ⟨v, hv, hV, hpt⟩ := WMid.tabv h3 HTM.out
 obtain ⟨_, hk0⟩ := h3.ok.yield hpt HP.out (List.perm_cons_erase HE.out)
 have hY := tabYield_deed (WMid.tab h3 HTM.out) hV hk0
 have HY := Lib.hid hY
 have H3 := Lib.hid h3
 have HV := Lib.hid (And.intro hv hV)
 have HPT := Lib.hid hpt
 have HKZ := Lib.hid hk0
 clear hb3 h3 hv hV hpt hk0 hY hl hl0 c7 c8 HL HTAB
 go_wp2_with fail
 refine HY.out.mono ?_
 rintro en w4 ⟨rfl, t1, hd1, e1, e2, e3, hV1⟩
 obtain ⟨k1, k2⟩ := H3.out.raw.tdeed (i := i) (t := t) HTM.out hd1 hV1
 have hT1 : ({ d with T := d.T.set i t1, V := d.V.set i v } : WD).T[i]? = some t1 := set_same HTM.out
 have hv1 : ({ d with T := d.T.set i t1, V := d.V.set i v } : WD).V[i]? = some v := set_same HV.out.1
 have htin := k1.tabs.tab t1 (List.mem_of_getElem? hT1)
 obtain ⟨hmost, hlike⟩ := WMid.like H3.out HTM.out
 have hcs1 : t1.cs = t.cs := by unfold TD.cs; rw [e3]
 have hset1 : t1.set = t.set := hd1.set
 have hlike1 : (idsTo t1.set 24).map (findC · d.g.cs) = t1.cs.map some := by rw [hset1, hcs1]; exact hlike
 have hfree1 : t1.free ≠ 0 := by
  have hr := (WMid.tab H3.out HTM.out).room
  unfold TD.free
  rw [e1, e2, hd1.most]
  have := HKZ.out
  have hkk : (PTof t v).kept = t.kept := rfl
  omega
 have herr := HPO.out.addErr (e := e) (hset1.trans HSET.out.symm) hlike1 HE0.out hfree1
 have hpin := ((HPP.out.below HB.out).below HB3.out).go k2
 have hfit := HPO.out.hfit htin (hset1.trans HSET.out.symm) hlike1 hpin.wf
 have hadd := tabAdd_deed htin hV1 e ps pa pl pc (fun w' ho => hpin.at_ w' (ho.mono (fun b hb => .inl (.inr (.inr (.inr (.inr ⟨t1, List.mem_of_getElem? hT1, TabIn.cfoot_foot hb⟩))))))) hpin.len herr hfit
 rw [hd1.tb] at hadd
 have HADD := Lib.hid hadd
 have HK1 := Lib.hid (And.intro k1 k2)
 have HT1 := Lib.hid (And.intro hT1 hv1)
 have HE1 := Lib.hid (And.intro e1 (And.intro e2 hset1))
 have HROW := Lib.hid (addRow_vals htin.ids ps)
 clear hd1 e1 e2 e3 hV1 k1 k2 hT1 hv1 htin hmost hlike hcs1 hset1 hlike1 hfree1 herr hpin hfit hadd
 go_wp2_with fail
 refine HADD.out.mono ?_
 rintro en w5 ⟨rfl, t2, hd2, f1, f2, f3, hV2⟩
 obtain ⟨k3, k4⟩ := HK1.out.1.tdeed (i := i) (t := t1) HT1.out.1 hd2 hV2
 have k5 := k3.below ((Below.refl _ w5).drew)
 obtain ⟨_, c7, c8⟩ := k3.cells
 replace c8 : w5.cell? ⟨d.wb, 8, none⟩ = some (.map (some d.ab)) := c8
 have hlk := k5.atm.look h0 h1
 rw [show atV _ e = .agg #[.int .i64 (i : Int), .int .i64 (-1)] by show atV d.pl e = _; unfold atV; rw [HP.out]; rfl] at hlk
 replace hlk : (Instr.lookup 86 (.map (some d.ab)) (.int .u64 e) false).run Tryz.prog w5.drew = .ok (.agg #[.int .i64 (i : Int), .int .i64 (-1)]) w5.drew := hlk
 obtain ⟨w6, hput, hr6, hf6⟩ := putRun k5 (by have := WMid.lbd H.out; omega) e h0 h1 ⟨i, some t1.ents.length⟩
 replace hput : (Instr.mapUpdate 86 (.map (some d.ab)) (.int .u64 e) (.agg #[.int .i64 (i : Int), .int .i64 (t1.ents.length : Int)])).run Tryz.prog w5.drew = .ok () w6 := hput
 rw [if_pos (by show (d.pl e).isSome = true; rw [HP.out]; rfl)] at hr6
 have HFIN : Hid (IsDeed d 0 (d.S.placeS e t.set (cv ps)) N w (.returned (.int .i64 0)) w6) := Lib.hid (by
  have hP : ∀ q, WD.P { d with T := (d.T.set i t1).set i t2, V := (d.V.set i v).set i (v ++ [addRow ps t1]), pl := q } = ⟨d.P.tabs.set i { PTof t v with kept := t.kept - 1, ents := t.ents ++ [e], vals := v ++ [addRow ps t1] }, q⟩ := fun q => by
   show (⟨List.zipWith PTof ((d.T.set i t1).set i t2) ((d.V.set i v).set i (v ++ [addRow ps t1])), q⟩ : PS) = _
   rw [zip_set, zip_set, List.set_set]
   unfold PTof
   rw [hd2.set, f1, f2, HE1.out.1, HE1.out.2.1, HE1.out.2.2]
   rfl
  have hlen1 : t1.ents.length = t.ents.length := by rw [HE1.out.1]
  have hPe := hP (updP d.pl e (some ⟨i, some t1.ents.length⟩))
  have hPl : WD.P { d with T := (d.T.set i t1).set i t2, V := (d.V.set i v).set i (v ++ [addRow ps t1]), pl := updP d.pl e (some ⟨i, some t1.ents.length⟩) } = d.P.place i (PTof t v) e (addRow ps t1) := by
   rw [hPe, hlen1]; rfl
  obtain ⟨hok, hwho⟩ := PS.Ok.place H.out.ok HPT.out HP.out HE.out (addRow ps t1)
  refine ⟨_, H.out.fin hr6 (by rw [show WD.P _ = _ from hPl]; exact hok) rfl rfl rfl (by exact WMid.lbd H.out), ((((WFr.of_below HB.out).trans (WFr.of_below HB3.out)).trans HK1.out.2).trans k4).trans ((WFr.of_below ((Below.refl _ w5).drew)).trans hf6), rfl, rfl, ?_⟩
  rw [if_pos rfl]
  show WS.mk d.caps d.g.ver d.g.cs d.x.ix d.g.sigs (WD.P _).who = _
  rw [show WD.P _ = _ from hPl, updW_fun hwho, HROW.out, valsOf_cv, HE1.out.2.2]
  rfl)
 clear hd2 f1 f2 f3 hV2 k3 k4 k5 hr6 hf6 c7 HADD HK1 HT1
 go_wp2_with fail
 go_still_tail 14, (by kernel_rfl)
 change wpList _ _ _ _ _ w5.drew
 go_wp2_with fail
 go_returns
 exact HFIN.out
end
end Go.Proofs.YthmpknlgkflhiabGreat
namespace Go.Proofs.YthmpknlgkflhiabGreat
open Go.RowKit
set_option linter.unusedVariables false
section
variable {w w' : World} {d : WD} {L L' : List Int} {N n : Nat}
def heir0 (S : WS) (ver : Int) (cs : List Cmp) : WS := ⟨S.caps, ver, cs, S.ix, [], fun _ => none⟩
def IsHeir (S : WS) (ver : Int) (cs : List Cmp) (l : List (Int × Int)) (w : World) (e : Ending) (w' : World) : Prop :=
 Below w.heap.size w w' ∧ (((awaitAll (heir0 S ver cs) l).1 ≠ 0 ∧ e = .returned (.tuple #[.pointer none, .int .i64 (awaitAll (heir0 S ver cs) l).1])) ∨
  ((awaitAll (heir0 S ver cs) l).1 = 0 ∧ ∃ d', e = .returned (.tuple #[.pointer (some ⟨d'.wb, 0, none⟩), .int .i64 0]) ∧ WIn w' d' 0 ∧ d'.S = (awaitAll (heir0 S ver cs) l).2 ∧ ∀ b, d'.foot b → w.heap.size ≤ b))
structure HeirR (w0 : World) (S : WS) (ver : Int) (cs : List Cmp) (l : List (Int × Int)) (hb : Nat) (k : Nat) (d : WD) (w : World) : Prop where
 mid : WMid w d ((l.take k).map (·.1)).reverse 0
 fresh : Fresh w0 d w
 ix : d.x.ix = S.ix
 wb : d.wb = hb
 all : awaitAll (heir0 S ver cs) l = awaitAll d.S (l.drop k)
set_option maxRecDepth 100000 in
set_option maxHeartbeats 8000000 in
theorem wHeir_any (h : WIn w d N) (ver : Int) (cs : List Cmp) (a : Option Addr) (len cap : Nat) (hcs : CompsAt w.heap.size w a len cs) (hw : CompsWf cs) (hl : len ≤ 100000) (hf : ∀ c ∈ cs, c.fields.length ≤ 100000) (hna : a = none → len = 0 ∧ cap = 0) (hs : schemaCheck ver cs = 0)
  (l : List (Int × Int)) (a2 : Option Addr) (len2 cap2 : Nat) (hA : AwaitsAt w.heap.size w a2 len2 l) (hlist : l.map (·.1) = d.x.ix.liveL) (hset : ∀ x ∈ l, 0 ≤ x.2 ∧ x.2 ≤ 4294967295)
  (hsort : ∀ (va : Option Addr) (vc : Nat) (fv : Value) (B : Nat) (W : World), W.ownsRow B 38 1 (.slice va len2 vc) len2 ((l.map (·.1)).map (.int .u64)) → Calls Tryz.prog 98 #[.slice va len2 vc, fv] W fun e w' => e = .returned (.tuple #[]) ∧ W = w') :
  Calls Tryz.prog 25 #[.pointer (some ⟨d.wb, 0, none⟩), .agg #[.int .i64 ver, .slice a len cap], .slice none 0 0, .slice a2 len2 cap2] w (IsHeir d.S ver cs l w) := by
 have hl2 : len2 ≤ 257 := by
  have h1 := WMid.lbd h
  rw [← hlist, List.length_map, hA.1] at h1
  exact h1
 have hb0 : Below w.heap.size w (w.alloc (.cells #[.int .i64 ver, .slice a len cap] 24)) := by go_grown
 have hk0 := heap_alloc_new w (.cells #[.int .i64 ver, .slice a len cap] 24)
 have hsc := fun (W : World) (hb : Below w.heap.size w W) => schemaCheck_any ver cs a len cap W ((hcs.below hb).mono hb.size) hw
 rw [hs] at hsc
 obtain ⟨nE, hnE⟩ : ∃ nE : Nat, d.caps.ents = (nE : Int) := ⟨d.caps.ents.toNat, by have := (WMid.caps h).ents; omega⟩
 have HALL := Lib.hid (fun (W : World) (hb : Below w.heap.size w W) => wIsAll_any (h.below hb) l a2 len2 cap2 ((hA.below hb).mono hb.size) (by omega) fun va vc fv W' ho _ => hsort va vc fv _ W' ho)
 have HSC := Lib.hid hsc
 have HNEW := Lib.hid (fun (W : World) (hb : Below w.heap.size w W) => wNew_any d.caps (WMid.caps h) ver cs a len cap nE hnE W ((hcs.below hb).mono hb.size) hw hl hf hna hs)
 have HCL := Lib.hid (fun (W : World) (hb : Below w.heap.size w W) => xClone_any d.x W (h.below hb).raw.ix)
 have H := Lib.hid h
 have HA := Lib.hid hA
 have HLI := Lib.hid hlist
 have HSET := Lib.hid hset
 have HB0 := Lib.hid hb0
 have HK0 := Lib.hid hk0
 have HNE := Lib.hid hnE
 have HCAPS := Lib.hid h.raw.blk
 clear h hcs hw hl hf hna hs hA hlist hset hsort hb0 hk0 hsc hnE
 go_enter Tryz.func25, Tryz.ntmps25
 go_wp2_with fail
 refine (HSC.out _ HB0.out).mono ?_
 rintro e w1 ⟨rfl, hb1⟩
 have HB1 := Lib.hid (HB0.out.trans (hb1.mono HB0.out.size))
 have HK1 := Lib.hid (keep hb1 HK0.out)
 clear hb1
 go_wp2_with fail
 refine (HALL.out _ HB1.out).mono ?_
 rintro e w2 ⟨r, rfl, hr, hb2⟩
 obtain rfl : r = true := hr.2 HLI.out
 have HB2 := Lib.hid (HB1.out.trans (hb2.mono HB1.out.size))
 have hk2 := keep hb2 HK1.out
 have u0 := cell_at hk2 0
 have u1 := cell_at hk2 1
 have hc2 := keep HB2.out HCAPS.out
 have y0 := cell_at hc2 0
 have y1 := cell_at hc2 1
 have y2 := cell_at hc2 2
 have y3 := cell_at hc2 3
 have y4 := cell_at hc2 4
 have y5 := cell_at hc2 5
 simp at u0 u1 y0 y1 y2 y3 y4 y5
 clear hr hb2 hk2 hc2
 go_wp2_with fail
 go_still_tail 5, (by kernel_rfl)
 change wpList _ _ _ _ _ w2.drew
 go_wp2_with fail
 refine (HNEW.out _ HB2.out.drew).mono ?_
 rintro e w3 ⟨d3, rfl, hw3, hS3, hf3, hb3⟩
 have HB3 := Lib.hid (HB2.out.drew.trans (hb3.mono HB2.out.drew.size))
 have hd3 := H.out.below HB3.out
 obtain ⟨c6, _, _⟩ := hd3.raw.cells
 have HW3 := Lib.hid hw3
 have HS3 := Lib.hid hS3
 have HF3 : Hid (∀ b, d3.foot b → w.heap.size ≤ b) := Lib.hid fun b hb => Nat.le_trans HB2.out.drew.size (hf3 b hb)
 clear hw3 hS3 hf3 hb3 hd3 u0 u1 y0 y1 y2 y3 y4 y5
 go_wp2_with fail
 refine (HCL.out _ HB3.out).mono ?_
 rintro e w4 ⟨x', rfl, hx', hX', hxf, hb4⟩
 have hw4 := HW3.out.below hb4
 have s6 := cell_at hw4.raw.blk 6
 have f6 := free_at hw4.raw.blk 6
 simp at s6
 have hcaps : d3.caps = d.caps := congrArg WS.caps HS3.out
 have hix3 : d3.x.ix.liveL = [] := by
  have h1 : d3.x.ix = newIX nE d.caps.gens := congrArg WS.ix HS3.out
  have he := (WMid.caps H.out).ents
  have hg := (WMid.caps H.out).gens
  rw [HNE.out] at he
  rw [h1]
  exact newIX_live (by omega) (by omega) hg.1 hg.2
 have hmid4 : WMid w4 d3 [] 0 := by
  have := hw4
  unfold WIn at this
  rw [hix3] at this
  exact this
 have hmid5 := hmid4.setIx hX' (by rw [hx', WMid.gens H.out, hmid4.gens, hcaps]) (by have h1 := WMid.ents H.out; have h2 := hmid4.ents; rw [hcaps] at h2; rw [hx']; omega)
 have hS5 : WD.S { d3 with x := x' } = heir0 d.S ver cs := by
  have k1 : d3.g.ver = ver := congrArg WS.ver HS3.out
  have k2 : d3.g.cs = cs := congrArg WS.cs HS3.out
  have k3 : d3.g.sigs = [] := congrArg WS.sets HS3.out
  have k4 : d3.P.who = fun _ => none := congrArg WS.who HS3.out
  show WS.mk d3.caps d3.g.ver d3.g.cs x'.ix d3.g.sigs d3.P.who = _
  rw [hcaps, k1, k2, k3, k4, hx']
  rfl
 have HR0 : Hid (HeirR w d.S ver cs l d3.wb 0 { d3 with x := x' } (w4.setCell ⟨d3.wb, 6, none⟩ (.pointer (some ⟨x'.xb, 0, none⟩)))) := Lib.hid ⟨hmid5, ⟨(HB3.out.trans (hb4.mono HB3.out.size)).setCell (HF3.out _ (.inl rfl)) _, fun b hb => by
   rcases hb with hb | hb | hb | hb | hb
   ·exact HF3.out b (.inl hb)
   ·exact HF3.out b (.inr (.inl hb))
   ·exact Nat.le_trans HB3.out.size (hxf b hb)
   ·exact HF3.out b (.inr (.inr (.inr (.inl hb))))
   ·exact HF3.out b (.inr (.inr (.inr (.inr hb))))⟩, hx', rfl, by rw [hS5]; rfl⟩
 obtain ⟨WB, hWB⟩ : ∃ WB, d3.wb = WB := ⟨_, rfl⟩
 rw [hWB] at s6 f6 HR0 ⊢
 clear hw4 hcaps hix3 hmid4 hmid5 hS5 hWB hx' hX' hxf hb4 c6
 go_wp2_with fail
 generalize w4.setCell ⟨WB, 6, none⟩ (.pointer (some ⟨x'.xb, 0, none⟩)) = w5 at HR0 ⊢
 clear s6 f6
 go_loopw [46] (fun i wr => i = .int .i64 0 ∧ w5 = wr) (fun _ _ => 0)
 case atStart => exact ⟨rfl, rfl⟩
 case round =>
  obtain ⟨rfl, rfl⟩ := hrel
  go_wp2_with fail
  go_loopw [65] (fun i wr => ∃ (k : Nat) (dk : WD), k ≤ len2 ∧ i = .int .i64 (k : Int) ∧ HeirR w d.S ver cs l WB k dk wr) (fun i _ => len2 - (intOf i).toNat)
  case atStart => exact ⟨0, _, Nat.zero_le _, rfl, HR0.out⟩
  case round =>
   obtain ⟨k, dk, hk, rfl, hrd⟩ := hrel
   have HRD := Lib.hid hrd
   clear hrd
   by_cases hlt : k < len2
   ·obtain ⟨b, off, e, s, rfl, hB, hlk, d0, d1⟩ := (HA.out.below HRD.out.fresh.bel).get hlt
    have i1 : (0 : Int) ≤ (k : Int) := by omega
    have i2 : (k : Int) < (len2 : Int) := by omega
    have hlm : (l.map (·.1))[k]? = some e := by rw [List.getElem?_map, hlk]; rfl
    have heL : e ∈ d.x.ix.liveL := by rw [← HLI.out]; exact List.mem_of_getElem? hlm
    have hnd := H.out.raw.ix.ok.liveL_nd
    have hni : e ∉ ((l.take k).map (·.1)).reverse := by
     rw [List.mem_reverse, List.map_take]
     intro hm
     obtain ⟨j, hj⟩ := List.getElem?_of_mem hm
     rw [List.getElem?_take] at hj
     split at hj
     ·have := nd_inj (by rw [HLI.out]; exact hnd) hj hlm
      omega
     ·cases hj
    have hbA : Below wr.heap.size wr (wr.alloc (.cells #[.int .u64 e, .int .u32 s] 74)) := (Below.refl _ _).alloc (Nat.le_refl _) _
    have a0 : (wr.alloc (.cells #[.int .u64 e, .int .u32 s] 74)).cell? ⟨wr.heap.size, 0, none⟩ = some (.int .u64 e) := by rw [cell_at (heap_alloc_new wr _)]; rfl
    have a1 : (wr.alloc (.cells #[.int .u64 e, .int .u32 s] 74)).cell? ⟨wr.heap.size, 1, none⟩ = some (.int .u32 s) := by rw [cell_at (heap_alloc_new wr _)]; rfl
    have hmA := HRD.out.mid.below hbA
    have hsub : ∀ y ∈ ((l.take k).map (·.1)).reverse, y ∈ dk.x.ix.liveL := fun y hy => by
     rw [HRD.out.ix]
     show y ∈ d.x.ix.liveL
     rw [← HLI.out]
     rw [List.mem_reverse, List.map_take] at hy
     exact List.mem_of_mem_take hy
    have hxok : dk.x.ix.Ok := hmA.raw.ix.ok
    have hbd := H.out.bd heL
    have hse := HSET.out (e, s) (List.mem_of_getElem? hlk)
    have haw := wAwait_any hmA (hmA.counts hxok hsub) e hbd.1 hbd.2 hni (by rw [List.length_reverse, List.length_map, List.length_take]; omega) s hse.1 hse.2
    rw [HRD.out.wb] at haw
    have HAW := Lib.hid haw
    have HLK := Lib.hid hlk
    have HBA := Lib.hid hbA
    clear hlk hlm heL hnd hni hbA hmA hsub hxok hbd hse haw
    go_wp2_with fail
    refine HAW.out.mono ?_
    rintro en w6 ⟨d6, hf6, hx6, hwb6, rfl, hm6, hS6⟩
    have hfr6 := (HRD.out.fresh.below HBA.out).go hf6
    by_cases ho : dk.S.openE s = 0
    ·rw [if_pos ho] at hm6 hS6
     have HN : Hid (HeirR w d.S ver cs l WB (k + 1) d6 w6) := Lib.hid ⟨by
      have e1 : ((l.take (k + 1)).map (·.1)).reverse = e :: ((l.take k).map (·.1)).reverse := by rw [take_snoc HLK.out, List.map_append, List.reverse_append]; rfl
      rw [e1]; exact hm6, hfr6, by rw [hx6]; exact HRD.out.ix, hwb6.trans HRD.out.wb, by
      have e2 : l.drop k = (e, s) :: l.drop (k + 1) := drop_get HLK.out
      rw [HRD.out.all, e2, hS6]
      show awaitAll dk.S ((e, s) :: l.drop (k + 1)) = _
      rw [awaitAll]
      rw [if_pos ho]⟩
     rw [ho]
     clear hf6 hx6 hwb6 hm6 hS6 hfr6 ho HAW
     go_wp2_with fail
     go_roundw
     case rel => exact ⟨k + 1, d6, by omega, by go_num, HN.out⟩
     case measure => simp [intOf]; omega
    ·obtain ⟨q, hq⟩ : ∃ q, dk.S.openE s = q := ⟨_, rfl⟩
     have hall : awaitAll (heir0 d.S ver cs) l = (q, dk.S) := by
      have e2 : l.drop k = (e, s) :: l.drop (k + 1) := drop_get HLK.out
      rw [HRD.out.all, e2, awaitAll, if_neg ho, hq]
     have hqn : (q != 0) = true := by rw [← hq]; simpa using ho
     have HF : Hid (IsHeir d.S ver cs l w (.returned (.tuple #[.pointer none, .int .i64 q])) w6) := Lib.hid ⟨hfr6.bel, .inl ⟨by rw [hall, ← hq]; exact ho, by rw [hall]⟩⟩
     rw [hq]
     clear hf6 hx6 hwb6 hm6 hS6 hfr6 ho hq hall HAW
     go_wp2_with fail
     go_ret2
     exact HF.out
   ·obtain rfl : k = len2 := by omega
    have hall : awaitAll (heir0 d.S ver cs) l = (0, dk.S) := by rw [HRD.out.all, List.drop_eq_nil_of_le (by rw [HA.out.1]; exact Nat.le_refl _)]; rfl
    have HF : Hid (IsHeir d.S ver cs l w (.returned (.tuple #[.pointer (some ⟨WB, 0, none⟩), .int .i64 0])) wr) := Lib.hid ⟨HRD.out.fresh.bel, .inr ⟨by rw [hall], dk, by rw [HRD.out.wb], by
     have hm := HRD.out.mid
     rw [List.take_of_length_le (by rw [HA.out.1]; exact Nat.le_refl _), HLI.out] at hm
     unfold WIn
     rw [show dk.x.ix = d.x.ix from HRD.out.ix]
     exact hm.perm (List.reverse_perm _), by rw [hall], HRD.out.fresh.foot⟩⟩
    clear hall
    go_wp2_with fail
    go_ret2
    exact HF.out
end
end Go.Proofs.YthmpknlgkflhiabGreat
