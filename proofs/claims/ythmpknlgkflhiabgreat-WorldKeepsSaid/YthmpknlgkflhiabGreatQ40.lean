/- A world's Add: the walk. · A world's Add: what it does. · Remove's closure, and slices.IndexFunc with it. -/
import Derived.Test.YthmpknlgkflhiabGreatQ39
import Derived.Deep.RegionHeld3
import Derived.Deep.AppendLies
namespace Go.Proofs.YthmpknlgkflhiabGreat
open Go.RowKit
set_option linter.unusedVariables false
section
variable {w w' : World} {d : WD} {L : List Int} {N n : Nat} {va : Option Addr} {vl vc : Nat} {v : List WI}
/-- Parts in memory of their own, or whose numbers the deeds leave alone. -/
theorem partsIn_own {W : World} (h : WMid W d L N) {B : Nat} (hB : ∀ b, d.foot b → b < B) {ps : List PW} {pa : Option Addr} {m pc : Nat} (hrow : W.ownsRow B 48 2 (.slice pa m pc) m (ps.flatMap partL)) (hlen : ps.length = m) (hm : m ≤ 100000)
    (hv : ∀ p ∈ ps, (W.ownsRow B 67 3 (.slice p.va p.vl p.vc) p.vl (p.val.flatMap intL) ∧ p.val.length = p.vl ∧ ∀ y ∈ p.val, y.wf) ∨ IntIn d W p.va p.vl p.vc p.val) : PartsIn d W pa m pc ps := by
  refine ⟨fun w' ho => ?_, hm⟩
  have hge : ∀ {e : TypeId} {s : Nat} {v : Value} {n : Nat} {xs : List Value}, W.ownsRow B e s v n xs → ∀ x, v.ownBlock = some x → ¬ d.foot x := by
    intro e s v n xs hr x hx hf
    have hlt := hB x hf
    rcases hr.2 with ⟨rfl, _⟩ | ⟨g, cap, cur, rfl, hbg, _⟩
    · cases hx
    · obtain rfl : g = x := by simpa [Value.ownBlock] using hx
      omega
  have hrow' := ownsRow_out hrow ho (hge hrow)
  obtain ⟨h1, h2⟩ := own_max hrow'
  refine ⟨hlen, h1, h2, fun p hp => ?_, ?_⟩
  · rcases hv p hp with ⟨ho1, ho2, ho3⟩ | hin
    · exact own_ints (ownsRow_out ho1 ho (hge ho1)) ho2 ho3
    · exact hin w' ho
  · rcases Nat.eq_zero_or_pos m with h0 | h0
    · exact .inl h0
    · obtain ⟨q, hq, _, hql, hqc⟩ := row_block hrow' h0
      refine .inr ⟨q, 0, hq, hql, fun i p hp => ?_⟩
      obtain ⟨g0, g1⟩ := partL_at ps i p hp
      rw [Nat.zero_add]
      exact ⟨hqc _ _ g0, hqc _ _ g1⟩
set_option maxRecDepth 100000 in
set_option maxHeartbeats 4000000 in
theorem wAdd_dead (h : WIn w d N) (e : Int) (h0 : 0 ≤ e) (h1 : e < 18446744073709551616) (he : e ∉ d.x.ix.liveL) (c : Int) (va : Option Addr) (vl vc : Nat) {S' : WS} {M : Nat} (hM : N ≤ M) : Calls Tryz.prog 14 #[.pointer (some ⟨d.wb, 0, none⟩), .int .u64 e, .agg #[.int .i64 c, .slice va vl vc]] w (IsDeed d 11 S' M w) := by
  have hb0 : Below w.heap.size w (w.alloc (.cells #[.int .i64 c, .slice va vl vc] 48)) := by go_grown
  have hl := wLives_any (h.below hb0) e h0 h1
  rw [h.dead0 he h0] at hl
  have HL := Lib.hid hl
  have HB0 := Lib.hid hb0
  have HF := Lib.hid (fun (W : World) (hb : Below w.heap.size w W) => show IsDeed d 11 S' M w (.returned (.int .i64 11)) W from ⟨d, (h.below hb).mono hM, WFr.of_below hb, rfl, rfl, rfl⟩)
  clear h he hl hb0
  go_enter Tryz.func14, Tryz.ntmps14
  go_wp2_with fail
  refine HL.out.mono ?_
  rintro en w1 ⟨rfl, hb⟩
  have HFF := Lib.hid (HF.out _ (HB0.out.trans (hb.mono HB0.out.size)))
  clear hb
  go_wp2_with fail
  go_returns
  exact HFF.out
set_option maxRecDepth 100000 in
set_option maxHeartbeats 4000000 in
theorem wAdd_bad (h : WIn w d N) (e : Int) (he : e ∈ d.x.ix.liveL) (hp : IntIn d w va vl vc v) (c : Int) (hk : fC d.g.cs (c, v) ≠ 0) {S' : WS} {M : Nat} (hM : N ≤ M) : Calls Tryz.prog 14 #[.pointer (some ⟨d.wb, 0, none⟩), .int .u64 e, .agg #[.int .i64 c, .slice va vl vc]] w (IsDeed d (fC d.g.cs (c, v)) S' M w) := by
  obtain ⟨h0, h1⟩ := h.bd he
  have hb0 : Below w.heap.size w (w.alloc (.cells #[.int .i64 c, .slice va vl vc] 48)) := by go_grown
  have hl := wLives_any (h.below hb0) e h0 h1
  rw [h.live0 he] at hl
  have HL := Lib.hid hl
  have HB0 := Lib.hid hb0
  have HP0 := Lib.hid (heap_alloc_new w (.cells #[.int .i64 c, .slice va vl vc] 48))
  have HCK := Lib.hid (fun (W : World) (hb : Below w.heap.size w W) => chkPart (h.below hb) (hp.below hb).now c)
  have C7 := Lib.hid (fun (W : World) (hb : Below w.heap.size w W) => (h.below hb).raw.cells.2.1)
  obtain ⟨k, hke⟩ : ∃ k, fC d.g.cs (c, v) = k := ⟨_, rfl⟩
  rw [hke] at HCK hk ⊢
  have HF := Lib.hid (fun (W : World) (hb : Below w.heap.size w W) => show IsDeed d k S' M w (.returned (.int .i64 k)) W from ⟨d, (h.below hb).mono hM, WFr.of_below hb, rfl, rfl, (if_neg hk).symm⟩)
  have hkn : (k != 0) = true := by simpa using hk
  clear h he hp hl hb0 hke hk
  go_enter Tryz.func14, Tryz.ntmps14
  go_wp2_with fail
  refine HL.out.mono ?_
  rintro en w1 ⟨rfl, hb⟩
  have HB1 := Lib.hid (HB0.out.trans (hb.mono HB0.out.size))
  have c7 := C7.out _ HB1.out
  have HP1 := Lib.hid (keep hb HP0.out)
  have q0 := cell_at HP1.out 0
  have q1 := cell_at HP1.out 1
  simp at q0 q1
  have hwl := lt_some HP1.out
  clear hb
  go_upto_region 4 with (fail)
  go_cut [8] (fun s8 wx => s8 = .int .i64 k ∧ Below w1.heap.size w1 wx)
  case first =>
    go_region_with (first
      | (go_at_call 36; refine (HCK.out _ (by first | exact HB1.out.drew | exact HB1.out)).mono ?_; rintro e1 w2 ⟨sa, sc, rfl, hb2, hcp⟩; have HCP := Lib.hid hcp; have HB2 := Lib.hid (undrew hb2); have hp2 := keep HB2.out HP1.out; have z0 := cell_at hp2 0; have z1 := cell_at hp2 1; simp at z0 z1; clear hb2 hcp hp2)
      | (go_at_call 46; refine HCP.out.mono ?_; rintro e1 w3 ⟨rfl, hb3⟩; have HB3 := Lib.hid (HB2.out.trans (hb3.mono HB2.out.size)); clear hb3))
    all_goals go_wp2_with fail
    all_goals go_meet
    all_goals exact ⟨rfl, HB3.out⟩
  case rest =>
    obtain ⟨rfl, hbc⟩ := hcut
    have HB4 := Lib.hid (HB1.out.trans (hbc.mono HB1.out.size))
    have HP4 := Lib.hid (keep hbc HP1.out)
    have c7' := C7.out _ HB4.out
    have y0 := cell_at HP4.out 0
    have y1 := cell_at HP4.out 1
    simp at y0 y1
    have hwl4 := lt_some HP4.out
    clear hbc q0 q1 c7
    have HFF := Lib.hid (HF.out _ HB4.out)
    go_wp2_with fail
    go_ret
    exact HFF.out
set_option maxRecDepth 100000 in
set_option maxHeartbeats 4000000 in
theorem wAdd_wait (h : WIn w d N) (e : Int) (he : e ∈ d.x.ix.liveL) (hp : IntIn d w va vl vc v) (c : Int) (hk : fC d.g.cs (c, v) = 0) {i : Nat} (hpl : d.pl e = some ⟨i, none⟩) {t : TD} (ht : d.T[i]? = some t) {S' : WS} {M : Nat} (hM : N ≤ M) : Calls Tryz.prog 14 #[.pointer (some ⟨d.wb, 0, none⟩), .int .u64 e, .agg #[.int .i64 c, .slice va vl vc]] w (IsDeed d 7 S' M w) := by
  obtain ⟨h0, h1⟩ := h.bd he
  have hb0 : Below w.heap.size w (w.alloc (.cells #[.int .i64 c, .slice va vl vc] 48)) := by go_grown
  have hl := wLives_any (h.below hb0) e h0 h1
  rw [h.live0 he] at hl
  have HL := Lib.hid hl
  have HB0 := Lib.hid hb0
  have HP0 := Lib.hid (heap_alloc_new w (.cells #[.int .i64 c, .slice va vl vc] 48))
  have HCK := Lib.hid (fun (W : World) (hb : Below w.heap.size w W) => chkPart (h.below hb) (hp.below hb).now c)
  have C7 := Lib.hid (fun (W : World) (hb : Below w.heap.size w W) => (h.below hb).raw.cells.2.1)
  have HF := Lib.hid (fun (W : World) (hb : Below w.heap.size w W) => show IsDeed d 7 S' M w (.returned (.int .i64 7)) W from ⟨d, (h.below hb).mono hM, WFr.of_below hb, rfl, rfl, rfl⟩)
  rw [hk] at HCK
  have HSG := Lib.hid (fun (W : World) (hb : Below w.heap.size w W) => wSig_ok (h.below hb) e he hpl ht)
  have HAW := Lib.hid (fun (W : World) (hb : Below w.heap.size w W) => wAwaited_any (h.below hb).raw e h0 h1 hpl)
  clear h he hp hl hb0 hk hpl
  go_enter Tryz.func14, Tryz.ntmps14
  go_wp2_with fail
  refine HL.out.mono ?_
  rintro en w1 ⟨rfl, hb⟩
  have HB1 := Lib.hid (HB0.out.trans (hb.mono HB0.out.size))
  have c7 := C7.out _ HB1.out
  have HP1 := Lib.hid (keep hb HP0.out)
  have q0 := cell_at HP1.out 0
  have q1 := cell_at HP1.out 1
  simp at q0 q1
  have hwl := lt_some HP1.out
  clear hb
  go_upto_region 4 with (fail)
  go_cut [8] (fun s8 wx => s8 = .int .i64 0 ∧ Below w1.heap.size w1 wx)
  case first =>
    go_region_with (first
      | (go_at_call 36; refine (HCK.out _ (by first | exact HB1.out.drew | exact HB1.out)).mono ?_; rintro e1 w2 ⟨sa, sc, rfl, hb2, hcp⟩; have HCP := Lib.hid hcp; have HB2 := Lib.hid (undrew hb2); have hp2 := keep HB2.out HP1.out; have z0 := cell_at hp2 0; have z1 := cell_at hp2 1; simp at z0 z1; clear hb2 hcp hp2)
      | (go_at_call 46; refine HCP.out.mono ?_; rintro e1 w3 ⟨rfl, hb3⟩; have HB3 := Lib.hid (HB2.out.trans (hb3.mono HB2.out.size)); clear hb3))
    all_goals go_wp2_with fail
    all_goals go_meet
    all_goals exact ⟨rfl, HB3.out⟩
  case rest =>
    obtain ⟨rfl, hbc⟩ := hcut
    have HB4 := Lib.hid (HB1.out.trans (hbc.mono HB1.out.size))
    have HP4 := Lib.hid (keep hbc HP1.out)
    have c7' := C7.out _ HB4.out
    have y0 := cell_at HP4.out 0
    have y1 := cell_at HP4.out 1
    simp at y0 y1
    have hwl4 := lt_some HP4.out
    clear hbc q0 q1 c7
    go_wp2_with fail
    refine (HSG.out _ HB4.out).mono ?_
    rintro en w5 ⟨rfl, hb5⟩
    have HB5 := Lib.hid (HB4.out.trans (hb5.mono HB4.out.size))
    have HP5 := Lib.hid (keep hb5 HP4.out)
    have x0 := cell_at HP5.out 0
    have x1 := cell_at HP5.out 1
    simp at x0 x1
    have hwl5 := lt_some HP5.out
    clear hb5 y0 y1 c7'
    go_wp2_with fail
    refine (HAW.out _ HB5.out).mono ?_
    rintro en w6 ⟨rfl, rfl⟩
    go_wp2_with fail
    have HFF := Lib.hid (HF.out _ HB5.out)
    go_returns
    exact HFF.out
set_option maxRecDepth 100000 in
set_option maxHeartbeats 4000000 in
theorem wAdd_taken (h : WIn w d N) (e : Int) (he : e ∈ d.x.ix.liveL) (hp : IntIn d w va vl vc v) (c : Int) (hk : fC d.g.cs (c, v) = 0) {i r : Nat} (hpl : d.pl e = some ⟨i, some r⟩) {t : TD} (ht : d.T[i]? = some t) (hbt : hasB t.set c = true) {S' : WS} {M : Nat} (hM : N ≤ M) : Calls Tryz.prog 14 #[.pointer (some ⟨d.wb, 0, none⟩), .int .u64 e, .agg #[.int .i64 c, .slice va vl vc]] w (IsDeed d 7 S' M w) := by
  obtain ⟨h0, h1⟩ := h.bd he
  have hb0 : Below w.heap.size w (w.alloc (.cells #[.int .i64 c, .slice va vl vc] 48)) := by go_grown
  have hl := wLives_any (h.below hb0) e h0 h1
  rw [h.live0 he] at hl
  have HL := Lib.hid hl
  have HB0 := Lib.hid hb0
  have HP0 := Lib.hid (heap_alloc_new w (.cells #[.int .i64 c, .slice va vl vc] 48))
  have HCK := Lib.hid (fun (W : World) (hb : Below w.heap.size w W) => chkPart (h.below hb) (hp.below hb).now c)
  have C7 := Lib.hid (fun (W : World) (hb : Below w.heap.size w W) => (h.below hb).raw.cells.2.1)
  have HF := Lib.hid (fun (W : World) (hb : Below w.heap.size w W) => show IsDeed d 7 S' M w (.returned (.int .i64 7)) W from ⟨d, (h.below hb).mono hM, WFr.of_below hb, rfl, rfl, rfl⟩)
  rw [hk] at HCK
  have HSG := Lib.hid (fun (W : World) (hb : Below w.heap.size w W) => wSig_ok (h.below hb) e he hpl ht)
  have HAW := Lib.hid (fun (W : World) (hb : Below w.heap.size w W) => wAwaited_any (h.below hb).raw e h0 h1 hpl)
  have hbd := WMid.bd h ht
  have HHAS := Lib.hid (fun (W : World) => has_any t.set c W hbd.1 hbd.2)
  rw [hbt] at HHAS
  clear h he hp hl hb0 hk hpl hbd hbt
  go_enter Tryz.func14, Tryz.ntmps14
  go_wp2_with fail
  refine HL.out.mono ?_
  rintro en w1 ⟨rfl, hb⟩
  have HB1 := Lib.hid (HB0.out.trans (hb.mono HB0.out.size))
  have c7 := C7.out _ HB1.out
  have HP1 := Lib.hid (keep hb HP0.out)
  have q0 := cell_at HP1.out 0
  have q1 := cell_at HP1.out 1
  simp at q0 q1
  have hwl := lt_some HP1.out
  clear hb
  go_upto_region 4 with (fail)
  go_cut [8] (fun s8 wx => s8 = .int .i64 0 ∧ Below w1.heap.size w1 wx)
  case first =>
    go_region_with (first
      | (go_at_call 36; refine (HCK.out _ (by first | exact HB1.out.drew | exact HB1.out)).mono ?_; rintro e1 w2 ⟨sa, sc, rfl, hb2, hcp⟩; have HCP := Lib.hid hcp; have HB2 := Lib.hid (undrew hb2); have hp2 := keep HB2.out HP1.out; have z0 := cell_at hp2 0; have z1 := cell_at hp2 1; simp at z0 z1; clear hb2 hcp hp2)
      | (go_at_call 46; refine HCP.out.mono ?_; rintro e1 w3 ⟨rfl, hb3⟩; have HB3 := Lib.hid (HB2.out.trans (hb3.mono HB2.out.size)); clear hb3))
    all_goals go_wp2_with fail
    all_goals go_meet
    all_goals exact ⟨rfl, HB3.out⟩
  case rest =>
    obtain ⟨rfl, hbc⟩ := hcut
    have HB4 := Lib.hid (HB1.out.trans (hbc.mono HB1.out.size))
    have HP4 := Lib.hid (keep hbc HP1.out)
    have c7' := C7.out _ HB4.out
    have y0 := cell_at HP4.out 0
    have y1 := cell_at HP4.out 1
    simp at y0 y1
    have hwl4 := lt_some HP4.out
    clear hbc q0 q1 c7
    go_wp2_with fail
    refine (HSG.out _ HB4.out).mono ?_
    rintro en w5 ⟨rfl, hb5⟩
    have HB5 := Lib.hid (HB4.out.trans (hb5.mono HB4.out.size))
    have HP5 := Lib.hid (keep hb5 HP4.out)
    have x0 := cell_at HP5.out 0
    have x1 := cell_at HP5.out 1
    simp at x0 x1
    have hwl5 := lt_some HP5.out
    clear hb5 y0 y1 c7'
    go_wp2_with fail
    refine (HAW.out _ HB5.out).mono ?_
    rintro en w6 ⟨rfl, rfl⟩
    go_wp2_with fail
    refine (HHAS.out _).mono ?_
    rintro en w7 ⟨rfl, rfl⟩
    have HFF := Lib.hid (HF.out _ HB5.out)
    go_wp2_with fail
    go_returns
    exact HFF.out
set_option maxRecDepth 100000 in
set_option maxHeartbeats 4000000 in
theorem wAdd_go (h : WIn w d N) (e : Int) (he : e ∈ d.x.ix.liveL) (hp : IntIn d w va vl vc v) (c : Int) (hk : fC d.g.cs (c, v) = 0) {i r : Nat} (hpl : d.pl e = some ⟨i, some r⟩) {t : TD} (ht : d.T[i]? = some t) (hbt : hasB t.set c = false) {row : List (List WI)} (hr : d.S.rowAt e = some (t.set, row)) (hm : (cvOf t.set row).length ≤ 1000) {k : Int} {Q : World → Prop}
    (HMV : ∀ (w5 : World) (pa : Option Addr) (pc : Nat) (ps : List PW) (g cap : Nat) (W : World), Below w.heap.size w w5 → PO (w.heap.size + 1) w5 pa (cvOf t.set row).length pc ps → cv ps = cvOf t.set row → W.ownsRow (w.heap.size + 1) 48 2 (.slice (some ⟨g, 0, none⟩) ((cvOf t.set row).length + 1) cap) ((cvOf t.set row).length + 1) (ps.flatMap partL ++ [.int .i64 c, .slice va vl vc]) → ((w5.alloc (.cells #[.int .i64 c, .slice va vl vc] 48)).drew).grownBy W (Value.slice pa (cvOf t.set row).length pc).ownBlock → Calls Tryz.prog 49 #[.pointer (some ⟨d.wb, 0, none⟩), .int .u64 e, .int .i64 c, .bool true, .slice (some ⟨g, 0, none⟩) ((cvOf t.set row).length + 1) cap] W fun en w' => en = .returned (.int .i64 k) ∧ Q w' ∧ w'.heap[w.heap.size]? = W.heap[w.heap.size]?) : Calls Tryz.prog 14 #[.pointer (some ⟨d.wb, 0, none⟩), .int .u64 e, .agg #[.int .i64 c, .slice va vl vc]] w fun en w' => en = .returned (.int .i64 k) ∧ Q w' := by
  obtain ⟨h0, h1⟩ := h.bd he
  have hb0 : Below w.heap.size w (w.alloc (.cells #[.int .i64 c, .slice va vl vc] 48)) := by go_grown
  have hl := wLives_any (h.below hb0) e h0 h1
  rw [h.live0 he] at hl
  have HL := Lib.hid hl
  have HB0 := Lib.hid hb0
  have HP0 := Lib.hid (heap_alloc_new w (.cells #[.int .i64 c, .slice va vl vc] 48))
  have HCK := Lib.hid (fun (W : World) (hb : Below w.heap.size w W) => chkPart (h.below hb) (hp.below hb).now c)
  have C7 := Lib.hid (fun (W : World) (hb : Below w.heap.size w W) => (h.below hb).raw.cells.2.1)
  obtain ⟨i0, hi, hz0', hz1, hz2⟩ := info_parts Tryz.info48
  rw [hk] at HCK
  have HSG := Lib.hid (fun (W : World) (hb : Below w.heap.size w W) => wSig_ok (h.below hb) e he hpl ht)
  have HAW := Lib.hid (fun (W : World) (hb : Below w.heap.size w W) => wAwaited_any (h.below hb).raw e h0 h1 hpl)
  have hbd := WMid.bd h ht
  have HHAS := Lib.hid (fun (W : World) => has_any t.set c W hbd.1 hbd.2)
  rw [hbt] at HHAS
  have HPT := Lib.hid (fun (W : World) (hb : Below w.heap.size w W) => wParts_ok (h.below hb) e he hr)
  obtain ⟨n0, hn0⟩ : ∃ n0, (cvOf t.set row).length = n0 := ⟨_, rfl⟩
  unfold IsParts at HPT
  rw [hn0] at HMV HPT hm
  have HMM := Lib.hid HMV
  clear h he hp hl hb0 hk hpl hbd hbt hr hn0 HMV
  go_enter Tryz.func14, Tryz.ntmps14
  go_wp2_with fail
  refine HL.out.mono ?_
  rintro en w1 ⟨rfl, hb⟩
  have HB1 := Lib.hid (HB0.out.trans (hb.mono HB0.out.size))
  have c7 := C7.out _ HB1.out
  have HP1 := Lib.hid (keep hb HP0.out)
  have q0 := cell_at HP1.out 0
  have q1 := cell_at HP1.out 1
  simp at q0 q1
  have hwl := lt_some HP1.out
  clear hb
  go_upto_region 4 with (fail)
  go_cut [8] (fun s8 wx => s8 = .int .i64 0 ∧ Below w1.heap.size w1 wx)
  case first =>
    go_region_with (first
      | (go_at_call 36; refine (HCK.out _ (by first | exact HB1.out.drew | exact HB1.out)).mono ?_; rintro e1 w2 ⟨sa, sc, rfl, hb2, hcp⟩; have HCP := Lib.hid hcp; have HB2 := Lib.hid (undrew hb2); have hp2 := keep HB2.out HP1.out; have z0 := cell_at hp2 0; have z1 := cell_at hp2 1; simp at z0 z1; clear hb2 hcp hp2)
      | (go_at_call 46; refine HCP.out.mono ?_; rintro e1 w3 ⟨rfl, hb3⟩; have HB3 := Lib.hid (HB2.out.trans (hb3.mono HB2.out.size)); clear hb3))
    all_goals go_wp2_with fail
    all_goals go_meet
    all_goals exact ⟨rfl, HB3.out⟩
  case rest =>
    obtain ⟨rfl, hbc⟩ := hcut
    have HB4 := Lib.hid (HB1.out.trans (hbc.mono HB1.out.size))
    have HP4 := Lib.hid (keep hbc HP1.out)
    have c7' := C7.out _ HB4.out
    have y0 := cell_at HP4.out 0
    have y1 := cell_at HP4.out 1
    simp at y0 y1
    have hwl4 := lt_some HP4.out
    clear hbc q0 q1 c7
    go_wp2_with fail
    refine (HSG.out _ HB4.out).mono ?_
    rintro en w5 ⟨rfl, hb5⟩
    have HB5 := Lib.hid (HB4.out.trans (hb5.mono HB4.out.size))
    have HP5 := Lib.hid (keep hb5 HP4.out)
    have x0 := cell_at HP5.out 0
    have x1 := cell_at HP5.out 1
    simp at x0 x1
    have hwl5 := lt_some HP5.out
    clear hb5 y0 y1 c7'
    go_wp2_with fail
    refine (HAW.out _ HB5.out).mono ?_
    rintro en w6 ⟨rfl, rfl⟩
    go_wp2_with fail
    refine (HHAS.out _).mono ?_
    rintro en w7 ⟨rfl, rfl⟩
    go_wp2_with fail
    refine (HPT.out _ HB5.out).mono ?_
    rintro en w8 ⟨pa, pc, ps, rfl, hpo, hcv, hb8⟩
    have HB8 := Lib.hid (HB5.out.trans (hb8.mono HB5.out.size))
    have hp8 := keep hb8 HP5.out
    have u0 := cell_at hp8 0
    have u1 := cell_at hp8 1
    simp at u0 u1
    have hwl8 := lt_some hp8
    have HPO := Lib.hid (hpo.mono (show w.heap.size + 1 ≤ w5.heap.size by omega))
    have HCV := Lib.hid hcv
    have HMM8 := Lib.hid (fun (g cap : Nat) (W : World) => HMM.out w8 pa pc ps g cap W HB8.out HPO.out HCV.out)
    have HROW := Lib.hid ((HPO.out.row.alloc (.cells #[.int .i64 c, .slice va vl vc] 48)).drew)
    have HNS := Lib.hid (World.news_of_block (cs := #[.int .i64 c, .slice va vl vc]) (t := 48) (fr := (0, 0)) (heap_alloc_new w8 (.cells #[.int .i64 c, .slice va vl vc] 48)))
    have HNE : Hid (∀ x, (Value.slice pa n0 pc).ownBlock = some x → w.heap.size ≠ x) := Lib.hid (by
      intro x hx
      rcases HPO.out.row.2 with ⟨hh, _⟩ | ⟨g, cap, cur, hh, hbg, _⟩
      · rw [hh] at hx; cases hx
      · rw [hh] at hx
        obtain rfl : g = x := by simpa [Value.ownBlock] using hx
        omega)
    clear hpo hcv hb8 hp8 x0 x1
    go_upto_region 11 with (fail)
    go_region_held3 (fun w' => w'.cell? ⟨w.heap.size, 0, none⟩ = some (.int .i64 c) ∧ w'.cell? ⟨w.heap.size, 1, none⟩ = some (.slice va vl vc))
      (first
        | go_keep
        | (go_split_ands
           refine ⟨?_, ?_⟩
           · (rw [hgrow.cell_far _ (by simp; omega) (fun hh => HNE.out _ hh.symm rfl)]; assumption)
           · (rw [hgrow.cell_far _ (by simp; omega) (fun hh => HNE.out _ hh.symm rfl)]; assumption))
        | (go_split_ands
           refine ⟨?_, ?_⟩
           · (refine Eq.trans (World.cell?_of_block HSM.out) ?_; assumption)
           · (refine Eq.trans (World.cell?_of_block HSM.out) ?_; assumption)))
      (first
        | (refine step_append_lies _ (by rfl) _ _ _ (by rfl) (w.heap.size + 1) 48 i0 _ 2 32 Tryz.underlying35 hi hz0' hz1 hz2 rfl (by omega) (.slice pa n0 pc) n0 (ps.flatMap partL) (by rfl) HROW.out ⟨w8.heap.size, 0, none⟩ 1 1 [.int .i64 c, .slice va vl vc] (by rfl) (by rfl) HNS.out (by simp [Value.oneCell']) (by omega) (by unfold maxLen; omega) (by omega) (by simp; omega) (w8.heap.size + 1) (by simp) ?_; intro gg cap wA hown1 hgrow hat hlt)
        | (go_at_call 49; refine (HMM8.out gg cap _ hown1 hgrow).mono ?_; rintro en wZ ⟨rfl, hq, hsm⟩; have HQ := Lib.hid hq; have HSM := Lib.hid hsm; clear hq hsm))
    all_goals go_wp2_with fail
    all_goals go_returns
    all_goals exact ⟨rfl, HQ.out⟩
end
end Go.Proofs.YthmpknlgkflhiabGreat
namespace Go.Proofs.YthmpknlgkflhiabGreat
open Go.RowKit
set_option linter.unusedVariables false
theorem comps_cv (ps : List PW) : comps ps = (cv ps).map (·.1) := by unfold comps cv; rw [List.map_map]; rfl
theorem PartsOk.cv {cs : List Cmp} {ps : List PW} (nd : ((cv ps).map (·.1)).Nodup) (fit : ∀ q ∈ cv ps, fC cs q = 0) (ids : ((cv ps).map (·.1)).all idB = true) : PartsOk cs ps :=
 ⟨by rw [comps_cv]; exact nd, fun p hp => fit (p.comp, p.val) (List.mem_map.2 ⟨p, hp, rfl⟩), by rw [comps_cv]; exact ids⟩
theorem cvOf_ids {s : Int} {r : List (List WI)} (h : r.length = (idsTo s 24).length) : (cvOf s r).map (·.1) = idsTo s 24 := by
 unfold cvOf
 exact List.map_fst_zip (by omega)
section
variable {w w' : World} {d : WD} {L : List Int} {N n : Nat} {va : Option Addr} {vl vc : Nat} {v : List WI}
theorem WMid.fits (h : WMid w d L N) {e : Int} {i r : Nat} (hp : d.pl e = some ⟨i, some r⟩) {t : TD} (ht : d.T[i]? = some t) {row : List (List WI)} (hw : d.P.who e = some ⟨t.set, some row⟩) : row.length = (idsTo t.set 24).length ∧ ∀ q ∈ cvOf t.set row, fC d.g.cs q = 0 := by
 obtain ⟨V, row', hv, hvr, hV, hrl, _, hw', hrow⟩ := WMid.who_row h hp ht
 rw [hw] at hw'
 cases hw'
 have hT := WMid.tab h ht
 have hlen : row.length = (idsTo t.set 24).length := by rw [hrow, ← hT.ids, List.length_map]
 refine ⟨hlen, fun q hq => ?_⟩
 obtain ⟨j, hj⟩ := List.mem_iff_getElem?.1 hq
 unfold cvOf at hj
 obtain ⟨c, u⟩ := q
 rw [List.getElem?_zip_eq_some] at hj
 obtain ⟨j1, j2⟩ := hj
 have j1 : (idsTo t.set 24)[j]? = some c := j1
 have j2 : row[j]? = some u := j2
 have hjl : j < t.cps.length := by rw [← hrow]; exact (List.getElem?_eq_some_iff.1 j2).1
 have hx : t.cps[j]? = some t.cps[j] := List.getElem?_eq_getElem hjl
 have hd : t.cols[j]? = some (t.cols[j]'(by rw [hT.len]; exact hjl)) := List.getElem?_eq_getElem _
 obtain ⟨_, hfit, _⟩ := hV.at_ r j row u _ _ hvr j2 hx hd
 obtain ⟨_, hlike⟩ := WMid.like h ht
 have hfc : findC c d.g.cs = some t.cps[j].c := by
  have hh := congrArg (·[j]?) hlike
  simp only [List.getElem?_map, j1] at hh
  have hcx : t.cs[j]? = some t.cps[j].c := by unfold TD.cs; rw [List.getElem?_map, hx]; rfl
  rw [hcx] at hh
  simpa using hh
 show cpF d.g.cs (pwOf (c, u)) = 0
 unfold cpF pwOf
 rw [hfc]
 exact hfit
theorem WMid.added (h : WMid w d L N) {e : Int} {i r : Nat} (hp : d.pl e = some ⟨i, some r⟩) {t : TD} (ht : d.T[i]? = some t) {row : List (List WI)} (hw : d.P.who e = some ⟨t.set, some row⟩) (hs : sIs t.set = true) {c : Int} (hk : fC d.g.cs (c, v) = 0) (hbt : hasB t.set c = false) {ps : List PW} (hps : cv ps = cvOf t.set row ++ [(c, v)]) : PartsOk d.g.cs ps ∧ foldS (comps ps) = sWith t.set c := by
 obtain ⟨hlen, hfit⟩ := h.fits hp ht hw
 obtain ⟨cm, hcm, _⟩ := cpF_find (show cpF d.g.cs (pwOf (c, v)) = 0 from hk)
 have hid : idB c = true := h.inv.ids c (by rw [show (pwOf (c, v)).comp = c from rfl] at hcm; rw [hcm]; rfl)
 have hbd := WMid.bd h ht
 have hids : (cv ps).map (·.1) = idsTo t.set 24 ++ [c] := by rw [hps, List.map_append, cvOf_ids hlen]; rfl
 have hni : c ∉ idsTo t.set 24 := fun hm => by rw [mem_ids, hbt] at hm; cases hm
 have hall : (idsTo t.set 24 ++ [c]).all idB = true := by rw [List.all_append, ids_all]; simp [hid]
 refine ⟨PartsOk.cv ?_ ?_ ?_, ?_⟩
 ·rw [hids, List.nodup_append]
  refine ⟨idsTo_nodup _ _, by simp, fun a ha b hb => ?_⟩
  obtain rfl : b = c := by simpa using hb
  exact fun e => hni (e ▸ ha)
 ·intro q hq
  rw [hps] at hq
  rcases List.mem_append.1 hq with hq | hq
  ·exact hfit q hq
  ·obtain rfl : q = (c, v) := by simpa using hq
   exact hk
 ·rw [hids]; exact hall
 ·rw [comps_cv, hids]
  have hwb := sWith_bd (n := c) hbd.1 hbd.2
  refine fold_of hwb.1 hwb.2 (sIs_with hbd.1 hbd.2 hid hs) hall fun n hn => ?_
  rw [has_with hbd.1 hbd.2 hid hn, List.mem_append, mem_ids]
  simp
  exact or_comm
theorem WMid.lessened (h : WMid w d L N) {e : Int} {i r : Nat} (hp : d.pl e = some ⟨i, some r⟩) {t : TD} (ht : d.T[i]? = some t) {row : List (List WI)} (hw : d.P.who e = some ⟨t.set, some row⟩) (hs : sIs t.set = true) {c : Int} (hbt : hasB t.set c = true) {ps : List PW} (hps : cv ps = (cvOf t.set row).filter fun p => decide (p.1 ≠ c)) : PartsOk d.g.cs ps ∧ foldS (comps ps) = sWithout t.set c := by
 obtain ⟨hlen, hfit⟩ := h.fits hp ht hw
 have hid := hasB_id hbt
 have hbd := WMid.bd h ht
 have hids : (cv ps).map (·.1) = (idsTo t.set 24).filter fun i => decide (i ≠ c) := by
  rw [hps, ← cvOf_ids hlen, List.filter_map]; rfl
 have hall : ((idsTo t.set 24).filter fun i => decide (i ≠ c)).all idB = true := by
  rw [List.all_eq_true]
  intro x hx
  exact List.all_eq_true.1 (ids_all t.set) x (List.mem_filter.1 hx).1
 refine ⟨PartsOk.cv ?_ ?_ ?_, ?_⟩
 ·rw [hids]; exact List.Pairwise.filter _ (idsTo_nodup _ _)
 ·intro q hq
  rw [hps] at hq
  exact hfit q (List.mem_filter.1 hq).1
 ·rw [hids]; exact hall
 ·rw [comps_cv, hids]
  have hwb := sWithout_bd (n := c) hbd.1 hbd.2
  refine fold_of hwb.1 hwb.2 (sIs_without hbd.1 hbd.2 hid hs) hall fun n hn => ?_
  rw [has_without hbd.1 hbd.2 hid hn, List.mem_filter, mem_ids]
  simp
def WAdded (d : WD) (k : Int) (S' : WS) (N : Nat) (w w' : World) : Prop := ∃ d', WIn w' d' N ∧ WFr d d' w w' ∧ d'.wb = d.wb ∧ d'.S = if k = 0 then S' else d.S
theorem wAdd_any (h : WIn w d N) (hN : N ≤ 999990) (e : Int) (h0 : 0 ≤ e) (h1 : e < 18446744073709551616) (hp : IntIn d w va vl vc v) (c : Int) (hsis : ∀ s r, d.S.rowAt e = some (s, r) → sIs s = true) : Calls Tryz.prog 14 #[.pointer (some ⟨d.wb, 0, none⟩), .int .u64 e, .agg #[.int .i64 c, .slice va vl vc]] w (IsDeed d (d.S.addE e (c, v)) (d.S.addS e (c, v)) (N + 2) w) := by
 have hM : N ≤ N + 2 := Nat.le_add_right _ _
 by_cases he : e ∈ d.x.ix.liveL
 ·have hE : d.S.addE e (c, v) = if fC d.g.cs (c, v) ≠ 0 then fC d.g.cs (c, v) else match d.S.rowAt e with | none => 7 | some (s, _) => if hasB s c then 7 else d.S.openE (sWith s c) := h.if_live he _ _
  by_cases hk : fC d.g.cs (c, v) = 0
  ·rw [if_neg (fun hn => hn hk)] at hE
   rcases h.cases he with ⟨i, t, hpl, ht⟩ | ⟨i, r, t, hpl, ht⟩
   ·rw [rowAt_wait (show d.S.who e = _ from WMid.who_wait h hpl ht)] at hE
    have hE : d.S.addE e (c, v) = 7 := hE
    rw [hE]
    exact wAdd_wait h e he hp c hk hpl ht hM
   ·obtain ⟨V, row, hv, hvr, hV, hrl, hent, hw, hrow⟩ := WMid.who_row h hpl ht
    have hra := h.rowAt_row hpl ht hw
    have hS : d.S.addS e (c, v) = match d.S.rowAt e with | none => d.S | some (s, r) => d.S.movedS e (sWith s c) (cvOf s r ++ [(c, v)]) := rfl
    rw [hra] at hE hS
    have hE : d.S.addE e (c, v) = if hasB t.set c then 7 else d.S.openE (sWith t.set c) := hE
    have hS : d.S.addS e (c, v) = d.S.movedS e (sWith t.set c) (cvOf t.set row ++ [(c, v)]) := hS
    cases hb : hasB t.set c with
    | true =>
     rw [hb] at hE
     have hE : d.S.addE e (c, v) = 7 := hE
     rw [hE]
     exact wAdd_taken h e he hp c hk hpl ht hb hM
    | false =>
     rw [hb] at hE
     have hE : d.S.addE e (c, v) = d.S.openE (sWith t.set c) := hE
     rw [hE, hS]
     have hss := hsis _ _ hra
     have hlen := (WMid.fits h hpl ht hw).1
     have hcl : (cvOf t.set row).length = t.cps.length := by unfold cvOf; rw [List.length_zip, hlen, ← (WMid.tab h ht).ids, List.length_map]; exact Nat.min_self _
     have hn24 := (WMid.tab h ht).n24
     refine (wAdd_go h e he hp c hk hpl ht hb hra (by omega) (k := d.S.openE (sWith t.set c)) (Q := WAdded d (d.S.openE (sWith t.set c)) (d.S.movedS e (sWith t.set c) (cvOf t.set row ++ [(c, v)])) (N + 2) w) ?_).mono ?_
     ·intro w5 pa pc ps g cap W hb5 hpo hcv hown hgrow
      have hrow0 := (hpo.row.alloc (.cells #[.int .i64 c, .slice va vl vc] 48)).drew
      have hz5 := hb5.size
      have hwl : w.heap.size < w5.heap.size + 1 := by omega
      have hbA : Below w.heap.size w ((w5.alloc (.cells #[.int .i64 c, .slice va vl vc] 48)).drew) := (hb5.alloc hz5 _).drew
      have hle : w.heap.size + 1 ≤ ((w5.alloc (.cells #[.int .i64 c, .slice va vl vc] 48)).drew).heap.size := by simp; omega
      have hbW : Below w.heap.size w W := hbA.trans ((below_own hrow0 hgrow hle).mono (Nat.le_succ _))
      have hW := h.below hbW
      have hps : cv (ps ++ [⟨c, va, vl, vc, v⟩]) = cvOf t.set row ++ [(c, v)] := by
       have hh : cv (ps ++ [⟨c, va, vl, vc, v⟩]) = cv ps ++ [(c, v)] := by unfold cv; rw [List.map_append]; rfl
       rw [hh, hcv]
      obtain ⟨hpok, hfold⟩ := WMid.added hW hpl ht hw hss hk hb hps
      have hpin : PartsIn d W (some ⟨g, 0, none⟩) ((cvOf t.set row).length + 1) cap (ps ++ [⟨c, va, vl, vc, v⟩]) := by
       refine partsIn_own hW (B := w.heap.size + 1) (fun b hbf => Nat.lt_succ_of_lt (h.raw.lt hbf)) (by rw [List.flatMap_append]; exact hown) (by rw [List.length_append, hpo.len]; rfl) (by omega) fun p hpm => ?_
       rcases List.mem_append.1 hpm with hpm | hpm
       ·refine .inl ⟨?_, (hpo.vals p hpm).2⟩
        have ho1 := ((hpo.vals p hpm).1.alloc (.cells #[.int .i64 c, .slice va vl vc] 48)).drew
        exact ho1.kept hgrow (ownsRow_ne ho1 hrow0 (by decide))
       ·obtain rfl : p = _ := List.mem_singleton.1 hpm
        exact .inr (hp.below hbW)
      obtain ⟨cm, hcm, _⟩ := cpF_find (show cpF d.g.cs (pwOf (c, v)) = 0 from hk)
      have hcs : (findC c d.g.cs).isSome = true := by rw [show (pwOf (c, v)).comp = c from rfl] at hcm; rw [hcm]; rfl
      have hmv := wMove_any hW e he hpl ht (b := true) hcs hb hN hpin hpok hfold
      rw [hps] at hmv
      refine hmv.mono ?_
      rintro en w' ⟨d', hw', hf', hwb', rfl, hS'⟩
      refine ⟨rfl, ⟨d', hw', (WFr.of_below hbW).trans hf', hwb', hS'⟩, ?_⟩
      have hlt : w.heap.size < W.heap.size := by
       have := hown.2
       have h2 := (below_own hrow0 hgrow hle).size
       simp at h2
       omega
      exact hf'.out.block _ hlt fun hbf => Nat.lt_irrefl _ (h.raw.lt hbf)
     ·rintro en w' ⟨rfl, d', hw', hf', hwb', hS'⟩
      exact ⟨d', hw', hf', hwb', rfl, hS'⟩
  ·rw [if_pos hk] at hE
   rw [hE]
   exact wAdd_bad h e he hp c hk hM
 ·have hE : d.S.addE e (c, v) = 11 := h.if_dead h0 he _ _
  rw [hE]
  exact wAdd_dead h e h0 h1 he c va vl vc hM
end
end Go.Proofs.YthmpknlgkflhiabGreat
namespace Go.Proofs.YthmpknlgkflhiabGreat
open Go.RowKit
set_option linter.unusedVariables false
def rmClo (b : Nat) : Value := .func (.func 52) #[] #[.pointer (some ⟨b, 0, none⟩)]
section
variable {w w' : World}
set_option maxRecDepth 100000 in
theorem rmClo_any (b : Nat) (c : Int) (w : World) (hb : w.cell? ⟨b, 0, none⟩ = some (.int .i64 c)) (x : Int) (va : Option Addr) (vl vc : Nat) : Calls Tryz.prog 52 #[.agg #[.int .i64 x, .slice va vl vc], .pointer (some ⟨b, 0, none⟩)] w fun e w' => e = .returned (.bool (x == c)) ∧ Below w.heap.size w w' := by
 have hn := World.new_ne w _ hb
 have hlt := World.block_lt_of_cell? w _ hb
 go_enter Tryz.func52, Tryz.ntmps52
 go_wp2_with fail
 go_ret
 exact ⟨rfl, by go_grown⟩
set_option maxRecDepth 100000 in
set_option maxHeartbeats 1000000 in
theorem idxFunc_any (b : Nat) (c : Int) (pa : Option Addr) (n pc : Nat) (ps : List PW) (w : World) (hcs : PartsAt w.heap.size w pa n pc ps) (hb : w.cell? ⟨b, 0, none⟩ = some (.int .i64 c)) (k : Nat) (p : PW) (hk : ps[k]? = some p) (hp : p.comp = c) (hf : ∀ (j : Nat) (q : PW), j < k → ps[j]? = some q → q.comp ≠ c) :
  Calls Tryz.prog 93 #[.slice pa n pc, rmClo b] w fun e w' => e = .returned (.int .i64 (k : Int)) ∧ Below w.heap.size w w' := by
 obtain ⟨h1, h2, h3, _, h5⟩ := hcs
 have hkl : k < n := by rw [← h1]; exact (List.getElem?_eq_some_iff.1 hk).1
 have hlt := World.block_lt_of_cell? w _ hb
 have hmx : maxLen = 9223372036854775807 := rfl
 rcases h5 with h0 | ⟨q, off, rfl, hq, hcell⟩
 ·omega
 have HC := Lib.hid hcell
 have HB := Lib.hid hb
 have HK := Lib.hid hk
 have HF := Lib.hid hf
 clear hcell hb hk hf
 unfold rmClo
 go_enter Tryz.func93, Tryz.ntmps93
 go_wp2_with fail
 go_loopw [8] (fun j wr => ∃ m : Nat, m ≤ k ∧ j = .int .i64 (m : Int) ∧ Below w.heap.size w wr) (fun j _ => n - (intOf j).toNat)
 case atStart => exact ⟨0, by omega, rfl, Below.refl _ _⟩
 case round =>
  obtain ⟨m, hm, rfl, hbr⟩ := hrel
  have hml : m < n := by omega
  obtain ⟨x, hx⟩ : ∃ x, ps[m]? = some x := ⟨_, List.getElem?_eq_getElem (by omega)⟩
  obtain ⟨z0, z1⟩ := HC.out m x hx
  have y0 := (World.cell?_of_block (a := ⟨q, off + m * 2, none⟩) (hbr.block _ hq)).trans z0
  have y1 := (World.cell?_of_block (a := ⟨q, off + m * 2 + 1, none⟩) (hbr.block _ hq)).trans z1
  have i1 : (0 : Int) ≤ (m : Int) := by omega
  have i2 : (m : Int) < (n : Int) := by omega
  have HBR := Lib.hid hbr
  have HCL := Lib.hid (rmClo_any b c wr ((World.cell?_of_block (a := ⟨b, 0, none⟩) (hbr.block _ hlt)).trans HB.out) x.comp x.va x.vl x.vc)
  by_cases he : m = k
  ·subst he
   have hxp : x = p := by rw [HK.out] at hx; cases hx; rfl
   have hec : (x.comp == c) = true := by rw [hxp, hp]; simp
   rw [hec] at HCL
   clear z0 z1 hx hbr hxp hp hec
   go_wp2_with fail
   refine HCL.out.mono ?_
   rintro e w2 ⟨rfl, hb2⟩
   have HF2 := Lib.hid (HBR.out.trans (hb2.mono HBR.out.size))
   clear hb2
   go_wp2_with fail
   go_ret
   exact ⟨ret_intk (by omega), HF2.out⟩
  ·have hne : (x.comp == c) = false := by simpa using HF.out m x (by omega) hx
   rw [hne] at HCL
   clear z0 z1 hx hbr
   go_wp2_with fail
   refine HCL.out.mono ?_
   rintro e w2 ⟨rfl, hb2⟩
   have HF2 := Lib.hid (HBR.out.trans (hb2.mono HBR.out.size))
   clear hb2
   go_wp2_with fail
   go_roundw
   case rel => exact ⟨m + 1, by omega, by go_num, HF2.out⟩
   case measure => simp [intOf]; omega
end
end Go.Proofs.YthmpknlgkflhiabGreat
