/- world.New: the walk. · A new world. · The worlds' laws: great schemas, rows of numbers, the schema of two. · The worlds' laws: deeds as they lie; wild deeds. -/
import Derived.Test.YthmpknlgkflhiabGreatQ41
import Derived.Deep.RegionHeld3
import Derived.Laws.StructEq
namespace Go.Proofs.YthmpknlgkflhiabGreat
open Go.RowKit
set_option linter.unusedVariables false
section
variable {w w' : World}
theorem gNew_ok (ver : Int) (cs : List Cmp) (a : Option Addr) (len cap : Nat) (archs rows : Int) (w : World) (hcs : CompsAt w.heap.size w a len cs) (hw : CompsWf cs) (hl : len ≤ 100000) (hf : ∀ c ∈ cs, c.fields.length ≤ 100000) (hn : a = none → len = 0 ∧ cap = 0) (hs : schemaCheck ver cs = 0) (a1 : 1 ≤ archs ∧ archs ≤ 64) (r1 : 1 ≤ rows ∧ rows ≤ 256) :
    Calls Tryz.prog 30 #[.agg #[.int .i64 ver, .slice a len cap], .int .i64 archs, .int .i64 rows] w fun e w' => ∃ gb mb wmb ta tc, e = .returned (.pointer (some ⟨gb, 0, none⟩)) ∧ Graph 0 gb (GS0 ver cs archs rows) mb wmb ta tc w' ∧ (∀ b, gfoot gb mb wmb ta b → w.heap.size ≤ b) ∧ Below w.heap.size w w' := by
  refine (graphNew_any ver cs a len cap archs rows w hcs hw hl hf hn).mono ?_
  rintro e w' ⟨hb, hif⟩
  rw [if_pos (show newOk ver cs archs rows = true by simp [newOk, hs]; omega)] at hif
  obtain ⟨B1, gb, mb, wb, ta, tc, rfl, h1, h2, h3⟩ := hif
  exact ⟨gb, mb, wb, ta, tc, rfl, h2.mono0, h3, hb⟩
/-- The answer of world.New: its parts' places. -/
def NewW (c : CapsD) (ver : Int) (cs : List Cmp) (n : Nat) (w : World) (w' : World) (wb : Nat) : Prop :=
  ∃ x gb mb wmb ta tc ab, x.ix = newIX n c.gens ∧ XIn w' x ∧ Graph 0 gb (GS0 ver cs c.archs c.rows) mb wmb ta tc w' ∧ w'.heap[ab]? = some (.map #[] 0) ∧
    (∀ b, x.foot b → w.heap.size ≤ b) ∧ (∀ b, gfoot gb mb wmb ta b → w.heap.size ≤ b) ∧ w.heap.size ≤ ab ∧ w.heap.size ≤ wb ∧ Below w.heap.size w w' ∧ ab ≠ mb ∧ ab ≠ wmb ∧
    w'.heap[wb]? = some (.cells #[.int .i64 c.ents, .int .i64 c.rows, .int .i64 c.archs, .int .i64 c.cmds, .int .i64 c.fuel, .int .i64 c.gens, .pointer (some ⟨x.xb, 0, none⟩), .pointer (some ⟨gb, 0, none⟩), .map (some ab)] 88 (0, 0))
theorem gfoot_lt {gb mb wmb tc : Nat} {g : GS} {ta : Option Addr} {W : World} (h : Graph 0 gb g mb wmb ta tc W) {b : Nat} (hb : gfoot gb mb wmb ta b) : b < W.heap.size := by
  rcases h.kin hb with k | ⟨k, _⟩
  · obtain ⟨_, _, _, h1, _⟩ := k
    exact lt_some h1
  · obtain ⟨_, _, h1⟩ := k
    exact lt_some h1
theorem newW_end {c : CapsD} {ver : Int} {cs : List Cmp} {n : Nat} {w W : World} {x : XD} {gb mb wmb tc ab : Nat} {ta : Option Addr} (hB : Below w.heap.size w W) (hix : x.ix = newIX n c.gens) (hX : XIn W x) (hG : Graph 0 gb (GS0 ver cs c.archs c.rows) mb wmb ta tc W) (hab : W.heap[ab]? = some (.map #[] 0))
    (hxf : ∀ b, x.foot b → w.heap.size ≤ b) (hgf : ∀ b, gfoot gb mb wmb ta b → w.heap.size ≤ b) (ha : w.heap.size ≤ ab) (hn : ab ≠ mb ∧ ab ≠ wmb) :
    NewW c ver cs n w (W.alloc (.cells #[.int .i64 c.ents, .int .i64 c.rows, .int .i64 c.archs, .int .i64 c.cmds, .int .i64 c.fuel, .int .i64 c.gens, .pointer (some ⟨x.xb, 0, none⟩), .pointer (some ⟨gb, 0, none⟩), .map (some ab)] 88)) W.heap.size := by
  have hA : Below W.heap.size W (W.alloc (.cells #[.int .i64 c.ents, .int .i64 c.rows, .int .i64 c.archs, .int .i64 c.cmds, .int .i64 c.fuel, .int .i64 c.gens, .pointer (some ⟨x.xb, 0, none⟩), .pointer (some ⟨gb, 0, none⟩), .map (some ab)] 88)) := (Below.refl _ W).alloc (Nat.le_refl _) _
  exact ⟨x, gb, mb, wmb, ta, tc, ab, hix, hX.below hA, hG.below hA, (hA.block _ (by rcases Nat.lt_or_ge ab W.heap.size with h | h; exact h; rw [Array.getElem?_eq_none h] at hab; cases hab)).trans hab, hxf, hgf, ha, hB.size, hB.trans (hA.mono hB.size), hn.1, hn.2, heap_alloc_new W _⟩
set_option maxRecDepth 100000 in
set_option maxHeartbeats 4000000 in
theorem wNew_walk (c : CapsD) (h : CapsOk c) (ver : Int) (cs : List Cmp) (a : Option Addr) (len cap n : Nat) (hn : c.ents = (n : Int)) (w : World) (hcs : CompsAt w.heap.size w a len cs) (hw : CompsWf cs) (hl : len ≤ 100000) (hf : ∀ c ∈ cs, c.fields.length ≤ 100000) (hna : a = none → len = 0 ∧ cap = 0) (hs : schemaCheck ver cs = 0) :
    Calls Tryz.prog 8 #[.agg #[.int .i64 ver, .slice a len cap], .agg #[.int .i64 c.ents, .int .i64 c.rows, .int .i64 c.archs, .int .i64 c.cmds, .int .i64 c.fuel, .int .i64 c.gens]] w fun e w' => ∃ wb, e = .returned (.pointer (some ⟨wb, 0, none⟩)) ∧ NewW c ver cs n w w' wb := by
  have HCC := Lib.hid (fun (W : World) => checkCaps_ok c h W)
  obtain ⟨a1, a2, a3, a4, a5, a6, hcc⟩ : ∃ a1 a2 a3 a4 a5 a6, c = ⟨a1, a2, a3, a4, a5, a6⟩ := ⟨_, _, _, _, _, _, rfl⟩
  subst hcc
  have hn : a1 = (n : Int) := hn
  subst hn
  have hb0 : Below w.heap.size w ((w.alloc (.cells #[.int .i64 ver, .slice a len cap] 24)).alloc (.cells #[.int .i64 (n : Int), .int .i64 a2, .int .i64 a3, .int .i64 a4, .int .i64 a5, .int .i64 a6] 26)) := by go_grown
  have HB0 := Lib.hid hb0
  have HS0 := Lib.hid (keepA (.cells #[.int .i64 (n : Int), .int .i64 a2, .int .i64 a3, .int .i64 a4, .int .i64 a5, .int .i64 a6] 26) (heap_alloc_new w (.cells #[.int .i64 ver, .slice a len cap] 24)))
  have HC0 := Lib.hid (heap_alloc_new (w.alloc (.cells #[.int .i64 ver, .slice a len cap] 24)) (.cells #[.int .i64 (n : Int), .int .i64 a2, .int .i64 a3, .int .i64 a4, .int .i64 a5, .int .i64 a6] 26))
  have hsc := fun (W : World) (hb : Below w.heap.size w W) => schemaCheck_any ver cs a len cap W ((hcs.below hb).mono hb.size) hw
  rw [hs] at hsc
  have HSC := Lib.hid hsc
  have HG := Lib.hid (fun (W : World) (hb : Below w.heap.size w W) => gNew_ok ver cs a len cap a3 a2 W ((hcs.below hb).mono hb.size) hw hl hf hna hs h.archs h.rows)
  have hen := h.ents
  have hge := h.gens
  have HX := Lib.hid (fun (W : World) => xNew_ok n a6 W (by have h1 : (1 : Int) ≤ (n : Int) := hen.1; omega) (by have h1 : (n : Int) ≤ 256 := hen.2; omega) hge.1 hge.2)
  clear h hb0 hcs hw hl hf hna hs hsc hen hge
  go_enter Tryz.func8, Tryz.ntmps8
  go_wp2_with fail
  refine (HSC.out _ HB0.out).mono ?_
  rintro e w1 ⟨rfl, hb1⟩
  have hc1 := keep hb1 HC0.out
  have x0 := cell_at hc1 0
  have x1 := cell_at hc1 1
  have x2 := cell_at hc1 2
  have x3 := cell_at hc1 3
  have x4 := cell_at hc1 4
  have x5 := cell_at hc1 5
  simp at x0 x1 x2 x3 x4 x5
  go_wp2_with fail
  refine (HCC.out _).mono ?_
  rintro e w2 ⟨rfl, hb2⟩
  have HB2 := Lib.hid (HB0.out.trans ((hb1.mono HB0.out.size).trans (hb2.mono (HB0.out.trans (hb1.mono HB0.out.size)).size)))
  have hs2 := keep hb2 (keep hb1 HS0.out)
  have hc2 := keep hb2 hc1
  have u0 := cell_at hs2 0
  have u1 := cell_at hs2 1
  have y0 := cell_at hc2 0
  have y1 := cell_at hc2 1
  have y2 := cell_at hc2 2
  have y3 := cell_at hc2 3
  have y4 := cell_at hc2 4
  have y5 := cell_at hc2 5
  simp at u0 u1 y0 y1 y2 y3 y4 y5
  have hl2 := lt_some hs2
  have hl3 : w.heap.size + 1 < w2.heap.size := by have := lt_some hc2; simpa using this
  have hdz : w2.drew.heap.size = w2.heap.size := rfl
  clear x0 x1 x2 x3 x4 x5 hs2 hc2 hc1 hb1 hb2
  have hmm := @run_makeMap Tryz.prog
  have hsz : ∀ (W : World) (o : Obj), (W.alloc o).heap.size = W.heap.size + 1 := fun W o => by simp
  go_upto_region 3 with (fail)
  go_region_held3 (fun w' => Below w.heap.size w w' ∧ w.heap.size + 1 < w'.heap.size ∧ w'.cell? ⟨w.heap.size, 0, none⟩ = some (.int .i64 ver) ∧ w'.cell? ⟨w.heap.size, 1, none⟩ = some (.slice a len cap) ∧ w'.cell? ⟨w.heap.size + 1, 0, none⟩ = some (.int .i64 (n : Int)) ∧ w'.cell? ⟨w.heap.size + 1, 1, none⟩ = some (.int .i64 a2) ∧ w'.cell? ⟨w.heap.size + 1, 2, none⟩ = some (.int .i64 a3) ∧ w'.cell? ⟨w.heap.size + 1, 3, none⟩ = some (.int .i64 a4) ∧ w'.cell? ⟨w.heap.size + 1, 4, none⟩ = some (.int .i64 a5) ∧ w'.cell? ⟨w.heap.size + 1, 5, none⟩ = some (.int .i64 a6))
    ((go_split_ands
      refine ⟨by first | exact HB2.out.drew | assumption | (exact Below.trans (by assumption) (hbx.mono (by first | omega | (simp; omega) | (simp only [hsz] at *; omega)))) | (exact Below.alloc (by assumption) (by first | omega | (simp; omega) | (simp only [hsz] at *; omega)) _), by first | omega | (have := hbx.size; omega) | (simp; omega) | (have := hbx.size; simp only [hsz] at *; omega), ?_, ?_, ?_, ?_, ?_, ?_, ?_, ?_⟩
      all_goals first | go_keep | (refine Eq.trans (World.cell?_of_block (hbx.block _ (by first | omega | (simp; omega) | (simp only [hsz] at *; omega)))) ?_; assumption)))
    (first
      | (go_at_call 29; refine (HX.out _).mono ?_; rintro e1 wx ⟨x, rfl, hix, hXI, hXF, hbx⟩; have hbX := hbx)
      | (go_at_call 30; refine (HG.out _ (by go_split_ands; first | assumption | exact HB2.out.drew)).mono ?_; rintro e1 wx ⟨gb, mb, wmb, ta, tc, rfl, hgr, hgf, hbx⟩; have hbG := hbx))
  all_goals go_split_ands
  all_goals go_wp2_with fail
  all_goals go_ret
  · have hd := HB2.out.drew
    have hB1 := hd.trans (hbX.mono hd.size)
    have hB2 := hB1.trans (hbG.mono hB1.size)
    have ha : Below wx.heap.size wx (wx.alloc (.map #[] 0)) := (Below.refl _ wx).alloc (Nat.le_refl _) _
    have hh := newW_end (c := ⟨(n : Int), a2, a3, a4, a5, a6⟩) (ver := ver) (cs := cs) (n := n) (hB2.alloc hB2.size (.map #[] 0)) hix ((hXI.below hbG).below ha) (hgr.below ha) (heap_alloc_new wx (.map #[] 0)) (fun b hb => Nat.le_trans hd.size (hXF b hb)) (fun b hb => Nat.le_trans hB1.size (hgf b hb)) hB2.size
      ⟨fun e => Nat.lt_irrefl _ (e ▸ gfoot_lt hgr (.inr (.inl rfl))), fun e => Nat.lt_irrefl _ (e ▸ gfoot_lt hgr (.inr (.inr (.inl rfl))))⟩
    rw [hsz] at hh
    exact ⟨_, rfl, hh⟩
  · have hd := HB2.out.drew
    have hB1 := hd.trans (hbX.mono hd.size)
    have hBm := hB1.alloc hB1.size (.map #[] 0)
    have hB2 := hBm.trans (hbG.mono hBm.size)
    have hh := newW_end (c := ⟨(n : Int), a2, a3, a4, a5, a6⟩) (ver := ver) (cs := cs) (n := n) hB2 hix ((hXI.below ((Below.refl _ _).alloc (Nat.le_refl _) (.map #[] 0))).below hbG) hgr (keep hbG (heap_alloc_new _ (.map #[] 0))) (fun b hb => Nat.le_trans hd.size (hXF b hb)) (fun b hb => Nat.le_trans hBm.size (hgf b hb)) hB1.size
      ⟨fun e => by have := hgf _ (.inr (.inl rfl)); rw [hsz] at this; omega, fun e => by have := hgf _ (.inr (.inr (.inl rfl))); rw [hsz] at this; omega⟩
    exact ⟨_, rfl, hh⟩
  · have hd := (HB2.out.alloc HB2.out.size (.map #[] 0)).drew
    have hB1 := hd.trans (hbX.mono hd.size)
    have hB2 := hB1.trans (hbG.mono hB1.size)
    have hz : w2.heap.size + 1 ≤ (w2.alloc (.map #[] 0)).drew.heap.size := by rw [← hsz w2 (.map #[] 0)]; exact Nat.le_refl _
    have hz1 := hbX.size
    have hh := newW_end (c := ⟨(n : Int), a2, a3, a4, a5, a6⟩) (ver := ver) (cs := cs) (n := n) hB2 hix (hXI.below hbG) hgr (keep hbG (keep hbX (show (w2.alloc (.map #[] 0)).drew.heap[w2.heap.size]? = _ from heap_alloc_new w2 (.map #[] 0)))) (fun b hb => Nat.le_trans hd.size (hXF b hb)) (fun b hb => Nat.le_trans hB1.size (hgf b hb)) HB2.out.size
      ⟨fun e => by have := hgf _ (.inr (.inl rfl)); omega, fun e => by have := hgf _ (.inr (.inr (.inl rfl))); omega⟩
    exact ⟨_, rfl, hh⟩
end
end Go.Proofs.YthmpknlgkflhiabGreat
namespace Go.Proofs.YthmpknlgkflhiabGreat
open Go.RowKit
set_option linter.unusedVariables false
section
variable {w w' : World}
theorem atM_new {ab : Nat} (h : w.heap[ab]? = some (.map #[] 0)) : AtM w ab (fun _ => none) 0 := by
 obtain ⟨es, cl, hb, F, _, _⟩ := World.ownsMap_made w Tryz.prog 38 heldR
 rw [heap_alloc_new] at hb
 cases hb
 exact ⟨fun _ => none, ⟨.map [], ⟨#[], 0, h, F, Nat.le_refl _, rfl⟩, rfl, fun kl => ⟨rfl, fun v h => by cases h⟩⟩, fun _ _ _ => rfl⟩
theorem newIX_live {n : Nat} {g : Int} (n1 : 1 ≤ n) (n2 : n ≤ 256) (g1 : 1 ≤ g) (g2 : g ≤ 65535) : (newIX n g).liveL = [] := by
 have hlen : (newIX n g).lives.length = (newIX n g).gens.length := (newIX_ok n1 n2 g1 g2).1.len
 refine List.eq_nil_iff_forall_not_mem.2 fun e he => ?_
 obtain ⟨id, h1, _⟩ := (IX.mem_liveL hlen e).1 he
 have h2 : (newIX n g).live id = false := by
  show (List.replicate (n + 1) false).getD id false = false
  rw [List.getD_eq_getElem?_getD, List.getElem?_replicate]
  split <;> rfl
 rw [h2] at h1; cases h1
def WS0 (c : CapsD) (ver : Int) (cs : List Cmp) (n : Nat) : WS := ⟨c, ver, cs, newIX n c.gens, [], fun _ => none⟩
theorem newW_in {c : CapsD} (h : CapsOk c) {ver : Int} {cs : List Cmp} {n : Nat} (hn : c.ents = (n : Int)) (hs : schemaCheck ver cs = 0) {wb : Nat} (hw : NewW c ver cs n w w' wb) : ∃ d, WIn w' d 0 ∧ d.wb = wb ∧ d.S = WS0 c ver cs n ∧ (∀ b, d.foot b → w.heap.size ≤ b) ∧ Below w.heap.size w w' := by
 obtain ⟨x, gb, mb, wmb, ta, tc, ab, hix, hX, hG, hab, hxf, hgf, ha, hwb, hB, n1, n2, hblk⟩ := hw
 have hen := h.ents
 rw [hn] at hen
 have hl : x.ix.liveL = [] := by rw [hix]; exact newIX_live (by omega) (by omega) h.gens.1 h.gens.2
 have hg : newOk ver cs c.archs c.rows = true := by
  have := h.archs
  have := h.rows
  simp [newOk, hs]; omega
 refine ⟨{ wb := wb, caps := c, x := x, gb := gb, g := GS0 ver cs c.archs c.rows, mb := mb, wmb := wmb, ta := ta, tc := tc, ab := ab, T := [], V := [], pl := fun _ => none }, ?_, rfl, ?_, ?_, hB⟩
 ·unfold WIn
  show WMid w' _ x.ix.liveL 0
  rw [hl]
  refine ⟨⟨hblk, hX, hG, ⟨rfl, by simp, by simp, by simp⟩, rfl, by simp, atM_new hab, n1, n2⟩, ⟨List.nodup_nil, by simp [WD.P], ?_, ?_, ?_, ?_, ?_⟩, inv_new hg, Nat.le_refl _, rfl, rfl, ?_, ?_, hs, h, by simp⟩
  ·intro e i r
   constructor
   ·intro hh; cases hh
   ·rintro ⟨t, ht, _⟩
    have ht : ([] : List PT)[i]? = some t := ht
    simp at ht
  ·intro e p hp; cases hp
  ·intro i t ht
   have ht : ([] : List PT)[i]? = some t := ht
   simp at ht
  ·intro t ht
   have ht : t ∈ ([] : List PT) := ht
   simp at ht
  ·exact List.nodup_nil
  ·show x.ix.most = c.gens
   rw [hix]; rfl
  ·show (x.ix.gens.length : Int) = c.ents + 1
   rw [hix, hn]
   show ((gensL n (n + 1)).length : Int) = _
   rw [gensL_len]; omega
 ·show (⟨c, ver, cs, x.ix, ([] : List (Nat × Int)).map (·.2), fun e => _⟩ : WS) = _
  rw [hix]
  rfl
 ·intro b hb
  rcases hb with rfl | rfl | hb | hb | ⟨t, ht, _⟩
  ·exact hwb
  ·exact ha
  ·exact hxf b hb
  ·exact hgf b hb
  ·have ht : t ∈ ([] : List TD) := ht
   simp at ht
theorem wNew_any (c : CapsD) (h : CapsOk c) (ver : Int) (cs : List Cmp) (a : Option Addr) (len cap n : Nat) (hn : c.ents = (n : Int)) (w : World) (hcs : CompsAt w.heap.size w a len cs) (hw : CompsWf cs) (hl : len ≤ 100000) (hf : ∀ c ∈ cs, c.fields.length ≤ 100000) (hna : a = none → len = 0 ∧ cap = 0) (hs : schemaCheck ver cs = 0) :
  Calls Tryz.prog 8 #[.agg #[.int .i64 ver, .slice a len cap], .agg #[.int .i64 c.ents, .int .i64 c.rows, .int .i64 c.archs, .int .i64 c.cmds, .int .i64 c.fuel, .int .i64 c.gens]] w fun e w' => ∃ d, e = .returned (.pointer (some ⟨d.wb, 0, none⟩)) ∧ WIn w' d 0 ∧ d.S = WS0 c ver cs n ∧ (∀ b, d.foot b → w.heap.size ≤ b) ∧ Below w.heap.size w w' := by
 refine (wNew_walk c h ver cs a len cap n hn w hcs hw hl hf hna hs).mono ?_
 rintro e w' ⟨wb, rfl, hN⟩
 obtain ⟨d, h1, rfl, h3, h4, h5⟩ := newW_in h hn hs hN
 exact ⟨d, rfl, h1, h3, h4, h5⟩
end
end Go.Proofs.YthmpknlgkflhiabGreat
namespace Go.Proofs.YthmpknlgkflhiabGreat
open Go.RowKit
set_option linter.unusedVariables false
def great18B (cs : List Cmp) : Bool := decide (30 < cs.length) || cs.any fun c => decide (12 < c.fields.length)
theorem great18_f {cs : List Cmp} (h : great18B cs = false) : ∀ c ∈ cs, c.fields.length ≤ 100000 := by
 intro c hc
 unfold great18B at h
 rw [Bool.or_eq_false_iff, List.any_eq_false] at h
 have := h.2 c hc
 simp at this
 omega
set_option maxRecDepth 100000 in
theorem great18_any (ver : Int) (cs : List Cmp) (a : Option Addr) (len cap : Nat) (w : World) (hcs : CompsAt w.heap.size w a len cs) : Calls Tryz.prog 6 #[.agg #[.int .i64 ver, .slice a len cap]] w fun e w' => e = .returned (.bool (great18B cs)) ∧ Below w.heap.size w w' := by
 have hmx : len ≤ maxLen := hcs.2.1
 have hll := hcs.1
 unfold maxLen at hmx
 have HLL := Lib.hid hll
 clear hll
 have hbel0 : Below w.heap.size w (w.alloc (.cells #[.int .i64 ver, .slice a len cap] 24)) := by go_grown
 by_cases h30 : 30 < len
 ·have HT : Hid (great18B cs = true) := Lib.hid (by simp [great18B, HLL.out]; omega)
  go_enter Tryz.func6, Tryz.ntmps6
  go_wp2_with fail
  go_returns
  exact ⟨ret_bool HT.out.symm, hbel0⟩
 ·go_enter Tryz.func6, Tryz.ntmps6
  go_wp2_with fail
  go_loopw [3] (fun i wr => ∃ k : Nat, k ≤ len ∧ i = .int .i64 k ∧ great18B cs = ((cs.drop k).any fun c => decide (12 < c.fields.length)) ∧ w.alloc (.cells #[.int .i64 ver, .slice a len cap] 24) = wr) (fun i _ => len - (intOf i).toNat)
  case atStart => exact ⟨0, Nat.zero_le _, rfl, by simp [great18B, HLL.out]; omega, rfl⟩
  case round =>
   obtain ⟨k, hk, rfl, hgo, rfl⟩ := hrel
   have HGO := Lib.hid hgo
   clear hgo
   by_cases hlt : k < len
   ·obtain ⟨b, off, c, rfl, hB, hc, c0, c1, fa, fl, fc, c2, hF, hnil⟩ := hcs.get hbel0 hlt
    have hstep := Lib.hid (HGO.out.trans (by rw [drop_get hc]))
    have hfl := hF.1
    have hfm := hF.2.1
    unfold maxLen at hfm
    have HFL := Lib.hid hfl
    clear hF hfl
    by_cases h12 : 12 < fl
    ·have HT : Hid (great18B cs = true) := Lib.hid (by rw [hstep.out, List.any_cons, HFL.out]; simp [h12])
     go_wp2_with fail
     go_returns
     exact ⟨ret_bool HT.out.symm, hbel0⟩
    ·have HT := Lib.hid (hstep.out.trans (show _ = ((cs.drop (k + 1)).any fun c => decide (12 < c.fields.length)) by rw [List.any_cons, HFL.out]; simp [h12]))
     go_wp2_with fail
     go_roundw
     case rel => exact ⟨k + 1, by omega, by go_num, HT.out, by trivial⟩
     case measure => simp [intOf]; omega
   ·obtain rfl : k = len := by omega
    have HT : Hid (great18B cs = false) := Lib.hid (by rw [HGO.out, List.drop_eq_nil_of_le (by rw [HLL.out]; exact Nat.le_refl _)]; rfl)
    go_wp2_with fail
    go_returns
    exact ⟨ret_bool HT.out.symm, hbel0⟩
def Drawn (w w' : World) : Prop := ∃ m, w' = w.drewN m
theorem Drawn.refl (w : World) : Drawn w w := ⟨0, rfl⟩
theorem Drawn.more {w w' : World} (h : Drawn w w') (n : Nat) : Drawn w (w'.drewN n) := by
 obtain ⟨m, rfl⟩ := h
 exact ⟨m + n, World.drewN_drewN _ _ _⟩
theorem Drawn.below {w w' : World} (h : Drawn w w') : Below w.heap.size w w' := by
 obtain ⟨m, rfl⟩ := h
 exact below_drewN (Below.refl _ _) m
set_option maxRecDepth 100000 in
theorem values18_any (xs ys : List WI) (a : Option Addr) (l c : Nat) (a' : Option Addr) (l' c' : Nat) (w : World) (hx : IntsAt w.heap.size w a l c xs) (hy : IntsAt w.heap.size w a' l' c' ys) :
  Calls Tryz.prog 20 #[.slice a l c, .slice a' l' c'] w fun e w' => ∃ r : Bool, e = .returned (.bool r) ∧ (r = true ↔ xs = ys) ∧ Drawn w w' := by
 have hlx := hx.1
 have hly := hy.1
 have hmx : l ≤ maxLen := Nat.le_trans hx.2.1 hx.2.2.1
 have hmy : l' ≤ maxLen := Nat.le_trans hy.2.1 hy.2.2.1
 unfold maxLen at hmx hmy
 have HX := Lib.hid hx
 have HY := Lib.hid hy
 have HLX := Lib.hid hlx
 have HLY := Lib.hid hly
 clear hx hy hlx hly
 by_cases hl : l = l'
 ·subst hl
  go_enter Tryz.func20, Tryz.ntmps20
  go_wp2_with fail
  go_loopw [5] (fun i wr => ∃ k : Nat, k ≤ l ∧ i = .int .i64 (k : Int) ∧ xs.take k = ys.take k ∧ Drawn w wr) (fun i _ => l - (intOf i).toNat)
  case atStart => exact ⟨0, by omega, rfl, rfl, Drawn.refl _⟩
  case round =>
   obtain ⟨k, hk, rfl, htk, hdr⟩ := hrel
   have hbr := hdr.below
   have HDR := Lib.hid hdr
   clear hdr
   by_cases hlt : k < l
   ·obtain ⟨b, off, x, rfl, hB, hxk, hxw, x0, x1, x2⟩ := HX.out.get hbr hlt
    obtain ⟨b', off', y, rfl, hB', hyk, hyw, y0, y1, y2⟩ := HY.out.get hbr hlt
    obtain ⟨xn, xh, xl⟩ := x
    obtain ⟨yn, yh, yl⟩ := y
    have hne := fun w => int_ne xn yn xh yh xl yl w
    obtain ⟨r, hr⟩ : ∃ r, (xn == yn && (xh == yh && xl == yl)) = r := ⟨_, rfl⟩
    rw [hr] at hne
    have HR := Lib.hid hr
    have HXK := Lib.hid hxk
    have HYK := Lib.hid hyk
    have HTK := Lib.hid htk
    have HBR := Lib.hid hbr
    have i1 : (0 : Int) ≤ (k : Int) := by omega
    have i2 : (k : Int) < (l : Int) := by omega
    have z1 : b < wr.heap.size := by have := hbr.size; omega
    have z2 : b' < wr.heap.size := by have := hbr.size; omega
    clear hr hxk hyk htk hbr hxw hyw
    cases r
    ·go_wp2_with fail
     go_quiet (fail)
     go_wp2_with fail
     go_returns
     refine ⟨false, rfl, ⟨fun h => (by cases h), fun h => ?_⟩, HDR.out.more _⟩
     have h1 := HXK.out
     rw [h, HYK.out] at h1
     cases h1
     have := HR.out
     simp at this
    ·go_wp2_with fail
     go_quiet (fail)
     go_wp2_with fail
     go_roundw
     case rel => exact ⟨k + 1, by omega, by go_num, take_eq_succ HXK.out HYK.out HTK.out (wi_ext HR.out), HDR.out.more _⟩
     case measure => simp only [intOf]; omega
   ·obtain rfl : k = l := by omega
    have HT := Lib.hid htk
    clear htk
    go_wp2_with fail
    go_returns
    refine ⟨true, rfl, ⟨fun _ => ?_, fun _ => rfl⟩, HDR.out⟩
    have h := HT.out
    rw [List.take_of_length_le (by have := HLX.out; omega), List.take_of_length_le (by have := HLY.out; omega)] at h
    exact h
 ·have hl2 : ((l : Int) != (l' : Int)) = true := by rw [bne_iff_ne]; omega
  go_enter Tryz.func20, Tryz.ntmps20
  go_wp2_with fail
  go_returns
  exact ⟨false, rfl, ⟨fun h => (by cases h), fun h => absurd (by rw [← HLX.out, ← HLY.out, h]) hl⟩, Drawn.refl _⟩
def cs18 : List Cmp := [⟨1, ⟨#[97]⟩, [⟨⟨#[120]⟩, 6, 1⟩]⟩, ⟨2, ⟨#[98]⟩, []⟩]
def IsTwo18 (w : World) (e : Ending) (w' : World) : Prop := ∃ a c, e = .returned (.agg #[.int .i64 1, .slice (some a) 2 c]) ∧ CompsAt w'.heap.size w' (some a) 2 cs18 ∧ Below w.heap.size w w'
set_option maxRecDepth 100000 in
theorem two18_any (w : World) : Calls Tryz.prog 21 #[] w (IsTwo18 w) := by
 go_enter Tryz.func21, Tryz.ntmps21
 go_wp2_with fail
 go_returns
 refine ⟨_, _, rfl, ⟨rfl, by unfold maxLen; omega, .inr ⟨w.heap.size + 1 + 1, 0, rfl, by simp, ?_⟩⟩, by go_grown⟩
 intro i c hc
 have hh := heap_alloc_new ((w.alloc (.cells #[.int .i64 1, .slice (some ⟨w.heap.size + 1 + 1, 0, none⟩) 2 2] 24)).alloc (.cells #[.string ⟨#[120]⟩, .int .i64 6, .int .i64 1] 117)) (.cells #[.int .i64 1, .string ⟨#[97]⟩, .slice (some ⟨w.heap.size + 1, 0, none⟩) 1 1, .int .i64 2, .string ⟨#[98]⟩, .slice none 0 0] 80)
 rw [World.size_alloc, World.size_alloc] at hh
 have hf := keepA (.cells #[.int .i64 1, .string ⟨#[97]⟩, .slice (some ⟨w.heap.size + 1, 0, none⟩) 1 1, .int .i64 2, .string ⟨#[98]⟩, .slice none 0 0] 80) (heap_alloc_new (w.alloc (.cells #[.int .i64 1, .slice (some ⟨w.heap.size + 1 + 1, 0, none⟩) 2 2] 24)) (.cells #[.string ⟨#[120]⟩, .int .i64 6, .int .i64 1] 117))
 rw [World.size_alloc] at hf
 match i, hc with
 | 0, hc =>
  cases hc
  refine ⟨by rw [cell_at hh]; rfl, by rw [cell_at hh]; rfl, some ⟨w.heap.size + 1, 0, none⟩, 1, 1, by rw [cell_at hh]; rfl, ⟨rfl, by unfold maxLen; omega, .inr ⟨w.heap.size + 1, 0, rfl, by simp, fun j f hf' => ?_⟩⟩, fun h => by cases h⟩
  match j, hf' with
  | 0, hf' =>
   cases hf'
   exact ⟨by rw [cell_at hf]; rfl, by rw [cell_at hf]; rfl, by rw [cell_at hf]; rfl⟩
  | n + 1, hf' => simp at hf'
 | 1, hc =>
  cases hc
  exact ⟨by rw [cell_at hh]; rfl, by rw [cell_at hh]; rfl, none, 0, 0, by rw [cell_at hh]; rfl, ⟨rfl, by unfold maxLen; omega, .inl rfl⟩, fun _ => ⟨rfl, rfl⟩⟩
 | n + 2, hc => simp [cs18] at hc
theorem cs18_wf : CompsWf cs18 := by
 intro c hc
 simp only [cs18, List.mem_cons, List.not_mem_nil, or_false] at hc
 rcases hc with rfl | rfl
 ·refine ⟨by decide, fun f hf => ?_⟩
  simp only [List.mem_cons, List.not_mem_nil, or_false] at hf
  subst hf
  decide
 ·exact ⟨by decide, fun f hf => by cases hf⟩
theorem cs18_f : ∀ c ∈ cs18, c.fields.length ≤ 100000 := by
 intro c hc
 simp only [cs18, List.mem_cons, List.not_mem_nil, or_false] at hc
 rcases hc with rfl | rfl <;> decide
def caps18 : CapsD := ⟨2, 2, 4, 4, 9, 2⟩
theorem caps18_ok : CapsOk caps18 := by constructor <;> decide
set_option maxRecDepth 100000 in
theorem caps18_any (w : World) : Calls Tryz.prog 22 #[] w fun e w' => e = .returned (.agg #[.int .i64 2, .int .i64 2, .int .i64 4, .int .i64 4, .int .i64 9, .int .i64 2]) ∧ Below w.heap.size w w' := by
 go_enter Tryz.func22, Tryz.ntmps22
 go_wp2_with fail
 go_returns
 exact ⟨rfl, by go_grown⟩
end Go.Proofs.YthmpknlgkflhiabGreat
namespace Go.Proofs.YthmpknlgkflhiabGreat
open Go.RowKit
set_option linter.unusedVariables false
structure WA where
 kind : Int
 i : Int
 e : Int
 comp : Int
 pa : Option Addr
 pl : Nat
 pc : Nat
 ps : List PW
def WActsAt (B : Nat) (w : World) (a : Option Addr) (len : Nat) (l : List WA) : Prop :=
 l.length = len ∧ len ≤ maxLen ∧ (∀ x ∈ l, PartsAt B w x.pa x.pl x.pc x.ps ∧ 0 ≤ x.e ∧ x.e < 18446744073709551616) ∧ (len = 0 ∨ ∃ b off, a = some ⟨b, off, none⟩ ∧ b < B ∧ ∀ (i : Nat) (x : WA), l[i]? = some x →
  w.cell? ⟨b, off + i * 5, none⟩ = some (.int .i64 x.kind) ∧ w.cell? ⟨b, off + i * 5 + 1, none⟩ = some (.int .i64 x.i) ∧ w.cell? ⟨b, off + i * 5 + 2, none⟩ = some (.int .u64 x.e) ∧ w.cell? ⟨b, off + i * 5 + 3, none⟩ = some (.int .i64 x.comp) ∧ w.cell? ⟨b, off + i * 5 + 4, none⟩ = some (.slice x.pa x.pl x.pc))
theorem WActsAt.below {B : Nat} {w w' : World} {a : Option Addr} {len : Nat} {l : List WA} (h : WActsAt B w a len l) (hb : Below B w w') : WActsAt B w' a len l := by
 obtain ⟨h1, h2, h4, h3⟩ := h
 refine ⟨h1, h2, fun x hx => ⟨(h4 x hx).1.below hb, (h4 x hx).2⟩, h3.imp id ?_⟩
 rintro ⟨b, off, ha, hB, hc⟩
 refine ⟨b, off, ha, hB, fun i x hx => ?_⟩
 obtain ⟨c0, c1, c2, c3, c4⟩ := hc i x hx
 exact ⟨(hb.cell (p := ⟨b, _, none⟩) hB).trans c0, (hb.cell (p := ⟨b, _, none⟩) hB).trans c1, (hb.cell (p := ⟨b, _, none⟩) hB).trans c2, (hb.cell (p := ⟨b, _, none⟩) hB).trans c3, (hb.cell (p := ⟨b, _, none⟩) hB).trans c4⟩
theorem WActsAt.mono {B C : Nat} {w : World} {a : Option Addr} {len : Nat} {l : List WA} (h : WActsAt B w a len l) (hb : B ≤ C) : WActsAt C w a len l := by
 obtain ⟨h1, h2, h4, h3⟩ := h
 refine ⟨h1, h2, fun x hx => ⟨(h4 x hx).1.mono hb, (h4 x hx).2⟩, h3.imp id ?_⟩
 rintro ⟨b, off, ha, hB, hc⟩
 exact ⟨b, off, ha, Nat.lt_of_lt_of_le hB hb, hc⟩
theorem WActsAt.get {B : Nat} {w : World} {a : Option Addr} {len : Nat} {l : List WA} (h : WActsAt B w a len l) {k : Nat} (hk : k < len) :
  ∃ b off x, a = some ⟨b, off, none⟩ ∧ b < B ∧ l[k]? = some x ∧ PartsAt B w x.pa x.pl x.pc x.ps ∧ w.cell? ⟨b, off + k * 5, none⟩ = some (.int .i64 x.kind) ∧ w.cell? ⟨b, off + k * 5 + 1, none⟩ = some (.int .i64 x.i) ∧ w.cell? ⟨b, off + k * 5 + 2, none⟩ = some (.int .u64 x.e) ∧ w.cell? ⟨b, off + k * 5 + 3, none⟩ = some (.int .i64 x.comp) ∧ w.cell? ⟨b, off + k * 5 + 4, none⟩ = some (.slice x.pa x.pl x.pc) := by
 obtain ⟨h1, h2, h4, h3⟩ := h
 rcases h3 with h3 | ⟨b, off, ha, hB, hc⟩
 ·omega
 ·have hl : k < l.length := by omega
  obtain ⟨c0, c1, c2, c3, c4⟩ := hc k _ (List.getElem?_eq_getElem hl)
  exact ⟨b, off, l[k], ha, hB, List.getElem?_eq_getElem hl, (h4 _ (List.getElem_mem hl)).1, c0, c1, c2, c3, c4⟩
def TameA (x : WA) : Prop := x.pl ≤ 12 ∧ ∀ p ∈ x.ps, p.vl ≤ 100
def IsWild (l : List WA) (len : Nat) (w : World) (e : Ending) (w' : World) : Prop := ∃ r : Bool, e = .returned (.bool r) ∧ (r = false → len ≤ 80 ∧ ∀ x ∈ l, TameA x) ∧ w = w'
theorem take_all {α : Type} {l : List α} {P : α → Prop} {k : Nat} {x : α} (hx : l[k]? = some x) (h : ∀ y ∈ l.take k, P y) (hp : P x) : ∀ y ∈ l.take (k + 1), P y := by
 intro y hy
 rw [take_snoc hx] at hy
 rcases List.mem_append.1 hy with hy | hy
 ·exact h y hy
 ·obtain rfl : y = x := by simpa using hy
  exact hp
set_option maxRecDepth 100000 in
set_option maxHeartbeats 2000000 in
theorem wild18_any (l : List WA) (a : Option Addr) (len cap : Nat) (w : World) (hl : WActsAt w.heap.size w a len l) : Calls Tryz.prog 7 #[.slice a len cap] w (IsWild l len w) := by
 have hmx := hl.2.1
 have hll := hl.1
 unfold maxLen at hmx
 have HL := Lib.hid hl
 have HLL := Lib.hid hll
 clear hl hll
 by_cases h80 : 80 < len
 ·go_enter Tryz.func7, Tryz.ntmps7
  go_wp2_with fail
  go_returns
  exact ⟨true, rfl, fun h => (by cases h), rfl⟩
 ·go_enter Tryz.func7, Tryz.ntmps7
  go_wp2_with fail
  go_loopw [3] (fun i wr => ∃ k : Nat, k ≤ len ∧ i = .int .i64 (k : Int) ∧ (∀ x ∈ l.take k, TameA x) ∧ w = wr) (fun i _ => len - (intOf i).toNat)
  case atStart => exact ⟨0, Nat.zero_le _, rfl, by simp, rfl⟩
  case round =>
   obtain ⟨k, hk, rfl, htk, rfl⟩ := hrel
   have HTK := Lib.hid htk
   clear htk
   by_cases hlt : k < len
   ·obtain ⟨b, off, x, rfl, hB, hx, hp, x0, x1, x2, x3, x4⟩ := HL.out.get hlt
    have i1 : (0 : Int) ≤ (k : Int) := by omega
    have i2 : (k : Int) < (len : Int) := by omega
    have hpm : x.pl ≤ maxLen := by have := hp.2.1; have := hp.2.2.1; omega
    unfold maxLen at hpm
    have HX := Lib.hid hx
    have HP := Lib.hid hp
    clear hx hp
    by_cases h12 : 12 < x.pl
    ·go_wp2_with fail
     go_returns
     exact ⟨true, rfl, fun h => (by cases h), rfl⟩
    ·go_wp2_with fail
     go_loopw [4] (fun i wr => ∃ m : Nat, m ≤ x.pl ∧ i = .int .i64 (m : Int) ∧ (∀ p ∈ x.ps.take m, p.vl ≤ 100) ∧ w = wr) (fun i _ => x.pl - (intOf i).toNat)
     case atStart => exact ⟨0, Nat.zero_le _, rfl, by simp, rfl⟩
     case round =>
      obtain ⟨m, hm, rfl, htm, rfl⟩ := hrel
      have HTM := Lib.hid htm
      clear htm
      by_cases hmt : m < x.pl
      ·obtain ⟨b2, off2, p, hpa, hB2, hpx, hpi, p0, p1⟩ := HP.out.get (Below.refl _ _) hmt
       rw [hpa] at x4
       have i3 : (0 : Int) ≤ (m : Int) := by omega
       have i4 : (m : Int) < (x.pl : Int) := by omega
       have hvm : p.vl ≤ maxLen := by have := hpi.2.1; have := hpi.2.2.1; omega
       unfold maxLen at hvm
       have HPX := Lib.hid hpx
       clear hpx hpi hpa
       by_cases h100 : 100 < p.vl
       ·go_wp2_with fail
        go_returns
        exact ⟨true, rfl, fun h => (by cases h), rfl⟩
       ·have HT := Lib.hid (take_all (P := fun p => p.vl ≤ 100) HPX.out HTM.out (by omega))
        go_wp2_with fail
        go_roundw
        case rel => exact ⟨m + 1, by omega, by go_num, HT.out, by trivial⟩
        case measure => simp [intOf]; omega
      ·obtain rfl : m = x.pl := by omega
       have HT := Lib.hid (take_all (P := TameA) HX.out HTK.out ⟨by omega, by
        have := HTM.out
        rw [List.take_of_length_le (by rw [HP.out.1]; exact Nat.le_refl _)] at this
        exact this⟩)
       go_wp2_with fail
       go_roundw
       case rel => exact ⟨k + 1, by omega, by go_num, HT.out, by trivial⟩
       case measure => simp [intOf]; omega
   ·obtain rfl : k = len := by omega
    go_wp2_with fail
    go_returns
    refine ⟨false, rfl, fun _ => ⟨by omega, ?_⟩, rfl⟩
    have := HTK.out
    rw [List.take_of_length_le (by rw [HLL.out]; exact Nat.le_refl _)] at this
    exact this
end Go.Proofs.YthmpknlgkflhiabGreat
