/- world.New: the walk. · A new world. · The queries' laws' awake, told. · The worlds' laws: great schemas, rows of numbers, the schema of two. · QueryParts: its arguments, the world in work, rows that were found, the law's own set of who was seen. · Contracts of retrofitref04.Bytes, retrofitref07.Name. -/
import Derived.Test.YtgebbmfoamkfnaaGreatDoorT38
import Derived.Deep.RegionHeld3
import Derived.Test.YtgebbmfoamkfnaaGreatDoorT30
import Derived.Test.YtgebbmfoamkfnaaGreatDoorT37
import Derived.Laws.StructEq
import Derived.Test.YtgebbmfoamkfnaaGreatDoorT2
namespace Go.Proofs.YtgebbmfoamkfnaaGreatDoor
open Go.RowKit
set_option linter.unusedVariables false
section
variable {w w' : World}
theorem gNew_ok (ver : Int) (cs : List Cmp) (a : Option Addr) (len cap : Nat) (archs rows : Int) (w : World) (hcs : CompsAt w.heap.size w a len cs) (hw : CompsWf cs) (hl : len ≤ 100000) (hf : ∀ c ∈ cs, c.fields.length ≤ 100000) (hn : a = none → len = 0 ∧ cap = 0) (hs : schemaCheck ver cs = 0) (a1 : 1 ≤ archs ∧ archs ≤ 64) (r1 : 1 ≤ rows ∧ rows ≤ 256) :
    Calls Tryz.prog 45 #[.agg #[.int .i64 ver, .slice a len cap], .int .i64 archs, .int .i64 rows] w fun e w' => ∃ gb mb wmb ta tc, e = .returned (.pointer (some ⟨gb, 0, none⟩)) ∧ Graph 0 gb (GS0 ver cs archs rows) mb wmb ta tc w' ∧ (∀ b, gfoot gb mb wmb ta b → w.heap.size ≤ b) ∧ Below w.heap.size w w' := by
  refine (graphNew_any ver cs a len cap archs rows w hcs hw hl hf hn).mono ?_
  rintro e w' ⟨hb, hif⟩
  rw [if_pos (show newOk ver cs archs rows = true by simp [newOk, hs]; omega)] at hif
  obtain ⟨B1, gb, mb, wb, ta, tc, rfl, h1, h2, h3⟩ := hif
  exact ⟨gb, mb, wb, ta, tc, rfl, h2.mono0, h3, hb⟩
/-- The answer of world.New: its parts' places. -/
def NewW (c : CapsD) (ver : Int) (cs : List Cmp) (n : Nat) (w : World) (w' : World) (wb : Nat) : Prop :=
  ∃ x gb mb wmb ta tc ab, x.ix = newIX n c.gens ∧ XIn w' x ∧ Graph 0 gb (GS0 ver cs c.archs c.rows) mb wmb ta tc w' ∧ w'.heap[ab]? = some (.map #[] 0) ∧
    (∀ b, x.foot b → w.heap.size ≤ b) ∧ (∀ b, gfoot gb mb wmb ta b → w.heap.size ≤ b) ∧ w.heap.size ≤ ab ∧ w.heap.size ≤ wb ∧ Below w.heap.size w w' ∧ ab ≠ mb ∧ ab ≠ wmb ∧
    w'.heap[wb]? = some (.cells #[.int .i64 c.ents, .int .i64 c.rows, .int .i64 c.archs, .int .i64 c.cmds, .int .i64 c.fuel, .int .i64 c.gens, .pointer (some ⟨x.xb, 0, none⟩), .pointer (some ⟨gb, 0, none⟩), .map (some ab)] 111 (0, 0))
theorem gfoot_lt {gb mb wmb tc : Nat} {g : GS} {ta : Option Addr} {W : World} (h : Graph 0 gb g mb wmb ta tc W) {b : Nat} (hb : gfoot gb mb wmb ta b) : b < W.heap.size := by
  rcases h.kin hb with k | ⟨k, _⟩
  · obtain ⟨_, _, _, h1, _⟩ := k
    exact lt_some h1
  · obtain ⟨_, _, h1⟩ := k
    exact lt_some h1
theorem newW_end {c : CapsD} {ver : Int} {cs : List Cmp} {n : Nat} {w W : World} {x : XD} {gb mb wmb tc ab : Nat} {ta : Option Addr} (hB : Below w.heap.size w W) (hix : x.ix = newIX n c.gens) (hX : XIn W x) (hG : Graph 0 gb (GS0 ver cs c.archs c.rows) mb wmb ta tc W) (hab : W.heap[ab]? = some (.map #[] 0))
    (hxf : ∀ b, x.foot b → w.heap.size ≤ b) (hgf : ∀ b, gfoot gb mb wmb ta b → w.heap.size ≤ b) (ha : w.heap.size ≤ ab) (hn : ab ≠ mb ∧ ab ≠ wmb) :
    NewW c ver cs n w (W.alloc (.cells #[.int .i64 c.ents, .int .i64 c.rows, .int .i64 c.archs, .int .i64 c.cmds, .int .i64 c.fuel, .int .i64 c.gens, .pointer (some ⟨x.xb, 0, none⟩), .pointer (some ⟨gb, 0, none⟩), .map (some ab)] 111)) W.heap.size := by
  have hA : Below W.heap.size W (W.alloc (.cells #[.int .i64 c.ents, .int .i64 c.rows, .int .i64 c.archs, .int .i64 c.cmds, .int .i64 c.fuel, .int .i64 c.gens, .pointer (some ⟨x.xb, 0, none⟩), .pointer (some ⟨gb, 0, none⟩), .map (some ab)] 111)) := (Below.refl _ W).alloc (Nat.le_refl _) _
  exact ⟨x, gb, mb, wmb, ta, tc, ab, hix, hX.below hA, hG.below hA, (hA.block _ (by rcases Nat.lt_or_ge ab W.heap.size with h | h; exact h; rw [Array.getElem?_eq_none h] at hab; cases hab)).trans hab, hxf, hgf, ha, hB.size, hB.trans (hA.mono hB.size), hn.1, hn.2, heap_alloc_new W _⟩
set_option maxRecDepth 100000 in
set_option maxHeartbeats 4000000 in
theorem wNew_walk (c : CapsD) (h : CapsOk c) (ver : Int) (cs : List Cmp) (a : Option Addr) (len cap n : Nat) (hn : c.ents = (n : Int)) (w : World) (hcs : CompsAt w.heap.size w a len cs) (hw : CompsWf cs) (hl : len ≤ 100000) (hf : ∀ c ∈ cs, c.fields.length ≤ 100000) (hna : a = none → len = 0 ∧ cap = 0) (hs : schemaCheck ver cs = 0) :
    Calls Tryz.prog 16 #[.agg #[.int .i64 ver, .slice a len cap], .agg #[.int .i64 c.ents, .int .i64 c.rows, .int .i64 c.archs, .int .i64 c.cmds, .int .i64 c.fuel, .int .i64 c.gens]] w fun e w' => ∃ wb, e = .returned (.pointer (some ⟨wb, 0, none⟩)) ∧ NewW c ver cs n w w' wb := by
  have HCC := Lib.hid (fun (W : World) => checkCaps_ok c h W)
  obtain ⟨a1, a2, a3, a4, a5, a6, hcc⟩ : ∃ a1 a2 a3 a4 a5 a6, c = ⟨a1, a2, a3, a4, a5, a6⟩ := ⟨_, _, _, _, _, _, rfl⟩
  subst hcc
  have hn : a1 = (n : Int) := hn
  subst hn
  have hb0 : Below w.heap.size w ((w.alloc (.cells #[.int .i64 ver, .slice a len cap] 24)).alloc (.cells #[.int .i64 (n : Int), .int .i64 a2, .int .i64 a3, .int .i64 a4, .int .i64 a5, .int .i64 a6] 44)) := by go_grown
  have HB0 := Lib.hid hb0
  have HS0 := Lib.hid (keepA (.cells #[.int .i64 (n : Int), .int .i64 a2, .int .i64 a3, .int .i64 a4, .int .i64 a5, .int .i64 a6] 44) (heap_alloc_new w (.cells #[.int .i64 ver, .slice a len cap] 24)))
  have HC0 := Lib.hid (heap_alloc_new (w.alloc (.cells #[.int .i64 ver, .slice a len cap] 24)) (.cells #[.int .i64 (n : Int), .int .i64 a2, .int .i64 a3, .int .i64 a4, .int .i64 a5, .int .i64 a6] 44))
  have hsc := fun (W : World) (hb : Below w.heap.size w W) => schemaCheck_any ver cs a len cap W ((hcs.below hb).mono hb.size) hw
  rw [hs] at hsc
  have HSC := Lib.hid hsc
  have HG := Lib.hid (fun (W : World) (hb : Below w.heap.size w W) => gNew_ok ver cs a len cap a3 a2 W ((hcs.below hb).mono hb.size) hw hl hf hna hs h.archs h.rows)
  have hen := h.ents
  have hge := h.gens
  have HX := Lib.hid (fun (W : World) => xNew_ok n a6 W (by have h1 : (1 : Int) ≤ (n : Int) := hen.1; omega) (by have h1 : (n : Int) ≤ 256 := hen.2; omega) hge.1 hge.2)
  clear h hb0 hcs hw hl hf hna hs hsc hen hge
  go_enter Tryz.func16, Tryz.ntmps16
  go_wp2_with fail
  refine (HSC.out _ HB0.out).mono ?_
  rintro e w1 ⟨rfl, hb1⟩
  have hc1 := keep hb1 HC0.out
  have x0 := cell_at hc1 0
  have x1 := cell_at hc1 1
  have x2 := cell_at hc1 2
  have x3 := cell_at hc1 3
  have x4 := cell_at hc1 4
  have x5 := cell_at hc1 5
  simp at x0 x1 x2 x3 x4 x5
  go_wp2_with fail
  refine (HCC.out _).mono ?_
  rintro e w2 ⟨rfl, hb2⟩
  have HB2 := Lib.hid (HB0.out.trans ((hb1.mono HB0.out.size).trans (hb2.mono (HB0.out.trans (hb1.mono HB0.out.size)).size)))
  have hs2 := keep hb2 (keep hb1 HS0.out)
  have hc2 := keep hb2 hc1
  have u0 := cell_at hs2 0
  have u1 := cell_at hs2 1
  have y0 := cell_at hc2 0
  have y1 := cell_at hc2 1
  have y2 := cell_at hc2 2
  have y3 := cell_at hc2 3
  have y4 := cell_at hc2 4
  have y5 := cell_at hc2 5
  simp at u0 u1 y0 y1 y2 y3 y4 y5
  have hl2 := lt_some hs2
  have hl3 : w.heap.size + 1 < w2.heap.size := by have := lt_some hc2; simpa using this
  have hdz : w2.drew.heap.size = w2.heap.size := rfl
  clear x0 x1 x2 x3 x4 x5 hs2 hc2 hc1 hb1 hb2
  have hmm := @run_makeMap Tryz.prog
  have hsz : ∀ (W : World) (o : Obj), (W.alloc o).heap.size = W.heap.size + 1 := fun W o => by simp
  go_upto_region 3 with (fail)
  go_region_held3 (fun w' => Below w.heap.size w w' ∧ w.heap.size + 1 < w'.heap.size ∧ w'.cell? ⟨w.heap.size, 0, none⟩ = some (.int .i64 ver) ∧ w'.cell? ⟨w.heap.size, 1, none⟩ = some (.slice a len cap) ∧ w'.cell? ⟨w.heap.size + 1, 0, none⟩ = some (.int .i64 (n : Int)) ∧ w'.cell? ⟨w.heap.size + 1, 1, none⟩ = some (.int .i64 a2) ∧ w'.cell? ⟨w.heap.size + 1, 2, none⟩ = some (.int .i64 a3) ∧ w'.cell? ⟨w.heap.size + 1, 3, none⟩ = some (.int .i64 a4) ∧ w'.cell? ⟨w.heap.size + 1, 4, none⟩ = some (.int .i64 a5) ∧ w'.cell? ⟨w.heap.size + 1, 5, none⟩ = some (.int .i64 a6))
    ((go_split_ands
      refine ⟨by first | exact HB2.out.drew | assumption | (exact Below.trans (by assumption) (hbx.mono (by first | omega | (simp; omega) | (simp only [hsz] at *; omega)))) | (exact Below.alloc (by assumption) (by first | omega | (simp; omega) | (simp only [hsz] at *; omega)) _), by first | omega | (have := hbx.size; omega) | (simp; omega) | (have := hbx.size; simp only [hsz] at *; omega), ?_, ?_, ?_, ?_, ?_, ?_, ?_, ?_⟩
      all_goals first | go_keep | (refine Eq.trans (World.cell?_of_block (hbx.block _ (by first | omega | (simp; omega) | (simp only [hsz] at *; omega)))) ?_; assumption)))
    (first
      | (go_at_call 44; refine (HX.out _).mono ?_; rintro e1 wx ⟨x, rfl, hix, hXI, hXF, hbx⟩; have hbX := hbx)
      | (go_at_call 45; refine (HG.out _ (by go_split_ands; first | assumption | exact HB2.out.drew)).mono ?_; rintro e1 wx ⟨gb, mb, wmb, ta, tc, rfl, hgr, hgf, hbx⟩; have hbG := hbx))
  all_goals go_split_ands
  all_goals go_wp2_with fail
  all_goals go_ret
  · have hd := HB2.out.drew
    have hB1 := hd.trans (hbX.mono hd.size)
    have hB2 := hB1.trans (hbG.mono hB1.size)
    have ha : Below wx.heap.size wx (wx.alloc (.map #[] 0)) := (Below.refl _ wx).alloc (Nat.le_refl _) _
    have hh := newW_end (c := ⟨(n : Int), a2, a3, a4, a5, a6⟩) (ver := ver) (cs := cs) (n := n) (hB2.alloc hB2.size (.map #[] 0)) hix ((hXI.below hbG).below ha) (hgr.below ha) (heap_alloc_new wx (.map #[] 0)) (fun b hb => Nat.le_trans hd.size (hXF b hb)) (fun b hb => Nat.le_trans hB1.size (hgf b hb)) hB2.size
      ⟨fun e => Nat.lt_irrefl _ (e ▸ gfoot_lt hgr (.inr (.inl rfl))), fun e => Nat.lt_irrefl _ (e ▸ gfoot_lt hgr (.inr (.inr (.inl rfl))))⟩
    rw [hsz] at hh
    exact ⟨_, rfl, hh⟩
  · have hd := HB2.out.drew
    have hB1 := hd.trans (hbX.mono hd.size)
    have hBm := hB1.alloc hB1.size (.map #[] 0)
    have hB2 := hBm.trans (hbG.mono hBm.size)
    have hh := newW_end (c := ⟨(n : Int), a2, a3, a4, a5, a6⟩) (ver := ver) (cs := cs) (n := n) hB2 hix ((hXI.below ((Below.refl _ _).alloc (Nat.le_refl _) (.map #[] 0))).below hbG) hgr (keep hbG (heap_alloc_new _ (.map #[] 0))) (fun b hb => Nat.le_trans hd.size (hXF b hb)) (fun b hb => Nat.le_trans hBm.size (hgf b hb)) hB1.size
      ⟨fun e => by have := hgf _ (.inr (.inl rfl)); rw [hsz] at this; omega, fun e => by have := hgf _ (.inr (.inr (.inl rfl))); rw [hsz] at this; omega⟩
    exact ⟨_, rfl, hh⟩
  · have hd := (HB2.out.alloc HB2.out.size (.map #[] 0)).drew
    have hB1 := hd.trans (hbX.mono hd.size)
    have hB2 := hB1.trans (hbG.mono hB1.size)
    have hz : w2.heap.size + 1 ≤ (w2.alloc (.map #[] 0)).drew.heap.size := by rw [← hsz w2 (.map #[] 0)]; exact Nat.le_refl _
    have hz1 := hbX.size
    have hh := newW_end (c := ⟨(n : Int), a2, a3, a4, a5, a6⟩) (ver := ver) (cs := cs) (n := n) hB2 hix (hXI.below hbG) hgr (keep hbG (keep hbX (show (w2.alloc (.map #[] 0)).drew.heap[w2.heap.size]? = _ from heap_alloc_new w2 (.map #[] 0)))) (fun b hb => Nat.le_trans hd.size (hXF b hb)) (fun b hb => Nat.le_trans hB1.size (hgf b hb)) HB2.out.size
      ⟨fun e => by have := hgf _ (.inr (.inl rfl)); omega, fun e => by have := hgf _ (.inr (.inr (.inl rfl))); omega⟩
    exact ⟨_, rfl, hh⟩
end
end Go.Proofs.YtgebbmfoamkfnaaGreatDoor
namespace Go.Proofs.YtgebbmfoamkfnaaGreatDoor
open Go.RowKit
set_option linter.unusedVariables false
section
variable {w w' : World}
theorem atM_new {ab : Nat} (h : w.heap[ab]? = some (.map #[] 0)) : AtM w ab (fun _ => none) 0 := by
 obtain ⟨es, cl, hb, F, _, _⟩ := World.ownsMap_made w Tryz.prog 50 heldR
 rw [heap_alloc_new] at hb
 cases hb
 exact ⟨fun _ => none, ⟨.map [], ⟨#[], 0, h, F, Nat.le_refl _, rfl⟩, rfl, fun kl => ⟨rfl, fun v h => by cases h⟩⟩, fun _ _ _ => rfl⟩
theorem newIX_live {n : Nat} {g : Int} (n1 : 1 ≤ n) (n2 : n ≤ 256) (g1 : 1 ≤ g) (g2 : g ≤ 65535) : (newIX n g).liveL = [] := by
 have hlen : (newIX n g).lives.length = (newIX n g).gens.length := (newIX_ok n1 n2 g1 g2).1.len
 refine List.eq_nil_iff_forall_not_mem.2 fun e he => ?_
 obtain ⟨id, h1, _⟩ := (IX.mem_liveL hlen e).1 he
 have h2 : (newIX n g).live id = false := by
  show (List.replicate (n + 1) false).getD id false = false
  rw [List.getD_eq_getElem?_getD, List.getElem?_replicate]
  split <;> rfl
 rw [h2] at h1; cases h1
def WS0 (c : CapsD) (ver : Int) (cs : List Cmp) (n : Nat) : WS := ⟨c, ver, cs, newIX n c.gens, [], fun _ => none⟩
theorem newW_in {c : CapsD} (h : CapsOk c) {ver : Int} {cs : List Cmp} {n : Nat} (hn : c.ents = (n : Int)) (hs : schemaCheck ver cs = 0) {wb : Nat} (hw : NewW c ver cs n w w' wb) : ∃ d, WIn w' d 0 ∧ d.wb = wb ∧ d.S = WS0 c ver cs n ∧ (∀ b, d.foot b → w.heap.size ≤ b) ∧ Below w.heap.size w w' := by
 obtain ⟨x, gb, mb, wmb, ta, tc, ab, hix, hX, hG, hab, hxf, hgf, ha, hwb, hB, n1, n2, hblk⟩ := hw
 have hen := h.ents
 rw [hn] at hen
 have hl : x.ix.liveL = [] := by rw [hix]; exact newIX_live (by omega) (by omega) h.gens.1 h.gens.2
 have hg : newOk ver cs c.archs c.rows = true := by
  have := h.archs
  have := h.rows
  simp [newOk, hs]; omega
 refine ⟨{ wb := wb, caps := c, x := x, gb := gb, g := GS0 ver cs c.archs c.rows, mb := mb, wmb := wmb, ta := ta, tc := tc, ab := ab, T := [], V := [], pl := fun _ => none }, ?_, rfl, ?_, ?_, hB⟩
 ·unfold WIn
  show WMid w' _ x.ix.liveL 0
  rw [hl]
  refine ⟨⟨hblk, hX, hG, ⟨rfl, by simp, by simp, by simp⟩, rfl, by simp, atM_new hab, n1, n2⟩, ⟨List.nodup_nil, by simp [WD.P], ?_, ?_, ?_, ?_, ?_⟩, inv_new hg, Nat.le_refl _, rfl, rfl, ?_, ?_, hs, h, by simp⟩
  ·intro e i r
   constructor
   ·intro hh; cases hh
   ·rintro ⟨t, ht, _⟩
    have ht : ([] : List PT)[i]? = some t := ht
    simp at ht
  ·intro e p hp; cases hp
  ·intro i t ht
   have ht : ([] : List PT)[i]? = some t := ht
   simp at ht
  ·intro t ht
   have ht : t ∈ ([] : List PT) := ht
   simp at ht
  ·exact List.nodup_nil
  ·show x.ix.most = c.gens
   rw [hix]; rfl
  ·show (x.ix.gens.length : Int) = c.ents + 1
   rw [hix, hn]
   show ((gensL n (n + 1)).length : Int) = _
   rw [gensL_len]; omega
 ·show (⟨c, ver, cs, x.ix, ([] : List (Nat × Int)).map (·.2), fun e => _⟩ : WS) = _
  rw [hix]
  rfl
 ·intro b hb
  rcases hb with rfl | rfl | hb | hb | ⟨t, ht, _⟩
  ·exact hwb
  ·exact ha
  ·exact hxf b hb
  ·exact hgf b hb
  ·have ht : t ∈ ([] : List TD) := ht
   simp at ht
theorem wNew_any (c : CapsD) (h : CapsOk c) (ver : Int) (cs : List Cmp) (a : Option Addr) (len cap n : Nat) (hn : c.ents = (n : Int)) (w : World) (hcs : CompsAt w.heap.size w a len cs) (hw : CompsWf cs) (hl : len ≤ 100000) (hf : ∀ c ∈ cs, c.fields.length ≤ 100000) (hna : a = none → len = 0 ∧ cap = 0) (hs : schemaCheck ver cs = 0) :
  Calls Tryz.prog 16 #[.agg #[.int .i64 ver, .slice a len cap], .agg #[.int .i64 c.ents, .int .i64 c.rows, .int .i64 c.archs, .int .i64 c.cmds, .int .i64 c.fuel, .int .i64 c.gens]] w fun e w' => ∃ d, e = .returned (.pointer (some ⟨d.wb, 0, none⟩)) ∧ WIn w' d 0 ∧ d.S = WS0 c ver cs n ∧ (∀ b, d.foot b → w.heap.size ≤ b) ∧ Below w.heap.size w w' := by
 refine (wNew_walk c h ver cs a len cap n hn w hcs hw hl hf hna hs).mono ?_
 rintro e w' ⟨wb, rfl, hN⟩
 obtain ⟨d, h1, rfl, h3, h4, h5⟩ := newW_in h hn hs hN
 exact ⟨d, rfl, h1, h3, h4, h5⟩
end
end Go.Proofs.YtgebbmfoamkfnaaGreatDoor
namespace Go.Proofs.YtgebbmfoamkfnaaGreatDoor
open Go.RowKit
set_option linter.unusedVariables false
def caps20 : CapsD := ⟨2, 2, 2, 0, 0, 2⟩
def cs20 : List Cmp := [⟨1, ⟨#[97]⟩, [⟨⟨#[120]⟩, 6, 1⟩]⟩, ⟨2, ⟨#[98]⟩, []⟩, ⟨3, ⟨#[99]⟩, []⟩]
def p20 : List (Int × List WI) := [(3, []), (1, [⟨false, 0, 5⟩])]
def Q0 : WS := WS0 caps20 1 cs20 2
def Q1 : WS := Q0.spawnS p20
theorem q_spawn : Q0.spawnE p20 = 0 := by kernel_rfl
theorem q_match : Q1.matchL 2 4 = [4294967297] := by kernel_rfl
theorem q_row : Q1.rowN 2 4294967297 = 1 := by kernel_rfl
theorem schema20 : schemaCheck 1 cs20 = 0 := by kernel_rfl
theorem caps20_ok : CapsOk caps20 := by constructor <;> decide
theorem q_check1 : checkQ 1 cs20 2 4 = 0 := by kernel_rfl
theorem q_check2 : checkQ 1 cs20 2 2 = 7 := by kernel_rfl
def K1q : CS := CS.new.ask (2, 4) [2, 6, 10]
def K2q : CS := K1q.ask (2, 4) [2, 6, 10, 18]
theorem k_tabs1 : tabsGo 2 4 0 [2, 6, 10] = [0, 2] := by kernel_rfl
theorem k_tabs2 : tabsGo 2 4 0 [2, 6, 10, 18] = [0, 2, 3] := by kernel_rfl
theorem k_look1 : K1q.looked = 3 := by kernel_rfl
theorem k_look : K2q.looked = 4 := by kernel_rfl
theorem k_cnt1 : K1q.cnt = 1 := by kernel_rfl
theorem k_cnt : K2q.cnt = 1 := by kernel_rfl
def txt1 : ByteArray := ⟨#[49, 32, 110, 111, 116, 32, 50]⟩
def txt2 : ByteArray := ⟨#[49, 32, 110, 111, 116]⟩
theorem t_text : textQ 2 4 = [49, 32, 110, 111, 116, 32, 50] := by kernel_rfl
theorem t_parse1 : parseQ txt1 = (2, 4) := by kernel_rfl
theorem t_err1 : parseQE txt1 = 0 := by kernel_rfl
theorem t_parse2 : parseQ txt2 = (0, 0) := by kernel_rfl
theorem t_err2 : parseQE txt2 = 4 := by kernel_rfl
theorem cs20_wf : CompsWf cs20 := by
  intro c hc
  simp only [cs20, List.mem_cons, List.not_mem_nil, or_false] at hc
  rcases hc with rfl | rfl | rfl
  · refine ⟨by decide, fun f hf => ?_⟩
    simp only [List.mem_cons, List.not_mem_nil, or_false] at hf
    subst hf
    decide
  · exact ⟨by decide, fun f hf => by cases hf⟩
  · exact ⟨by decide, fun f hf => by cases hf⟩
theorem cs20_f : ∀ c ∈ cs20, c.fields.length ≤ 100000 := by
  intro c hc
  simp only [cs20, List.mem_cons, List.not_mem_nil, or_false] at hc
  rcases hc with rfl | rfl | rfl <;> decide
/-- The schema of three, in memory: its fields' block f, its components' q. -/
def fieldC : Array Value := #[.string ⟨#[120]⟩, .int .i64 6, .int .i64 1]
def compC20 (f : Nat) : Array Value := #[.int .i64 1, .string ⟨#[97]⟩, .slice (some ⟨f, 0, none⟩) 1 1, .int .i64 2, .string ⟨#[98]⟩, .slice none 0 0, .int .i64 3, .string ⟨#[99]⟩, .slice none 0 0]
theorem comps20 {W : World} {f q b : Nat} {t u : TypeId} (hf : W.heap[f]? = some (.cells fieldC t (0, 0))) (hq : W.heap[q]? = some (.cells (compC20 f) u (0, 0))) (hfb : f < b) (hqb : q < b) : CompsAt b W (some ⟨q, 0, none⟩) 3 cs20 := by
  refine ⟨rfl, by unfold maxLen; omega, .inr ⟨q, 0, rfl, hqb, fun i c hc => ?_⟩⟩
  match i, hc with
  | 0, hc =>
    cases hc
    refine ⟨by rw [cell_at hq]; rfl, by rw [cell_at hq]; rfl, some ⟨f, 0, none⟩, 1, 1, by rw [cell_at hq]; rfl, ⟨rfl, by unfold maxLen; omega, .inr ⟨f, 0, rfl, hfb, fun j g hg => ?_⟩⟩, fun h => by cases h⟩
    match j, hg with
    | 0, hg =>
      cases hg
      exact ⟨by rw [cell_at hf]; rfl, by rw [cell_at hf]; rfl, by rw [cell_at hf]; rfl⟩
    | n + 1, hg => simp at hg
  | 1, hc =>
    cases hc
    exact ⟨by rw [cell_at hq]; rfl, by rw [cell_at hq]; rfl, none, 0, 0, by rw [cell_at hq]; rfl, ⟨rfl, by unfold maxLen; omega, .inl rfl⟩, fun _ => ⟨rfl, rfl⟩⟩
  | 2, hc =>
    cases hc
    exact ⟨by rw [cell_at hq]; rfl, by rw [cell_at hq]; rfl, none, 0, 0, by rw [cell_at hq]; rfl, ⟨rfl, by unfold maxLen; omega, .inl rfl⟩, fun _ => ⟨rfl, rfl⟩⟩
  | n + 3, hc => simp [cs20] at hc
/-- The two parts. -/
def ps20 (ib : Nat) : List PW := [⟨3, none, 0, 0, []⟩, ⟨1, some ⟨ib, 0, none⟩, 1, 1, [⟨false, 0, 5⟩]⟩]
theorem cv20 (ib : Nat) : cv (ps20 ib) = p20 := rfl
def partC20 (ib : Nat) : Array Value := #[.int .i64 3, .slice none 0 0, .int .i64 1, .slice (some ⟨ib, 0, none⟩) 1 1]
theorem parts20At {w : World} {pb ib : Nat} (hp : w.heap[pb]? = some (.cells (partC20 ib) 85 (0, 0))) (hi : w.heap[ib]? = some (.cells #[.bool false, .int .u64 0, .int .u64 5] 87 (0, 0))) :
    PartsAt w.heap.size w (some ⟨pb, 0, none⟩) 2 2 (ps20 ib) := by
  refine ⟨rfl, Nat.le_refl _, by unfold maxLen; omega, fun p hpp => ?_, .inr ⟨pb, 0, rfl, lt_some hp, fun i p hpp => ?_⟩⟩
  · simp only [ps20, List.mem_cons, List.not_mem_nil, or_false] at hpp
    rcases hpp with rfl | rfl
    · exact ⟨rfl, Nat.le_refl _, Nat.zero_le _, (fun x hx => by cases hx), .inl rfl⟩
    · refine ⟨rfl, Nat.le_refl _, by show 1 ≤ maxLen; unfold maxLen; omega, fun x hx => ?_, .inr ⟨ib, 0, rfl, lt_some hi, fun i x hx => ?_⟩⟩
      · simp only [List.mem_cons, List.not_mem_nil, or_false] at hx
        subst hx
        exact wf_lo (by omega) (by omega)
      · match i, hx with
        | 0, hx =>
          cases hx
          exact ⟨by rw [cell_at hi]; rfl, by rw [cell_at hi]; rfl, by rw [cell_at hi]; rfl⟩
        | n + 1, hx => simp at hx
  · match i, hpp with
    | 0, hpp =>
      cases hpp
      exact ⟨by rw [cell_at hp]; rfl, by rw [cell_at hp]; rfl⟩
    | 1, hpp =>
      cases hpp
      exact ⟨by rw [cell_at hp]; rfl, by rw [cell_at hp]; rfl⟩
    | n + 2, hpp => simp [ps20] at hpp
section
variable {w w' w9 : World} {d d' : WD} {n : Nat}
theorem raw_off (h : WRaw w d n) {b : Nat} {cs : Array Value} {ty : TypeId} {fr : Nat × Nat} (hb : w.heap[b]? = some (.cells cs ty fr)) (ht : ty ∉ wK ++ xK ++ gK ++ tK) : ¬ d.foot b := by
  intro hf
  rcases h.kin hf with ⟨cs', ty', fr', h1, h2⟩ | ⟨es, c, h1⟩
  · rw [hb] at h1; cases h1; exact ht h2
  · rw [hb] at h1; cases h1
theorem parts20 (h : WRaw w d n) {pb ib : Nat} (hp : w.heap[pb]? = some (.cells (partC20 ib) 85 (0, 0))) (hi : w.heap[ib]? = some (.cells #[.bool false, .int .u64 0, .int .u64 5] 87 (0, 0))) : PartsIn d w (some ⟨pb, 0, none⟩) 2 2 (ps20 ib) :=
  ⟨fun w' ho => parts20At (ho.keep hp (raw_off h hp (by decide))) (ho.keep hi (raw_off h hi (by decide))), by omega⟩
/-- The world that awake makes; what lay before it is as it was. -/
structure AwD (w9 : World) (S : WS) (WB : Nat) (w : World) : Prop where
  ex : ∃ d, WIn w d 0 ∧ d.S = S ∧ d.wb = WB ∧ ∀ z, d.foot z → w9.heap.size ≤ z
  bel : Below w9.heap.size w9 w
variable {S : WS} {WB : Nat}
theorem AwD.below (h : AwD w9 S WB w) (hb : Below w.heap.size w w') : AwD w9 S WB w' := by
  obtain ⟨⟨d, h1, h2⟩, h3⟩ := h
  exact ⟨⟨d, h1.below hb, h2⟩, h3.trans (hb.mono h3.size)⟩
theorem aw20_new {q : Nat} (hc : CompsAt w9.heap.size w9 (some ⟨q, 0, none⟩) 3 cs20) : Calls Tryz.prog 16 #[.agg #[.int .i64 1, .slice (some ⟨q, 0, none⟩) 3 3], .agg #[.int .i64 2, .int .i64 2, .int .i64 2, .int .i64 0, .int .i64 0, .int .i64 2]] w9 fun e w' => ∃ wb, e = .returned (.pointer (some ⟨wb, 0, none⟩)) ∧ AwD w9 Q0 wb w' := by
  refine (wNew_any caps20 caps20_ok 1 cs20 _ 3 3 2 rfl w9 hc cs20_wf (by decide) cs20_f (fun h => by cases h) schema20).mono ?_
  rintro e w' ⟨d, rfl, hW, hS, hF, hb⟩
  exact ⟨d.wb, rfl, ⟨d, hW, hS, rfl, hF⟩, hb⟩
theorem aw20_spawn (h : AwD w9 Q0 WB w) {pb ib : Nat} (hp : w.heap[pb]? = some (.cells (partC20 ib) 85 (0, 0))) (hi : w.heap[ib]? = some (.cells #[.bool false, .int .u64 0, .int .u64 5] 87 (0, 0))) :
    Calls Tryz.prog 17 #[.pointer (some ⟨WB, 0, none⟩), .slice (some ⟨pb, 0, none⟩) 2 2] w fun e w' => (∃ v, e = .returned v) ∧ AwD w9 Q1 WB w' := by
  obtain ⟨⟨d, h1, h2, rfl, h3⟩, h4⟩ := h
  refine (wSpawn_any h1 (parts20 h1.raw hp hi)).mono ?_
  rintro e w' ⟨d', k1, k2, k3, hor⟩
  rw [cv20, h2] at hor
  rcases hor with ⟨k4, _⟩ | ⟨_, rfl, k5⟩
  · exact absurd q_spawn k4
  · refine ⟨⟨_, rfl⟩, ⟨d', k1, k5, k3, fun z hz => ?_⟩, ?_⟩
    · rcases k2.foot z hz with hz | hz
      · exact h3 z hz
      · exact Nat.le_trans h4.size hz
    · exact h4.trans (k2.out.below h3 h4.size)
theorem aw20_rows (h : AwD w9 Q1 WB w) : Calls Tryz.prog 19 #[.pointer (some ⟨WB, 0, none⟩), .agg #[.int .u32 2, .int .u32 4]] w fun e w' => ∃ b c en pa pc, e = .returned (.tuple #[.slice (some ⟨b, 0, none⟩) 1 c, .int .i64 0]) ∧ w'.cell? ⟨b, 0, none⟩ = some en ∧ w'.cell? ⟨b, 1, none⟩ = some (.slice pa 1 pc) ∧ b < w'.heap.size ∧ AwD w9 Q1 WB w' := by
  obtain ⟨d, h1, h2, h3, _⟩ := h.ex
  have hr := qRows_any h1 2 4 ⟨⟨by decide, by decide⟩, by decide, by decide⟩
  rw [h2, h3] at hr
  refine hr.mono ?_
  intro e w' hi
  unfold IsRowsE at hi
  rw [if_neg (by rw [show checkQ Q1.ver Q1.cs 2 4 = 0 from q_check1]; simp), q_match] at hi
  obtain ⟨va, vc, R, rfl, ⟨hR, hN⟩, ho, hb⟩ := hi
  obtain ⟨r, rfl⟩ : ∃ r, R = [r] := by
    have := congrArg List.length hR
    rw [List.length_map] at this
    exact List.length_eq_one_iff.1 this
  have he : r.ent = 4294967297 := by simpa using hR
  have hn := hN r (by simp)
  rw [he, q_row] at hn
  obtain ⟨b, hv, _, hlt, hc⟩ := row_block ho (by decide)
  cases hv
  refine ⟨b, vc, _, r.pa, r.pc, rfl, hc 0 _ rfl, ?_, hlt, h.below hb⟩
  have h1 := hc 1 (.slice r.pa r.pn r.pc) rfl
  rw [hn] at h1
  exact h1
end
end Go.Proofs.YtgebbmfoamkfnaaGreatDoor
namespace Go.Proofs.YtgebbmfoamkfnaaGreatDoor
open Go.RowKit
set_option linter.unusedVariables false
def Drawn (w w' : World) : Prop := ∃ m, w' = w.drewN m
theorem Drawn.refl (w : World) : Drawn w w := ⟨0, rfl⟩
theorem Drawn.more {w w' : World} (h : Drawn w w') (n : Nat) : Drawn w (w'.drewN n) := by
 obtain ⟨m, rfl⟩ := h
 exact ⟨m + n, World.drewN_drewN _ _ _⟩
theorem Drawn.below {w w' : World} (h : Drawn w w') : Below w.heap.size w w' := by
 obtain ⟨m, rfl⟩ := h
 exact below_drewN (Below.refl _ _) m
end Go.Proofs.YtgebbmfoamkfnaaGreatDoor
namespace Go.Proofs.YtgebbmfoamkfnaaGreatDoor
open Go.RowKit
set_option linter.unusedVariables false
/-- A row of rows of parts that lies below block B. -/
structure PSl where
  pa : Option Addr
  pl : Nat
  pc : Nat
  ps : List PW
def PLAt (B : Nat) (w : World) (a : Option Addr) (n : Nat) (l : List PSl) : Prop := l.length = n ∧ n ≤ maxLen ∧ (∀ x ∈ l, PartsAt B w x.pa x.pl x.pc x.ps) ∧ (n = 0 ∨ ∃ b off, a = some ⟨b, off, none⟩ ∧ b < B ∧ ∀ (i : Nat) (x : PSl), l[i]? = some x → w.cell? ⟨b, off + i, none⟩ = some (.slice x.pa x.pl x.pc))
theorem PLAt.below {B n : Nat} {w w' : World} {a : Option Addr} {l : List PSl} (h : PLAt B w a n l) (hb : Below B w w') : PLAt B w' a n l := by
  obtain ⟨h1, h2, h3, h4⟩ := h
  refine ⟨h1, h2, fun x hx => (h3 x hx).below hb, h4.imp id ?_⟩
  rintro ⟨b, off, ha, hB, hc⟩
  exact ⟨b, off, ha, hB, fun i x hx => (hb.cell (p := ⟨b, off + i, none⟩) hB).trans (hc i x hx)⟩
theorem PLAt.get {B n : Nat} {w : World} {a : Option Addr} {l : List PSl} (h : PLAt B w a n l) {k : Nat} (hk : k < n) : ∃ b off x, a = some ⟨b, off, none⟩ ∧ b < B ∧ l[k]? = some x ∧ PartsAt B w x.pa x.pl x.pc x.ps ∧ w.cell? ⟨b, off + k, none⟩ = some (.slice x.pa x.pl x.pc) := by
  obtain ⟨h1, h2, h3, h4⟩ := h
  rcases h4 with h4 | ⟨b, off, ha, hB, hc⟩
  · omega
  · have hl : k < l.length := by omega
    exact ⟨b, off, _, ha, hB, List.getElem?_eq_getElem hl, h3 _ (List.getElem_mem hl), hc k _ (List.getElem?_eq_getElem hl)⟩
section
variable {w w' w9 : World} {S : WS} {WB : Nat} {pa : Option Addr} {pl pc : Nat} {ps : List PW}
theorem AwD.bd (h : AwD w9 S WB w) : S.ix.liveL.length ≤ 257 ∧ ∀ e ∈ S.ix.liveL, 0 ≤ e ∧ e < 18446744073709551616 := by
  obtain ⟨d, h1, h2, _, _⟩ := h.ex
  subst h2
  exact ⟨WMid.lbd h1, fun e he => h1.bd he⟩
/-- Rows that were found: who each is of. -/
def FRow (B : Nat) (L : List Int) (a : Option Addr) (n c : Nat) (w : World) : Prop := L.length = n ∧ ∃ R : List RQ, R.map (·.ent) = L ∧ w.ownsRow B 61 2 (.slice a n c) n (R.flatMap rqCells)
theorem FRow.below {B n c : Nat} {L : List Int} {a : Option Addr} (h : FRow B L a n c w) (hb : Below w.heap.size w w') : FRow B L a n c w' := by
  obtain ⟨h0, R, h1, h2⟩ := h
  exact ⟨h0, R, h1, ownsRow_below h2 hb⟩
theorem rq_at : ∀ (R : List RQ) (k : Nat) (r : RQ), R[k]? = some r → (R.flatMap rqCells)[k * 2]? = some (.int .u64 r.ent)
  | [], k, r, h => by simp at h
  | x :: t, 0, r, h => by cases h; rfl
  | x :: t, k + 1, r, h => by
    have := rq_at t k r (by simpa using h)
    rw [List.flatMap_cons, show (k + 1) * 2 = k * 2 + 2 by omega]
    exact this
theorem FRow.get {B n c : Nat} {L : List Int} {a : Option Addr} (h : FRow B L a n c w) {k : Nat} (hk : k < n) : ∃ b e, a = some ⟨b, 0, none⟩ ∧ b < w.heap.size ∧ L[k]? = some e ∧ w.cell? ⟨b, k * 2, none⟩ = some (.int .u64 e) := by
  obtain ⟨h0, R, h1, h2⟩ := h
  have hl : k < R.length := by rw [← List.length_map, h1, h0]; exact hk
  obtain ⟨b, hb, _, hlt, hc⟩ := row_block h2 (by omega)
  refine ⟨b, (R[k]).ent, hb, hlt, ?_, hc _ _ (rq_at R k _ (List.getElem?_eq_getElem hl))⟩
  rw [← h1, List.getElem?_map, List.getElem?_eq_getElem hl]
  rfl
/-- The law's set of who was seen. -/
def SeenE (w : World) (mb : Nat) (l : List Int) : Prop := ∃ f cnt, MapV Tryz.prog w 50 mb cnt f ∧ cnt ≤ l.length ∧ ∀ e, 0 ≤ e → e < 18446744073709551616 → f (.int .u64 e) = if e ∈ l then some (.bool true) else none
theorem SeenE.below {mb : Nat} {l : List Int} (h : SeenE w mb l) (hb : Below w.heap.size w w') : SeenE w' mb l := by
  obtain ⟨f, cnt, h1, h2⟩ := h
  exact ⟨f, cnt, h1.below hb, h2⟩
theorem SeenE.made (w : World) : SeenE (w.alloc (.map #[] 0)) w.heap.size [] := ⟨fun _ => none, 0, MapV.made w Tryz.prog 50, Nat.le_refl _, fun e _ _ => by simp⟩
theorem Tryz.zeroBool (w : World) : (zeroValue 4).run Tryz.prog w = .ok (.bool false) w := by kernel_rfl
theorem SeenE.look {mb : Nat} {l : List Int} (h : SeenE w mb l) {e : Int} (h0 : 0 ≤ e) (h1 : e < 18446744073709551616) : (Instr.lookup 59 (.map (some mb)) (.int .u64 e) false).run Tryz.prog w = .ok (.bool (decide (e ∈ l))) w := by
  obtain ⟨f, cnt, hm, _, hf⟩ := h
  rw [hm.look Tryz.lawE Tryz.underlying59 Tryz.zeroBool (key_e h0 h1), hf e h0 h1]
  by_cases he : e ∈ l <;> simp [he]
theorem SeenE.lt {mb : Nat} {l : List Int} (h : SeenE w mb l) : mb < w.heap.size := by obtain ⟨f, cnt, h1, _⟩ := h; exact h1.lt
theorem SeenE.put {mb : Nat} {l : List Int} (h : SeenE w mb l) (hl : l.length ≤ 1000) {e : Int} (h0 : 0 ≤ e) (h1 : e < 18446744073709551616) :
    ∃ w', (Instr.mapUpdate 59 (.map (some mb)) (.int .u64 e) (.bool true)).run Tryz.prog w = .ok () w' ∧ SeenE w' mb (l ++ [e]) ∧ Out (fun x => x = mb) w w' ∧ ∃ es c, w.heap[mb]? = some (.map es c) := by
  obtain ⟨f, cnt, hm, hc, hf⟩ := h
  obtain ⟨es, c, hob⟩ := hm.obj
  obtain ⟨w', hrun, hm', hg, hz⟩ := hm.store (val := .bool true) Tryz.lawE Tryz.underlying59 (by unfold maxLen; omega) (key_e h0 h1)
  refine ⟨w', hrun, ⟨putV f (.int .u64 e) (.bool true), _, hm', by rw [List.length_append, List.length_singleton]; split <;> omega, fun x x0 x1 => ?_⟩, ⟨hg.os, hg.tape, hg.output, by rw [hz]; exact Nat.le_refl _, fun k hk hn => hg.block k hk (fun e => hn (by cases e; rfl))⟩, es, c, hob⟩
  by_cases hx : x = e
  · subst hx; rw [putV_same]; simp
  · rw [putV_ne (by simpa using hx), hf x x0 x1]
    simp [hx]
theorem FRow.map {B n c mb : Nat} {L : List Int} {a : Option Addr} (h : FRow B L a n c w) (ho : Out (fun x => x = mb) w w') (hm : ∃ es c, w.heap[mb]? = some (.map es c)) : FRow B L a n c w' := by
  obtain ⟨h0, R, h1, h2⟩ := h
  obtain ⟨es, c', hm⟩ := hm
  refine ⟨h0, R, h1, ownsRow_out h2 ho (fun z hz e => ?_)⟩
  obtain ⟨cur, hc⟩ := row_type h2 hz
  rw [e, hm] at hc
  cases hc
end
end Go.Proofs.YtgebbmfoamkfnaaGreatDoor
namespace Go.Proofs.YtgebbmfoamkfnaaGreatDoor
open Go.RowKit
set_option linter.unusedVariables false
def bytesA : Array Value := #[.int .i64 0, .int .i64 1, .int .i64 1, .int .i64 2, .int .i64 4, .int .i64 8, .int .i64 1, .int .i64 2, .int .i64 4, .int .i64 8, .int .i64 8]
theorem bytesA_get {k : Int} (h1 : 1 ≤ k) (h2 : k ≤ 10) : bytesA[k.toNat]? = some (.int .i64 (kSize k)) := by
 rcases (by omega : k = 1 ∨ k = 2 ∨ k = 3 ∨ k = 4 ∨ k = 5 ∨ k = 6 ∨ k = 7 ∨ k = 8 ∨ k = 9 ∨ k = 10) with rfl | rfl | rfl | rfl | rfl | rfl | rfl | rfl | rfl | rfl <;> rfl
set_option maxRecDepth 100000 in
theorem bytes04_any (k : Int) (w : World) : Calls Tryz.prog 107 #[.int .i64 k] w fun e w' => e = .returned (.int .i64 (kSize k)) ∧ Below w.heap.size w w' := by
 rcases (by omega : k < 1 ∨ (1 ≤ k ∧ 10 < k) ∨ (1 ≤ k ∧ k ≤ 10)) with h | ⟨h, h'⟩ | ⟨h, h'⟩
 ·have H : Hid (kSize k = 0) := Lib.hid (kSize_zero (by omega))
  go_enter Tryz.func107, Tryz.ntmps107
  go_wp2
  go_ret
  exact ⟨by rw [H.out]; rfl, Below.refl _ _⟩
 ·have H : Hid (kSize k = 0) := Lib.hid (kSize_zero (by omega))
  go_enter Tryz.func107, Tryz.ntmps107
  go_wp2
  go_ret
  exact ⟨by rw [H.out]; rfl, Below.refl _ _⟩
 ·have hc : (w.alloc (.cells bytesA 240)).cell? ⟨w.heap.size, k.toNat, none⟩ = some (.int .i64 (kSize k)) := (cell_at (heap_alloc_new w _) _).trans (bytesA_get h h')
  have h0 : 0 ≤ k := by omega
  have h11 : k < 11 := by omega
  have HG : Hid (Below w.heap.size w (w.alloc (.cells bytesA 240))) := Lib.hid (by go_grown)
  unfold bytesA at hc
  generalize kSize k = q at *
  go_enter Tryz.func107, Tryz.ntmps107
  go_wp2
  go_ret
  exact ⟨rfl, HG.out⟩
set_option maxRecDepth 100000 in
set_option maxHeartbeats 1000000 in
theorem name07_any (s : ByteArray) (w : World) (hs : s.size ≤ maxLen) : Calls Tryz.prog 73 #[.string s] w fun e w' => e = .returned (.bool (isNameB s)) ∧ w = w' := by
 unfold maxLen at hs
 by_cases h0 : s.size = 0
 ·have H := Lib.hid (isName_long (.inl h0))
  have t0 : (s.size : Int) < 1 := by omega
  clear h0
  go_enter Tryz.func73, Tryz.ntmps73
  go_wp2
  go_ret
  exact ⟨ret_bool H.out.symm, rfl⟩
 ·by_cases h1 : 12 < s.size
  ·have H := Lib.hid (isName_long (.inr h1))
   have t0 : ¬ (s.size : Int) < 1 := by omega
   have t1 : (12 : Int) < (s.size : Int) := by omega
   clear h0 h1
   go_enter Tryz.func73, Tryz.ntmps73
   go_wp2
   go_ret
   exact ⟨ret_bool H.out.symm, rfl⟩
  ·have t0 : ¬ (s.size : Int) < 1 := by omega
   have t1 : ¬ (12 : Int) < (s.size : Int) := by omega
   have H0 := Lib.hid h0
   have H1 := Lib.hid h1
   clear h0 h1
   go_enter Tryz.func73, Tryz.ntmps73
   go_wp2_with fail
   go_loop [3] (fun i => ∃ k : Nat, k ≤ s.size ∧ i = .int .i64 k ∧ (s.data.toList.take k).all chB = true ∧ (0 < k → letB ((s.data.toList.getD 0 0).toNat) = true)) (fun i => s.size - (intOf i).toNat)
   case atStart => exact ⟨0, Nat.zero_le _, rfl, rfl, fun h => by omega⟩
   case round =>
    obtain ⟨k, hk, rfl, hall, hfst⟩ := hrel
    have HA := Lib.hid hall
    have HF := Lib.hid hfst
    clear hall hfst t0 t1
    by_cases hlt : k < s.size
    ·have HT := Lib.hid (take_snoc (data_get? hlt))
     have hlt' : (k : Int) < (s.size : Int) := by omega
     have hb0 : (s[k].toNat : Int) ≤ 255 := by have := s[k].toNat_lt; omega
     have HD := Lib.hid (data_getD hlt)
     rcases (by omega : (s[k].toNat : Int) < 48 ∨ (48 ≤ (s[k].toNat : Int) ∧ (s[k].toNat : Int) ≤ 57) ∨ (57 < (s[k].toNat : Int) ∧ (s[k].toNat : Int) < 97) ∨ (97 ≤ (s[k].toNat : Int) ∧ (s[k].toNat : Int) ≤ 122) ∨ 122 < (s[k].toNat : Int)) with h | ⟨h, h'⟩ | ⟨h, h'⟩ | ⟨h, h'⟩ | h
     ·have H := Lib.hid (isName_bad hlt (by unfold chB letB; simp; omega))
      have e1 : decide (97 ≤ (s[k].toNat : Int)) = false := by simp; omega
      have e2 : decide (48 ≤ (s[k].toNat : Int)) = false := by simp; omega
      go_wp2
      go_ret
      exact ⟨ret_bool H.out.symm, rfl⟩
     ·have e1 : decide (97 ≤ (s[k].toNat : Int)) = false := by simp; omega
      have e2 : decide (48 ≤ (s[k].toNat : Int)) = true := by simp; omega
      have e3 : decide ((s[k].toNat : Int) ≤ 57) = true := by simp; omega
      by_cases hk0 : k = 0
      ·have hb : letB (s[k].toNat) = false := by unfold letB; simp; omega
       have H : Hid (isNameB s = false) := Lib.hid (by subst hk0; exact isName_head hlt hb)
       have e4 : ((k : Int) == 0) = true := by simp; omega
       clear hb hk0
       go_wp2
       go_ret
       exact ⟨ret_bool H.out.symm, rfl⟩
      ·have H := Lib.hid (show chB s[k] = true by unfold chB letB; simp; omega)
       have e4 : ((k : Int) == 0) = false := by simp; omega
       have HK := Lib.hid hk0
       clear hk0
       go_wp2
       go_round
       case rel => exact ⟨k + 1, by omega, by go_num, by rw [HT.out, List.all_append, HA.out]; simp [H.out], fun _ => HF.out (by have := HK.out; omega)⟩
       case measure => simp [intOf]; omega
     ·have H := Lib.hid (isName_bad hlt (by unfold chB letB; simp; omega))
      have e1 : decide (97 ≤ (s[k].toNat : Int)) = false := by simp; omega
      have e2 : decide (48 ≤ (s[k].toNat : Int)) = true := by simp; omega
      have e3 : decide ((s[k].toNat : Int) ≤ 57) = false := by simp; omega
      go_wp2
      go_ret
      exact ⟨ret_bool H.out.symm, rfl⟩
     ·have H := Lib.hid (show chB s[k] = true by unfold chB letB; simp; omega)
      have HL := Lib.hid (show letB (s[k].toNat) = true by unfold letB; simp; omega)
      have e1 : decide (97 ≤ (s[k].toNat : Int)) = true := by simp; omega
      have e2 : decide (48 ≤ (s[k].toNat : Int)) = true := by simp; omega
      have e3 : decide ((s[k].toNat : Int) ≤ 57) = false := by simp; omega
      have e5 : decide ((s[k].toNat : Int) ≤ 122) = true := by simp; omega
      go_wp2
      go_round
      case rel =>
       refine ⟨k + 1, by omega, by go_num, by rw [HT.out, List.all_append, HA.out]; simp [H.out], fun _ => ?_⟩
       rcases (by omega : k = 0 ∨ 0 < k) with hz | hz
       ·have h1 := HL.out
        have h2 := HD.out
        subst hz
        rw [h2]; exact h1
       ·exact HF.out hz
      case measure => simp [intOf]; omega
     ·have H := Lib.hid (isName_bad hlt (by unfold chB letB; simp; omega))
      have e1 : decide (97 ≤ (s[k].toNat : Int)) = true := by simp; omega
      have e2 : decide (48 ≤ (s[k].toNat : Int)) = true := by simp; omega
      have e3 : decide ((s[k].toNat : Int) ≤ 57) = false := by simp; omega
      have e5 : decide ((s[k].toNat : Int) ≤ 122) = false := by simp; omega
      go_wp2
      go_ret
      exact ⟨ret_bool H.out.symm, rfl⟩
    ·obtain rfl : k = s.size := by omega
     have h0 := H0.out
     have hp : 0 < s.size := by omega
     have H := Lib.hid (isName_good hp (by have := H1.out; omega) (by have := HF.out hp; rwa [data_getD hp] at this) (by have := HA.out; rwa [List.take_of_length_le (by simp)] at this))
     clear h0 hp
     go_wp2
     go_ret
     exact ⟨ret_bool H.out.symm, rfl⟩
end Go.Proofs.YtgebbmfoamkfnaaGreatDoor
