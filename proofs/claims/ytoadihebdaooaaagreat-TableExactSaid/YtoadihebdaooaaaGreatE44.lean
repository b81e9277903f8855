/- table.Clone with rows. -/
import Derived.Test.YtoadihebdaooaaaGreatE43
import Derived.Test.YtoadihebdaooaaaGreatE20
namespace Go.Proofs.YtoadihebdaooaaaGreat
open Go.RowKit
set_option linter.unusedVariables false
/-- A column of a table but for its block. -/
def bareC (x : CV) : CV := { x with cb := 0 }
theorem bareC_eq {x y : CV} (h : bareC x = bareC y) : x.c = y.c ∧ x.fa = y.fa ∧ x.fl = y.fl ∧ x.fc = y.fc := by
  obtain ⟨a, b, c, d, e⟩ := x
  obtain ⟨a', b', c', d', e'⟩ := y
  simp only [bareC, CV.mk.injEq, and_true] at h
  exact h
theorem bareC_at {l m : List CV} (h : l.map bareC = m.map bareC) {i : Nat} {x : CV} (hx : l[i]? = some x) : ∃ y, m[i]? = some y ∧ x.c = y.c ∧ x.fa = y.fa ∧ x.fl = y.fl ∧ x.fc = y.fc := by
  have h1 := congrArg (·[i]?) h
  simp only [List.getElem?_map, hx, Option.map_some] at h1
  cases hy : m[i]? with
  | none => rw [hy] at h1; cases h1
  | some y =>
    rw [hy] at h1
    exact ⟨y, rfl, bareC_eq (Option.some.inj h1)⟩
theorem bareC_compL : ∀ {l m : List CV}, l.map bareC = m.map bareC → l.flatMap compL = m.flatMap compL
  | [], [], _ => rfl
  | [], _ :: _, h => by simp at h
  | _ :: _, [], h => by simp at h
  | x :: l, y :: m, h => by
    simp only [List.map_cons, List.cons.injEq] at h
    obtain ⟨h1, h2, h3, h4⟩ := bareC_eq h.1
    rw [List.flatMap_cons, List.flatMap_cons, bareC_compL h.2]
    unfold compL
    rw [h1, h2, h3, h4]
theorem bareC_id : ∀ {l m : List CV}, l.map bareC = m.map bareC → l.map (·.c) = m.map (·.c)
  | [], [], _ => rfl
  | [], _ :: _, h => by simp at h
  | _ :: _, [], h => by simp at h
  | x :: l, y :: m, h => by
    simp only [List.map_cons, List.cons.injEq] at h ⊢
    exact ⟨(bareC_eq h.1).1, bareC_id h.2⟩
theorem ColAt.mono {B B' : Nat} {w : World} {d : CD} (h : ColAt B w d) (hb : B' ≤ B) : ColAt B' w d :=
  ⟨⟨h.mem.blk, ownsRow_mono h.mem.own hb, Nat.le_trans hb h.mem.hcb, h.mem.nd, fun g hg => ⟨Nat.le_trans hb (h.mem.chunk g hg).1, (h.mem.chunk g hg).2⟩, h.mem.hsz, h.mem.hn, h.mem.hcap, h.mem.hgl, h.mem.hcf⟩, h.num, h.cell, h.sz, h.hle⟩
/-- What a round of table.Clone keeps. -/
structure TCr (w0 : World) (U : Nat) (t : TD) (ea : Option Addr) (ec : Nat) (la : Option Addr) (lc k : Nat) (out : List CV) (D : List CD) (wx : World) : Prop where
  blk : wx.heap[U]? = some (.cells #[.int .i64 t.ver, .slice t.ca t.cps.length t.cc, .int .u32 t.set, .int .i64 (t.most : Int), .int .i64 (t.kept : Int), .slice ea t.ents.length ec, .slice la k lc] 139 (0, 0))
  ents : wx.ownsRow (U + 1) 61 1 (.slice ea t.ents.length ec) t.ents.length (t.ents.map (.int .u64))
  cols : wx.ownsRow (U + 1) 142 4 (.slice la k lc) k (out.flatMap colL)
  below : Below w0.heap.size w0 wx
  len : out.length = k
  lenD : D.length = k
  like : out.map bareC = (t.cps.take k).map bareC
  good : ∀ (i : Nat) (x : CV) (d : CD), out[i]? = some x → D[i]? = some d → d.cb = x.cb ∧ ColAt (U + 1) wx d ∧ ∃ d0, t.cols[i]? = some d0 ∧ d.rows = d0.rows ∧ d.size = d0.size ∧ d.cap = d0.cap
  apart : ∀ (i j : Nat) (d e : CD), i ≠ j → D[i]? = some d → D[j]? = some e → ∀ b, d.foot b → ¬ e.foot b
section
variable {w0 : World} {U : Nat} {t : TD} {ea : Option Addr} {ec : Nat} {la : Option Addr} {lc k : Nat} {out : List CV} {D : List CD} {wx : World}
theorem TCr.goodD (h : TCr w0 U t ea ec la lc k out D wx) {i : Nat} {d : CD} (hd : D[i]? = some d) : ColAt (U + 1) wx d := by
  obtain ⟨x, hx⟩ : ∃ x, out[i]? = some x := ⟨_, List.getElem?_eq_getElem (by have := (List.getElem?_eq_some_iff.1 hd).1; have := h.len; have := h.lenD; omega)⟩
  exact (h.good i x d hx hd).2.1
theorem TCr.keepB (h : TCr w0 U t ea ec la lc k out D wx) {w' : World} (hb : Below wx.heap.size wx w') : TCr w0 U t ea ec la lc k out D w' :=
  ⟨keep hb h.blk, ownsRow_below h.ents hb, ownsRow_below h.cols hb, h.below.trans (hb.mono h.below.size), h.len, h.lenD, h.like, fun i x d hx hd => by
    obtain ⟨h1, h2, h3⟩ := h.good i x d hx hd
    exact ⟨h1, h2.out (F := fun _ => False) (Out.of hb) (fun _ _ => id), h3⟩, h.apart⟩
/-- A column more. -/
theorem TCr.app (h : TCr w0 U t ea ec la lc k out D wx) (hU : w0.heap.size ≤ U) {y : CV} (hy : t.cps[k]? = some y) {d0 d : CD} (hd0 : t.cols[k]? = some d0) (hd : ColAt (U + 1) wx d) (hr : d.rows = d0.rows ∧ d.size = d0.size ∧ d.cap = d0.cap) (hnew : ∀ e ∈ D, ∀ b, e.foot b → ¬ d.foot b)
    {w' : World} {g cap : Nat} (hg : wx.grownBy w' (Value.slice la k lc).ownBlock) (ho : w'.ownsRow (U + 1) 142 4 (.slice (some ⟨g, 0, none⟩) (k + 1) cap) (k + 1) (out.flatMap colL ++ colL { y with cb := d.cb })) :
    TCr w0 U t ea ec (some ⟨g, 0, none⟩) cap (k + 1) (out ++ [{ y with cb := d.cb }]) (D ++ [d]) (w'.setCell ⟨U, 6, none⟩ (.slice (some ⟨g, 0, none⟩) (k + 1) cap)) := by
  have ht' := keepG hg h.blk (ownsRow_ne_block h.cols h.blk (fun cur he => by cases he))
  have hcol : ∀ e, ColAt (U + 1) wx e → ColAt (U + 1) (w'.setCell ⟨U, 6, none⟩ (.slice (some ⟨g, 0, none⟩) (k + 1) cap)) e := by
    intro e he
    have hO : Out (fun b => (Value.slice la k lc).ownBlock = some b ∨ b = U) wx (w'.setCell ⟨U, 6, none⟩ (.slice (some ⟨g, 0, none⟩) (k + 1) cap)) :=
      Out.trans (F := fun b => (Value.slice la k lc).ownBlock = some b ∨ b = U) (G := fun b => b = U) ⟨hg.os, hg.tape, hg.output, hg.size, fun i hi hn => hg.block i hi (fun e => hn (.inl e.symm))⟩ (Out.only (Only.at w' U 6 _) rfl) (fun x hx => .inl (.inr hx))
    refine he.out hO (fun b hb hF => ?_)
    rcases hF with hF | rfl
    · obtain ⟨cur, hc⟩ := row_type h.cols hF
      obtain ⟨cs, ty, fr, hh, ht⟩ := he.foot_ty hb
      rw [hc] at hh
      cases hh
      rcases ht with ht | ht | ht <;> exact absurd ht (by decide)
    · have := (he.foot_ge hb).1
      omega
  refine ⟨hset _ _ _ _ _ _ _ ht', ?_, ?_, ?_, ?_, ?_, ?_, ?_, ?_⟩
  · exact ownsRow_setCell_below (h.ents.kept hg (ownsRow_ne h.ents h.cols (by decide))) (by simp) _
  · rw [List.flatMap_append]
    have e : ([{ y with cb := d.cb }] : List CV).flatMap colL = colL { y with cb := d.cb } := by simp
    rw [e]
    exact ownsRow_setCell_below ho (by simp) _
  · refine (h.below.grown hg h.below.size (fun x hx => ?_)).setCell hU _
    have := (h.cols.lt x hx).1; omega
  · rw [List.length_append, h.len]; rfl
  · rw [List.length_append, h.lenD]; rfl
  · rw [List.map_append, h.like, take_snoc hy, List.map_append]; rfl
  · intro i x e hx he
    rcases Nat.lt_or_ge i k with hlt | hge
    · rw [List.getElem?_append_left (by rw [h.len]; exact hlt)] at hx
      rw [List.getElem?_append_left (by rw [h.lenD]; exact hlt)] at he
      obtain ⟨h1, h2, h3⟩ := h.good i x e hx he
      exact ⟨h1, hcol e h2, h3⟩
    · have hil := (List.getElem?_eq_some_iff.1 he).1
      rw [List.length_append, h.lenD] at hil
      have hil2 : i < k + 1 := hil
      obtain rfl : i = k := by omega
      rw [List.getElem?_append_right (by rw [h.len]; exact Nat.le_refl _), h.len, Nat.sub_self] at hx
      rw [List.getElem?_append_right (by rw [h.lenD]; exact Nat.le_refl _), h.lenD, Nat.sub_self] at he
      simp at hx he
      subst hx he
      exact ⟨rfl, hcol _ hd, d0, hd0, hr⟩
  · intro i j e f hij he hf b hb hb2
    have hor : ∀ (m : Nat) (z : CD), (D ++ [d])[m]? = some z → (m < k ∧ D[m]? = some z) ∨ (m = k ∧ z = d) := by
      intro m z hz
      rcases Nat.lt_or_ge m k with hlt | hge
      · rw [List.getElem?_append_left (by rw [h.lenD]; exact hlt)] at hz
        exact .inl ⟨hlt, hz⟩
      · have hml := (List.getElem?_eq_some_iff.1 hz).1
        rw [List.length_append, h.lenD] at hml
        have hml2 : m < k + 1 := hml
        obtain rfl : m = k := by omega
        rw [List.getElem?_append_right (by rw [h.lenD]; exact Nat.le_refl _), h.lenD, Nat.sub_self] at hz
        simp at hz
        exact .inr ⟨rfl, hz.symm⟩
    rcases hor i e he with ⟨h1, he2⟩ | ⟨h1, he2⟩
    · rcases hor j f hf with ⟨h3, hf2⟩ | ⟨h3, hf2⟩
      · exact h.apart i j e f hij he2 hf2 b hb hb2
      · subst hf2
        exact hnew e (List.mem_of_getElem? he2) b hb hb2
    · rcases hor j f hf with ⟨h3, hf2⟩ | ⟨h3, hf2⟩
      · subst he2
        exact hnew f (List.mem_of_getElem? hf2) b hb2 hb
      · omega
/-- The copy of a table. -/
theorem TCr.fin {B : Nat} (h : TCr w0 U t ea ec la lc t.cps.length out D wx) (ht : TabIn B w0 t) (hU : w0.heap.size ≤ U) : TabIn B wx { t with tb := U, ea := ea, ec := ec, la := la, lc := lc, cps := out, cols := D } := by
  have hB : B ≤ U := by have := ht.hB; have := lt_some ht.blk; omega
  have hlike : out.map bareC = t.cps.map bareC := by rw [h.like, List.take_length]
  have hlen := h.len
  have htx : TabIn B wx t := ht.below h.below
  refine ⟨by rw [hlen]; exact h.blk, ?_, ?_, fun x hx => ?_, ownsRow_mono h.ents (by omega), hB, by rw [h.lenD, hlen], fun i x d hx hd => ?_, fun d hd => ?_, h.apart, fun x hx => ?_, by rw [hlen]; exact ht.n24, ht.most1, ht.most2, ht.room, ht.set0, ht.set1, ?_⟩
  · show wx.ownsRow B _ 3 (.slice t.ca out.length t.cc) out.length (out.flatMap compL)
    rw [hlen, bareC_compL hlike]
    exact htx.comps
  · show wx.ownsRow B _ 4 (.slice la out.length lc) out.length (out.flatMap colL)
    rw [hlen]
    exact ownsRow_mono h.cols (by omega)
  · obtain ⟨i, hi⟩ := List.getElem?_of_mem hx
    obtain ⟨y, hy, h1, h2, h3, h4⟩ := bareC_at hlike hi
    have hf := htx.fields y (List.mem_of_getElem? hy)
    exact ⟨by rw [h1, h2, h3, h4]; exact hf.row, by rw [h1, h3]; exact hf.len, by rw [h3]; exact hf.max, by rw [h2, h3, h4]; exact hf.nil⟩
  · obtain ⟨h1, h2, d0, h3, h4, h5, h6⟩ := h.good i x d hx hd
    obtain ⟨y, hy, g1, _⟩ := bareC_at hlike hx
    obtain ⟨k1, k2, k3, k4⟩ := ht.col i y d0 hy h3
    exact ⟨h1, by rw [h5, k2, g1], by rw [h6]; exact k3, by rw [h4]; exact k4⟩
  · obtain ⟨i, hi⟩ := List.getElem?_of_mem hd
    exact (h.goodD hi).mono (by omega)
  · obtain ⟨i, hi⟩ := List.getElem?_of_mem hx
    obtain ⟨y, hy, h1, _⟩ := bareC_at hlike hi
    rw [h1]
    exact ht.lay y (List.mem_of_getElem? hy)
  · show out.map (·.c.id) = _
    have := bareC_id hlike
    have e := congrArg (List.map (·.id)) this
    rw [List.map_map, List.map_map] at e
    exact e.trans ht.ids
end
/-- A copy of a table: another one, with the same rows, in new memory. -/
def IsCopy (B : Nat) (w : World) (t : TD) (w' : World) (u : TD) : Prop :=
  TabIn B w' u ∧ Below w.heap.size w w' ∧ (∀ b, u.foot b → w.heap.size ≤ b) ∧ u.ver = t.ver ∧ u.set = t.set ∧ u.most = t.most ∧ u.kept = t.kept ∧ u.ents = t.ents ∧ u.cps.map bareC = t.cps.map bareC ∧ ∀ (i : Nat) (d : CD), u.cols[i]? = some d → ∃ d0, t.cols[i]? = some d0 ∧ d.rows = d0.rows
set_option maxRecDepth 100000 in
set_option maxHeartbeats 4000000 in
theorem tabClone_rows (B : Nat) (w : World) (t : TD) (h : TabIn B w t) : Calls Tryz.prog 46 #[.pointer (some ⟨t.tb, 0, none⟩)] w fun e w' => ∃ u, e = .returned (.pointer (some ⟨u.tb, 0, none⟩)) ∧ IsCopy B w t w' u := by
  obtain ⟨i1, hi', hy0, hy1, hy2⟩ := info_parts Tryz.info142
  have hn24 := h.n24
  have hentl : t.ents.length ≤ 100000 := by have := h.room; have := h.most2; omega
  have hB : B ≤ w.heap.size := by have := h.hB; have := lt_some h.blk; omega
  obtain ⟨c0, c1, c2, c3, c4, c5, c6, _⟩ := h.cells
  have H := Lib.hid h
  have hU := heap_alloc_new w (.cells #[.int .i64 t.ver, .slice t.ca t.cps.length t.cc, .int .u32 t.set, .int .i64 (t.most : Int), .int .i64 (t.kept : Int), .slice t.ea t.ents.length t.ec, .slice t.la t.cps.length t.lc] 139)
  have hb0 : Below w.heap.size w (w.alloc (.cells #[.int .i64 t.ver, .slice t.ca t.cps.length t.cc, .int .u32 t.set, .int .i64 (t.most : Int), .int .i64 (t.kept : Int), .slice t.ea t.ents.length t.ec, .slice t.la t.cps.length t.lc] 139)) := by go_grown
  have hzV := World.size_alloc w (.cells #[.int .i64 t.ver, .slice t.ca t.cps.length t.cc, .int .u32 t.set, .int .i64 (t.most : Int), .int .i64 (t.kept : Int), .slice t.ea t.ents.length t.ec, .slice t.la t.cps.length t.lc] 139)
  have hT := h.below hb0
  have HV := Lib.hid (And.intro hU (And.intro hb0 hzV))
  clear h
  go_enter Tryz.func46, Tryz.ntmps46
  go_upto_region 4 with (fail)
  clear c0 c1 c2 c3 c4 c5 c6 hb0 hzV hU
  generalize w.alloc (.cells #[.int .i64 t.ver, .slice t.ca t.cps.length t.cc, .int .u32 t.set, .int .i64 (t.most : Int), .int .i64 (t.kept : Int), .slice t.ea t.ents.length t.ec, .slice t.la t.cps.length t.lc] 139) = V at *
  obtain ⟨_, _, _, _, _, d5, d6, _⟩ := hT.cells
  have HEC := Lib.hid (cloneEnts_any B t.ea t.ec t.ents V hT.entsR hentl)
  clear hT
  go_wp2_with fail
  refine HEC.out.mono ?_
  rintro e w1 ⟨ea, ec, rfl, hent, hb1⟩
  have hU1 := keep hb1 HV.out.1
  have hbw1 := HV.out.2.1.trans (hb1.mono HV.out.2.1.size)
  have hent1 : w1.ownsRow (w.heap.size + 1) 61 1 (.slice ea t.ents.length ec) t.ents.length (t.ents.map (.int .u64)) := ownsRow_mono hent (by rw [HV.out.2.2]; exact Nat.le_refl _)
  have u5 := cell_at hU1 5
  have u6 := cell_at hU1 6
  have f5 := free_at hU1 5
  have f6 := free_at hU1 6
  simp at u5 u6
  have HW1 := Lib.hid (And.intro hU1 (And.intro hbw1 hent1))
  clear hU1 hbw1 hent1 hent hb1 HEC d5 d6
  go_upto_region 6 with (fail)
  have hU2 := hset _ _ 6 (.slice none 0 0) _ _ _ (hset w1 w.heap.size 5 (.slice ea t.ents.length ec) _ _ _ HW1.out.1)
  have hb2 : Below w.heap.size w ((w1.setCell ⟨w.heap.size, 5, none⟩ (.slice ea t.ents.length ec)).setCell ⟨w.heap.size, 6, none⟩ (.slice none 0 0)) := (HW1.out.2.1.setCell (by simp) _).setCell (by simp) _
  have hen2 := ownsRow_setCell_below (ownsRow_setCell_below HW1.out.2.2 (show (⟨w.heap.size, 5, none⟩ : Addr).block < w.heap.size + 1 by simp) (.slice ea t.ents.length ec)) (show (⟨w.heap.size, 6, none⟩ : Addr).block < w.heap.size + 1 by simp) (.slice none 0 0)
  clear u5 u6 f5 f6
  generalize (w1.setCell ⟨w.heap.size, 5, none⟩ (.slice ea t.ents.length ec)).setCell ⟨w.heap.size, 6, none⟩ (.slice none 0 0) = V2 at *
  obtain ⟨_, _, _, _, _, _, d6, _⟩ := (H.out.below hb2).cells
  simp at hU2
  have HV2 := Lib.hid (And.intro hU2 (And.intro hb2 hen2))
  clear hU2 hb2 hen2 HW1 HV
  generalize hgU : w.heap.size = U at *
  have HGU := Lib.hid hgU
  clear hgU
  generalize hgn : t.cps.length = n at *
  have HGN := Lib.hid hgn
  clear hgn
  go_wp2_with fail
  go_loopw [23] (fun i wr => ∃ (k : Nat) (la' : Option Addr) (lc' : Nat) (out : List CV) (D : List CD), k ≤ n ∧ i = .int .i64 k ∧ TCr w U t ea ec la' lc' k out D wr) (fun i _ => n - (intOf i).toNat)
  case atStart =>
    exact ⟨0, none, 0, [], [], Nat.zero_le _, rfl, by rw [HGN.out]; exact HV2.out.1, HV2.out.2.2, World.ownsRow_nil _ _ _ _, by rw [HGU.out]; exact HV2.out.2.1, rfl, rfl, rfl, (fun i x d hx hd => by simp at hx), (fun i j d e _ hd _ => by simp at hd)⟩
  case round =>
    obtain ⟨k, la', lc', out, D, hk, rfl, hst⟩ := hrel
    have HST := Lib.hid hst
    clear hst
    have hbw := HST.out.below
    by_cases hlt : k < n
    · obtain ⟨y, hy⟩ : ∃ y, t.cps[k]? = some y := ⟨_, List.getElem?_eq_getElem (by have := HGN.out; omega)⟩
      obtain ⟨d, hd⟩ : ∃ d, t.cols[k]? = some d := ⟨_, List.getElem?_eq_getElem (by have := HGN.out; have := H.out.len; omega)⟩
      obtain ⟨k1, _, _, _⟩ := H.out.col k y d hy hd
      obtain ⟨g0, g1, g2, g3⟩ := colL_at t.cps hy
      have hrow := ownsRow_below H.out.colsR hbw
      rw [HGN.out] at hrow
      obtain ⟨q, hq, _, hql, hqc⟩ := row_block hrow (by omega)
      have z0 := hqc _ _ g0
      have z1 := hqc _ _ g1
      have z2 := hqc _ _ g2
      have z3 := hqc _ _ g3
      rw [hq]
      have i1 : (0 : Int) ≤ (k : Int) := by omega
      have i2 : (k : Int) < (n : Int) := by omega
      have HCOL := Lib.hid (H.out.colsA d (List.mem_of_getElem? hd))
      have HY := Lib.hid (And.intro hy (And.intro hd k1))
      clear hrow hqc g0 g1 g2 g3 hy hd k1 hbw hq
      go_upto_region 9 with (fail)
      have ST0 := HST.out.keepB (w' := wr.alloc (.cells #[.int .i64 y.c.id, .string y.c.name, .slice y.fa y.fl y.fc, .pointer (some ⟨y.cb, 0, none⟩)] 142)) ((Below.refl _ _).alloc (Nat.le_refl _) _)
      have hBx := heap_alloc_new wr (.cells #[.int .i64 y.c.id, .string y.c.name, .slice y.fa y.fl y.fc, .pointer (some ⟨y.cb, 0, none⟩)] 142)
      have hUz := lt_some HST.out.blk
      have hzW := World.size_alloc wr (.cells #[.int .i64 y.c.id, .string y.c.name, .slice y.fa y.fl y.fc, .pointer (some ⟨y.cb, 0, none⟩)] 142)
      have hDl : ∀ e ∈ D, ∀ b, e.foot b → b < wr.heap.size := fun e he b hb => by
        obtain ⟨i, hi⟩ := List.getElem?_of_mem he
        exact ((HST.out.goodD hi).foot_ge hb).2
      have HLT := Lib.hid hlt
      clear z0 z1 z2 z3 i1 i2 hlt d6
      generalize wr.alloc (.cells #[.int .i64 y.c.id, .string y.c.name, .slice y.fa y.fl y.fc, .pointer (some ⟨y.cb, 0, none⟩)] 142) = W at *
      generalize hPB : wr.heap.size = PB at *
      have HST2 := Lib.hid ST0
      have HBX := Lib.hid hBx
      have HDL := Lib.hid hDl
      have t0 := cell_at HST2.out.blk 6
      have t2 := free_at HST2.out.blk 6
      have q0 := cell_at hBx 0
      have q1 := cell_at hBx 1
      have q2 := cell_at hBx 2
      have q3 := cell_at hBx 3
      simp at t0 q0 q1 q2 q3
      clear ST0 hBx hDl HST hPB
      have hd : ∀ w6, Below W.drew.heap.size W.drew w6 → w6.cell? ⟨U, 6, none⟩ = some (.slice la' k lc') ∧ w6.cell? ⟨PB, 0, none⟩ = some (.int .i64 y.c.id) ∧ w6.cell? ⟨PB, 1, none⟩ = some (.string y.c.name) ∧ w6.cell? ⟨PB, 2, none⟩ = some (.slice y.fa y.fl y.fc) ∧ w6.cell? ⟨PB, 3, none⟩ = some (.pointer (some ⟨y.cb, 0, none⟩)) ∧ ∀ o, (w6.alloc o).cell? ⟨U, 6, none⟩ = some (.slice la' k lc') := by
        intro w6 hb6
        have st := HST2.out.keepB (w' := W.drew) (Below.refl _ _).drew |>.keepB hb6
        have hbx := keep hb6 (show W.drew.heap[PB]? = _ from HBX.out)
        exact ⟨by rw [cell_at st.blk]; rfl, by rw [cell_at hbx]; rfl, by rw [cell_at hbx]; rfl, by rw [cell_at hbx]; rfl, by rw [cell_at hbx]; rfl, fun o => by rw [cell_at (keepA _ st.blk)]; rfl⟩
      have HD := Lib.hid hd
      clear hd
      have he : ∀ w6 o w7, Below W.drew.heap.size W.drew w6 → (w6.alloc o).grownBy w7 (Value.slice la' k lc').ownBlock → w7.cell? ⟨U, 6, none⟩ = some (.slice la' k lc') ∧ w7.frozen? ⟨U, 6, none⟩ = false := by
        intro w6 o w7 hb6 hg7
        have st := HST2.out.keepB (w' := W.drew) (Below.refl _ _).drew |>.keepB hb6
        have hT6 := keepG hg7 (keepA _ st.blk) (ownsRow_ne_block st.cols st.blk (fun cur he => by cases he))
        exact ⟨by rw [cell_at hT6]; rfl, free_at hT6 _⟩
      have HE := Lib.hid he
      clear he
      have hcl : Calls Tryz.prog 86 #[.pointer (some ⟨y.cb, 0, none⟩)] W.drew fun e w' => ∃ d' : CD, e = .returned (.pointer (some ⟨d'.cb, 0, none⟩)) ∧ ColAt W.drew.heap.size w' d' ∧ d'.rows = d.rows ∧ d'.size = d.size ∧ d'.cap = d.cap ∧ Below W.drew.heap.size W.drew w' := by
        rw [← HY.out.2.2]
        exact colClone_rows B W.drew d (HCOL.out.out (F := fun _ => False) (Out.of (show Below w.heap.size w W.drew from HST2.out.below.drew)) (fun _ _ => id))
      have HCO := Lib.hid hcl
      clear hcl
      have hfin : ∀ (w6 : World) (o : Obj) (w7 : World) (g cap : Nat) (d' : CD), Below W.drew.heap.size W.drew w6 → (ColAt W.drew.heap.size w6 d' ∧ d'.rows = d.rows ∧ d'.size = d.size ∧ d'.cap = d.cap) → (w6.alloc o).grownBy w7 (Value.slice la' k lc').ownBlock → w7.ownsRow (U + 1) 142 4 (.slice (some ⟨g, 0, none⟩) (k + 1) cap) (k + 1) (out.flatMap colL ++ colL { y with cb := d'.cb }) →
          TCr w U t ea ec (some ⟨g, 0, none⟩) cap (k + 1) (out ++ [{ y with cb := d'.cb }]) (D ++ [d']) (w7.setCell ⟨U, 6, none⟩ (.slice (some ⟨g, 0, none⟩) (k + 1) cap)) := by
        intro w6 o w7 g cap d' hb6 hcb hg7 hown7
        have hWs : W.drew.heap.size = PB + 1 := hzW
        have hc6 : ColAt (U + 1) (w6.alloc o) d' := (hcb.1.out (F := fun _ => False) (Out.of ((Below.refl w6.heap.size w6).alloc (Nat.le_refl _) o)) (fun _ _ => id)).mono (by omega)
        exact ((HST2.out.keepB (w' := W.drew) (Below.refl _ _).drew |>.keepB hb6).keepB ((Below.refl _ _).alloc (Nat.le_refl _) o)).app (by rw [HGU.out]; exact Nat.le_refl _) HY.out.1 HY.out.2.1 hc6 hcb.2 (fun e he b hb hb2 => by
          have h1 := HDL.out e he b hb
          have h2 := (hcb.1.foot_ge hb2).1
          omega) hg7 hown7
      have HFIN := Lib.hid hfin
      clear hfin
      have hob : ∀ w6 o, Below W.drew.heap.size W.drew w6 → (w6.alloc o).ownsRow (U + 1) 142 4 (.slice la' k lc') k (out.flatMap colL) := by
        intro w6 o hb6
        exact (HST2.out.keepB (w' := W.drew) (Below.refl _ _).drew |>.keepB hb6).cols.alloc o
      have HOB := Lib.hid hob
      clear hob
      have hnw : ∀ (w6 : World) (pc : Option Addr) j u, ([.int .i64 y.c.id, .string y.c.name, .slice y.fa y.fl y.fc, .pointer pc] : List Value)[j]? = some u → (w6.alloc (.cells #[.int .i64 y.c.id, .string y.c.name, .slice y.fa y.fl y.fc, .pointer pc] 142)).cell? ((⟨w6.heap.size, 0, none⟩ : Addr).add j) = some u :=
        fun w6 pc => World.news_of_block (cs := #[.int .i64 y.c.id, .string y.c.name, .slice y.fa y.fl y.fc, .pointer pc]) (t := 142) (fr := (0, 0)) (heap_alloc_new w6 _)
      have HNW := Lib.hid hnw
      clear hnw
      have h1c : ∀ (pc : Option Addr) (u : Value), u ∈ ([.int .i64 y.c.id, .string y.c.name, .slice y.fa y.fl y.fc, .pointer pc] : List Value) → u.oneCell' = true := by
        intro pc u hu; simp at hu; rcases hu with rfl | rfl | rfl | rfl <;> rfl
      have H1C := Lib.hid h1c
      clear h1c
      have hm1 : k + 1 ≤ maxLen := by unfold maxLen; omega
      have hm2 : (k + 1) * 56 ≤ 140737488355328 := by omega
      have hm3 : ∀ w6 o, Below W.drew.heap.size W.drew w6 → U + 1 ≤ (w6.alloc o).heap.size := by
        intro w6 o hb6
        have : W.heap.size ≤ w6.heap.size := hb6.size
        simp; omega
      have HM3 := Lib.hid hm3
      clear hm3
      have HZ := Lib.hid (And.intro hUz hzW)
      clear hUz hzW
      go_wp2_with fail
      go_region_law (first | (refine step_append_lies _ (by rfl) _ _ 137 (by rfl) (U + 1) 142 i1 _ 4 56 Tryz.underlying137 hi' hy0 hy1 hy2 rfl (by omega) (.slice la' k lc') k (out.flatMap colL) (by rfl) (HOB.out _ _ hb6) ⟨w6.heap.size, 0, none⟩ 1 1 [.int .i64 y.c.id, .string y.c.name, .slice y.fa y.fl y.fc, .pointer (some ⟨cb, 0, none⟩)] (by rfl) (by rfl) (HNW.out w6 (some ⟨cb, 0, none⟩)) (H1C.out (some ⟨cb, 0, none⟩)) (by omega) hm1 hm2 (HM3.out _ _ hb6) (w6.heap.size + 1) (by simp) ?_; intro g cap w7 hown7 hg7 hat7 hlt7; obtain ⟨d5, d6⟩ := HE.out _ _ _ hb6 hg7) | (go_simp; go_at_call 86; refine HCO.out.mono ?_; rintro e w6 ⟨d', rfl, hca, hr1, hr2, hr3, hb6⟩; have HCB := Lib.hid (show ColAt W.drew.heap.size w6 d' ∧ d'.rows = d.rows ∧ d'.size = d.size ∧ d'.cap = d.cap from ⟨hca, hr1, hr2, hr3⟩); clear hca hr1 hr2 hr3; obtain ⟨cb, hcb⟩ : ∃ cb, d'.cb = cb := ⟨_, rfl⟩; rw [hcb]; have HCBE := Lib.hid hcb; clear hcb; obtain ⟨d0, d1, d2, d3, d4, d4'⟩ := HD.out _ hb6))
      all_goals
        have HST3 := Lib.hid (HFIN.out _ _ _ _ _ _ hb6 HCB.out hg7 (by rw [HCBE.out]; exact hown7))
        clear hb6 hg7 hown7 d0 d1 d2 d3 d4 d4' d5 d6 t0 t2 q0 q1 q2 q3 hat7 hlt7
        go_wp2_with fail
        go_roundw
        case rel => exact ⟨k + 1, _, _, _, _, by have := HLT.out; omega, by go_num, HST3.out⟩
        case measure => have := HLT.out; simp [intOf]; omega
    · obtain rfl : k = n := by omega
      go_wp2_with fail
      go_returns
      have hst2 := HST.out
      rw [← HGN.out] at hst2
      have hf := hst2.fin H.out (by have := HGU.out; omega)
      refine ⟨_, rfl, hf, by have := HST.out.below; exact this, fun b hb => ?_, rfl, rfl, rfl, rfl, rfl, hst2.like.trans (by rw [List.take_length]), fun i d hd => ?_⟩
      · rcases hb with rfl | hb | ⟨e, he, hb⟩
        · have := HGU.out; exact Nat.le_of_eq this
        · have := (HST.out.ents.lt b hb).1; have := HGU.out; omega
        · obtain ⟨i, hi⟩ := List.getElem?_of_mem he
          have := ((HST.out.goodD hi).foot_ge hb).1
          have := HGU.out
          omega
      · obtain ⟨x, hx⟩ : ∃ x, out[i]? = some x := ⟨_, List.getElem?_eq_getElem (by have h9 : i < D.length := (List.getElem?_eq_some_iff.1 hd).1; have := HST.out.len; have := HST.out.lenD; omega)⟩
        obtain ⟨_, _, d0, h3, h4, _⟩ := HST.out.good i x d hx hd
        exact ⟨d0, h3, h4⟩
end Go.Proofs.YtoadihebdaooaaaGreat
