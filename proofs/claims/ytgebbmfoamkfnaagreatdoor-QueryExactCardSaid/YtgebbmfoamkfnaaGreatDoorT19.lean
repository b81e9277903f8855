/- table.Clone with rows. · A graph and its tables with rows. · Contracts of octet.Reader. -/
import Derived.Test.YtgebbmfoamkfnaaGreatDoorT18
import Derived.Test.YtgebbmfoamkfnaaGreatDoorT17
import Derived.Test.YtgebbmfoamkfnaaGreatDoorT9
namespace Go.Proofs.YtgebbmfoamkfnaaGreatDoor
open Go.RowKit
set_option linter.unusedVariables false
def bareC (x : CV) : CV := { x with cb := 0 }
theorem bareC_eq {x y : CV} (h : bareC x = bareC y) : x.c = y.c ∧ x.fa = y.fa ∧ x.fl = y.fl ∧ x.fc = y.fc := by
 obtain ⟨a, b, c, d, e⟩ := x
 obtain ⟨a', b', c', d', e'⟩ := y
 simp only [bareC, CV.mk.injEq, and_true] at h
 exact h
theorem bareC_at {l m : List CV} (h : l.map bareC = m.map bareC) {i : Nat} {x : CV} (hx : l[i]? = some x) : ∃ y, m[i]? = some y ∧ x.c = y.c ∧ x.fa = y.fa ∧ x.fl = y.fl ∧ x.fc = y.fc := by
 have h1 := congrArg (·[i]?) h
 simp only [List.getElem?_map, hx, Option.map_some] at h1
 cases hy : m[i]? with
 | none => rw [hy] at h1; cases h1
 | some y =>
  rw [hy] at h1
  exact ⟨y, rfl, bareC_eq (Option.some.inj h1)⟩
theorem bareC_compL : ∀ {l m : List CV}, l.map bareC = m.map bareC → l.flatMap compL = m.flatMap compL
 | [], [], _ => rfl
 | [], _ :: _, h => by simp at h
 | _ :: _, [], h => by simp at h
 | x :: l, y :: m, h => by
  simp only [List.map_cons, List.cons.injEq] at h
  obtain ⟨h1, h2, h3, h4⟩ := bareC_eq h.1
  rw [List.flatMap_cons, List.flatMap_cons, bareC_compL h.2]
  unfold compL
  rw [h1, h2, h3, h4]
theorem bareC_id : ∀ {l m : List CV}, l.map bareC = m.map bareC → l.map (·.c) = m.map (·.c)
 | [], [], _ => rfl
 | [], _ :: _, h => by simp at h
 | _ :: _, [], h => by simp at h
 | x :: l, y :: m, h => by
  simp only [List.map_cons, List.cons.injEq] at h ⊢
  exact ⟨(bareC_eq h.1).1, bareC_id h.2⟩
theorem ColAt.mono {B B' : Nat} {w : World} {d : CD} (h : ColAt B w d) (hb : B' ≤ B) : ColAt B' w d :=
 ⟨⟨h.mem.blk, ownsRow_mono h.mem.own hb, Nat.le_trans hb h.mem.hcb, h.mem.nd, fun g hg => ⟨Nat.le_trans hb (h.mem.chunk g hg).1, (h.mem.chunk g hg).2⟩, h.mem.hsz, h.mem.hn, h.mem.hcap, h.mem.hgl, h.mem.hcf⟩, h.num, h.cell, h.sz, h.hle⟩
structure TCr (w0 : World) (U : Nat) (t : TD) (ea : Option Addr) (ec : Nat) (la : Option Addr) (lc k : Nat) (out : List CV) (D : List CD) (wx : World) : Prop where
 blk : wx.heap[U]? = some (.cells #[.int .i64 t.ver, .slice t.ca t.cps.length t.cc, .int .u32 t.set, .int .i64 (t.most : Int), .int .i64 (t.kept : Int), .slice ea t.ents.length ec, .slice la k lc] 178 (0, 0))
 ents : wx.ownsRow (U + 1) 50 1 (.slice ea t.ents.length ec) t.ents.length (t.ents.map (.int .u64))
 cols : wx.ownsRow (U + 1) 181 4 (.slice la k lc) k (out.flatMap colL)
 below : Below w0.heap.size w0 wx
 len : out.length = k
 lenD : D.length = k
 like : out.map bareC = (t.cps.take k).map bareC
 good : ∀ (i : Nat) (x : CV) (d : CD), out[i]? = some x → D[i]? = some d → d.cb = x.cb ∧ ColAt (U + 1) wx d ∧ ∃ d0, t.cols[i]? = some d0 ∧ d.rows = d0.rows ∧ d.size = d0.size ∧ d.cap = d0.cap
 apart : ∀ (i j : Nat) (d e : CD), i ≠ j → D[i]? = some d → D[j]? = some e → ∀ b, d.foot b → ¬ e.foot b
section
variable {w0 : World} {U : Nat} {t : TD} {ea : Option Addr} {ec : Nat} {la : Option Addr} {lc k : Nat} {out : List CV} {D : List CD} {wx : World}
theorem TCr.goodD (h : TCr w0 U t ea ec la lc k out D wx) {i : Nat} {d : CD} (hd : D[i]? = some d) : ColAt (U + 1) wx d := by
 obtain ⟨x, hx⟩ : ∃ x, out[i]? = some x := ⟨_, List.getElem?_eq_getElem (by have := (List.getElem?_eq_some_iff.1 hd).1; have := h.len; have := h.lenD; omega)⟩
 exact (h.good i x d hx hd).2.1
theorem TCr.keepB (h : TCr w0 U t ea ec la lc k out D wx) {w' : World} (hb : Below wx.heap.size wx w') : TCr w0 U t ea ec la lc k out D w' :=
 ⟨keep hb h.blk, ownsRow_below h.ents hb, ownsRow_below h.cols hb, h.below.trans (hb.mono h.below.size), h.len, h.lenD, h.like, fun i x d hx hd => by
  obtain ⟨h1, h2, h3⟩ := h.good i x d hx hd
  exact ⟨h1, h2.out (F := fun _ => False) (Out.of hb) (fun _ _ => id), h3⟩, h.apart⟩
theorem TCr.app (h : TCr w0 U t ea ec la lc k out D wx) (hU : w0.heap.size ≤ U) {y : CV} (hy : t.cps[k]? = some y) {d0 d : CD} (hd0 : t.cols[k]? = some d0) (hd : ColAt (U + 1) wx d) (hr : d.rows = d0.rows ∧ d.size = d0.size ∧ d.cap = d0.cap) (hnew : ∀ e ∈ D, ∀ b, e.foot b → ¬ d.foot b)
  {w' : World} {g cap : Nat} (hg : wx.grownBy w' (Value.slice la k lc).ownBlock) (ho : w'.ownsRow (U + 1) 181 4 (.slice (some ⟨g, 0, none⟩) (k + 1) cap) (k + 1) (out.flatMap colL ++ colL { y with cb := d.cb })) :
  TCr w0 U t ea ec (some ⟨g, 0, none⟩) cap (k + 1) (out ++ [{ y with cb := d.cb }]) (D ++ [d]) (w'.setCell ⟨U, 6, none⟩ (.slice (some ⟨g, 0, none⟩) (k + 1) cap)) := by
 have ht' := keepG hg h.blk (ownsRow_ne_block h.cols h.blk (fun cur he => by cases he))
 have hcol : ∀ e, ColAt (U + 1) wx e → ColAt (U + 1) (w'.setCell ⟨U, 6, none⟩ (.slice (some ⟨g, 0, none⟩) (k + 1) cap)) e := by
  intro e he
  have hO : Out (fun b => (Value.slice la k lc).ownBlock = some b ∨ b = U) wx (w'.setCell ⟨U, 6, none⟩ (.slice (some ⟨g, 0, none⟩) (k + 1) cap)) :=
   Out.trans (F := fun b => (Value.slice la k lc).ownBlock = some b ∨ b = U) (G := fun b => b = U) ⟨hg.os, hg.tape, hg.output, hg.size, fun i hi hn => hg.block i hi (fun e => hn (.inl e.symm))⟩ (Out.only (Only.at w' U 6 _) rfl) (fun x hx => .inl (.inr hx))
  refine he.out hO (fun b hb hF => ?_)
  rcases hF with hF | rfl
  ·obtain ⟨cur, hc⟩ := row_type h.cols hF
   obtain ⟨cs, ty, fr, hh, ht⟩ := he.foot_ty hb
   rw [hc] at hh
   cases hh
   rcases ht with ht | ht | ht <;> exact absurd ht (by decide)
  ·have := (he.foot_ge hb).1
   omega
 refine ⟨hset _ _ _ _ _ _ _ ht', ?_, ?_, ?_, ?_, ?_, ?_, ?_, ?_⟩
 ·exact ownsRow_setCell_below (h.ents.kept hg (ownsRow_ne h.ents h.cols (by decide))) (by simp) _
 ·rw [List.flatMap_append]
  have e : ([{ y with cb := d.cb }] : List CV).flatMap colL = colL { y with cb := d.cb } := by simp
  rw [e]
  exact ownsRow_setCell_below ho (by simp) _
 ·refine (h.below.grown hg h.below.size (fun x hx => ?_)).setCell hU _
  have := (h.cols.lt x hx).1; omega
 ·rw [List.length_append, h.len]; rfl
 ·rw [List.length_append, h.lenD]; rfl
 ·rw [List.map_append, h.like, take_snoc hy, List.map_append]; rfl
 ·intro i x e hx he
  rcases Nat.lt_or_ge i k with hlt | hge
  ·rw [List.getElem?_append_left (by rw [h.len]; exact hlt)] at hx
   rw [List.getElem?_append_left (by rw [h.lenD]; exact hlt)] at he
   obtain ⟨h1, h2, h3⟩ := h.good i x e hx he
   exact ⟨h1, hcol e h2, h3⟩
  ·have hil := (List.getElem?_eq_some_iff.1 he).1
   rw [List.length_append, h.lenD] at hil
   have hil2 : i < k + 1 := hil
   obtain rfl : i = k := by omega
   rw [List.getElem?_append_right (by rw [h.len]; exact Nat.le_refl _), h.len, Nat.sub_self] at hx
   rw [List.getElem?_append_right (by rw [h.lenD]; exact Nat.le_refl _), h.lenD, Nat.sub_self] at he
   simp at hx he
   subst hx he
   exact ⟨rfl, hcol _ hd, d0, hd0, hr⟩
 ·intro i j e f hij he hf b hb hb2
  have hor : ∀ (m : Nat) (z : CD), (D ++ [d])[m]? = some z → (m < k ∧ D[m]? = some z) ∨ (m = k ∧ z = d) := by
   intro m z hz
   rcases Nat.lt_or_ge m k with hlt | hge
   ·rw [List.getElem?_append_left (by rw [h.lenD]; exact hlt)] at hz
    exact .inl ⟨hlt, hz⟩
   ·have hml := (List.getElem?_eq_some_iff.1 hz).1
    rw [List.length_append, h.lenD] at hml
    have hml2 : m < k + 1 := hml
    obtain rfl : m = k := by omega
    rw [List.getElem?_append_right (by rw [h.lenD]; exact Nat.le_refl _), h.lenD, Nat.sub_self] at hz
    simp at hz
    exact .inr ⟨rfl, hz.symm⟩
  rcases hor i e he with ⟨h1, he2⟩ | ⟨h1, he2⟩
  ·rcases hor j f hf with ⟨h3, hf2⟩ | ⟨h3, hf2⟩
   ·exact h.apart i j e f hij he2 hf2 b hb hb2
   ·subst hf2
    exact hnew e (List.mem_of_getElem? he2) b hb hb2
  ·rcases hor j f hf with ⟨h3, hf2⟩ | ⟨h3, hf2⟩
   ·subst he2
    exact hnew f (List.mem_of_getElem? hf2) b hb2 hb
   ·omega
theorem TCr.fin {B : Nat} (h : TCr w0 U t ea ec la lc t.cps.length out D wx) (ht : TabIn B w0 t) (hU : w0.heap.size ≤ U) : TabIn B wx { t with tb := U, ea := ea, ec := ec, la := la, lc := lc, cps := out, cols := D } := by
 have hB : B ≤ U := by have := ht.hB; have := lt_some ht.blk; omega
 have hlike : out.map bareC = t.cps.map bareC := by rw [h.like, List.take_length]
 have hlen := h.len
 have htx : TabIn B wx t := ht.below h.below
 refine ⟨by rw [hlen]; exact h.blk, ?_, ?_, fun x hx => ?_, ownsRow_mono h.ents (by omega), hB, by rw [h.lenD, hlen], fun i x d hx hd => ?_, fun d hd => ?_, h.apart, fun x hx => ?_, by rw [hlen]; exact ht.n24, ht.most1, ht.most2, ht.room, ht.set0, ht.set1, ?_⟩
 ·show wx.ownsRow B _ 3 (.slice t.ca out.length t.cc) out.length (out.flatMap compL)
  rw [hlen, bareC_compL hlike]
  exact htx.comps
 ·show wx.ownsRow B _ 4 (.slice la out.length lc) out.length (out.flatMap colL)
  rw [hlen]
  exact ownsRow_mono h.cols (by omega)
 ·obtain ⟨i, hi⟩ := List.getElem?_of_mem hx
  obtain ⟨y, hy, h1, h2, h3, h4⟩ := bareC_at hlike hi
  have hf := htx.fields y (List.mem_of_getElem? hy)
  exact ⟨by rw [h1, h2, h3, h4]; exact hf.row, by rw [h1, h3]; exact hf.len, by rw [h3]; exact hf.max, by rw [h2, h3, h4]; exact hf.nil⟩
 ·obtain ⟨h1, h2, d0, h3, h4, h5, h6⟩ := h.good i x d hx hd
  obtain ⟨y, hy, g1, _⟩ := bareC_at hlike hx
  obtain ⟨k1, k2, k3, k4⟩ := ht.col i y d0 hy h3
  exact ⟨h1, by rw [h5, k2, g1], by rw [h6]; exact k3, by rw [h4]; exact k4⟩
 ·obtain ⟨i, hi⟩ := List.getElem?_of_mem hd
  exact (h.goodD hi).mono (by omega)
 ·obtain ⟨i, hi⟩ := List.getElem?_of_mem hx
  obtain ⟨y, hy, h1, _⟩ := bareC_at hlike hi
  rw [h1]
  exact ht.lay y (List.mem_of_getElem? hy)
 ·show out.map (·.c.id) = _
  have := bareC_id hlike
  have e := congrArg (List.map (·.id)) this
  rw [List.map_map, List.map_map] at e
  exact e.trans ht.ids
end
end Go.Proofs.YtgebbmfoamkfnaaGreatDoor
namespace Go.Proofs.YtgebbmfoamkfnaaGreatDoor
open Go.RowKit
set_option linter.unusedVariables false
theorem TabIn.monoB {B B' : Nat} {w : World} {t : TD} (h : TabIn B w t) (hb : B' ≤ B) : TabIn B' w t :=
 { h with
  comps := ownsRow_mono h.comps hb
  colsR := ownsRow_mono h.colsR hb
  fields := fun x hx => ⟨ownsRow_mono (h.fields x hx).row hb, (h.fields x hx).len, (h.fields x hx).max, (h.fields x hx).nil⟩
  entsR := ownsRow_mono h.entsR hb
  hB := Nat.le_trans hb h.hB
  colsA := fun d hd => (h.colsA d hd).mono hb }
def FTy (w : World) (b : Nat) : Prop := ∃ cs ty fr, w.heap[b]? = some (.cells cs ty fr) ∧ (ty = 178 ∨ ty = 50 ∨ ty = 223 ∨ ty = 156 ∨ ty = 5)
theorem TabIn.foot_fty {B : Nat} {w : World} {t : TD} (h : TabIn B w t) {b : Nat} (hb : t.foot b) : FTy w b := by
 rcases hb with rfl | hb | ⟨d, hd, hb⟩
 ·exact ⟨_, _, _, h.blk, .inl rfl⟩
 ·obtain ⟨cur, hh⟩ := row_type h.entsR hb
  exact ⟨_, _, _, hh, .inr (.inl rfl)⟩
 ·obtain ⟨cs, ty, fr, hh, ht⟩ := (h.colsA d hd).foot_ty hb
  exact ⟨cs, ty, fr, hh, .inr (.inr (by rcases ht with h | h | h <;> simp [h]))⟩
theorem FTy.mut {w : World} {b : Nat} (h : FTy w b) : Mut w b := by
 obtain ⟨cs, ty, fr, hh, ht⟩ := h
 rcases ht with rfl | rfl | rfl | rfl | rfl <;> exact mut_of hh (by decide) (by decide) (by decide)
theorem FTy.ne {w : World} {b : Nat} (h : FTy w b) {cs : Array Value} {ty : TypeId} {fr : Nat × Nat} (hh : w.heap[b]? = some (.cells cs ty fr)) (hn : ty ≠ 178 ∧ ty ≠ 50 ∧ ty ≠ 223 ∧ ty ≠ 156 ∧ ty ≠ 5) : False := by
 obtain ⟨cs', ty', fr', h1, ht⟩ := h
 rw [hh] at h1
 cases h1
 obtain ⟨n1, n2, n3, n4, n5⟩ := hn
 rcases ht with h | h | h | h | h
 ·exact n1 h
 ·exact n2 h
 ·exact n3 h
 ·exact n4 h
 ·exact n5 h
theorem FTy.ne_map {w : World} {b : Nat} (h : FTy w b) {es : Array MapEntry} {c : Nat} (hh : w.heap[b]? = some (.map es c)) : False := by
 obtain ⟨cs', ty', fr', h1, ht⟩ := h
 rw [hh] at h1
 cases h1
theorem MapIs.out {P : Program} {w : World} {k e : TypeId} {b cnt : Nat} {f : Lit → Option Lit} {F : Nat → Prop} {w' : World} (h : MapIs P w k e b cnt f) (ho : Out F w w') (hb : ¬ F b) : MapIs P w' k e b cnt f := by
 obtain ⟨D, ⟨es, c, hh, r⟩, h2⟩ := h
 exact ⟨D, ⟨es, c, ho.keep hh hb, r⟩, h2⟩
section
variable {B1 gb : Nat} {g : GS} {w w' : World} {mb wb : Nat} {ta : Option Addr} {tc : Nat} {F : Nat → Prop}
theorem Graph.foot_no (h : Graph B1 gb g mb wb ta tc w) {b : Nat} (hb : FTy w b) : ¬ gfoot gb mb wb ta b := by
 obtain ⟨ca, cl, cc, bs, ws, h⟩ := h
 rintro (rfl | rfl | rfl | hr)
 ·exact hb.ne h.blk (by decide)
 ·obtain ⟨es, c, hm⟩ := h.bySet.obj
  exact hb.ne_map hm
 ·obtain ⟨es, c, hm⟩ := h.byWay.obj
  exact hb.ne_map hm
 ·obtain ⟨cur, hh⟩ := row_type h.row ((ownBlock_slice ta g.ts.length tc 0 0).trans hr)
  exact hb.ne hh (by decide)
theorem keepsTy_out (ho : Out F w w') (hF : ∀ b, F b → FTy w b) : KeepsTy w w' := by
 intro b c e fz hb he
 refine ho.keep hb (fun hf => (hF b hf).ne hb ?_)
 rcases he with rfl | rfl <;> decide
theorem Graph.out (h : Graph B1 gb g mb wb ta tc w) (ho : Out F w w') (hF : ∀ b, F b → FTy w b) (hs : ∀ t ∈ g.ts, SigAt w' t.1 t.2) : Graph B1 gb g mb wb ta tc w' := by
 have hno : ∀ b, gfoot gb mb wb ta b → ¬ F b := fun b hb hf => h.foot_no (hF b hf) hb
 obtain ⟨ca, cl, cc, bs, ws, h⟩ := h
 have hty := keepsTy_out ho hF
 refine ⟨ca, cl, cc, bs, ws, { h with
  blk := ho.keep h.blk (hno _ (.inl rfl))
  comps := (h.comps.ty h.cty hty).mono ho.size
  cty := h.cty.hk hty
  row := ownsRow_out h.row ho (fun x hx => hno x (.inr (.inr (.inr ((ownBlock_slice ta 0 0 g.ts.length tc).trans hx)))))
  bySet := h.bySet.out ho (hno _ (.inr (.inl rfl)))
  byWay := h.byWay.out ho (hno _ (.inr (.inr (.inl rfl))))
  tab := fun t ht => ⟨hs t ht, (h.tab t ht).2⟩
  wf := ⟨h.wf.1, h.wf.2.1, h.wf.2.2.1, h.wf.2.2.2.1, h.wf.2.2.2.2.1, Nat.le_trans h.wf.2.2.2.2.2.1 ho.size, h.wf.2.2.2.2.2.2⟩ }⟩
end
structure Tabs (B : Nat) (g : GS) (T : List TD) (w : World) : Prop where
 ts : T.map (fun t => (t.tb, t.set)) = g.ts
 tab : ∀ t ∈ T, TabIn B w t
 like : ∀ t ∈ T, t.ver = g.ver ∧ (t.most : Int) = g.rows ∧ (idsTo t.set 24).map (findC · g.cs) = t.cs.map some
 apart : ∀ (i j : Nat) (t u : TD), i ≠ j → T[i]? = some t → T[j]? = some u → ∀ b, t.foot b → ¬ u.foot b
structure TDeed (B : Nat) (t t' : TD) (w w' : World) : Prop where
 tab : TabIn B w' t'
 tb : t'.tb = t.tb
 set : t'.set = t.set
 ver : t'.ver = t.ver
 most : t'.most = t.most
 cs : t'.cs = t.cs
 out : Out t.foot w w'
 foot : ∀ b, t'.foot b → t.foot b ∨ w.heap.size ≤ b
section
variable {B : Nat} {g : GS} {T : List TD} {w w' : World}
theorem Tabs.sigAt (h : Tabs B g T w) : ∀ t ∈ g.ts, SigAt w t.1 t.2 := by
 intro t ht
 rw [← h.ts] at ht
 obtain ⟨u, hu, rfl⟩ := List.mem_map.1 ht
 exact ⟨_, (h.tab u hu).blk, rfl⟩
theorem Tabs.at (h : Tabs B g T w) {i : Nat} {t : TD} (hi : T[i]? = some t) : g.ts[i]? = some (t.tb, t.set) := by rw [← h.ts, List.getElem?_map, hi]; rfl
theorem Tabs.len (h : Tabs B g T w) : T.length = g.ts.length := by rw [← h.ts, List.length_map]
theorem Tabs.out {F : Nat → Prop} (h : Tabs B g T w) (ho : Out F w w') (hF : ∀ b, F b → ∀ t ∈ T, ¬ t.foot b) (hM : ∀ b, F b → Mut w b) : Tabs B g T w' :=
 ⟨h.ts, fun t ht => (h.tab t ht).out ho (fun b hb hf => hF b hf t ht hb) hM, h.like, h.apart⟩
theorem Tabs.below (h : Tabs B g T w) (hb : Below w.heap.size w w') : Tabs B g T w' := h.out (F := fun _ => False) (Out.of hb) (fun _ => False.elim) (fun _ => False.elim)
theorem Tabs.put (h : Tabs B g T w) {i : Nat} {t t' : TD} (hi : T[i]? = some t) (hd : TDeed B t t' w w') : Tabs B g (T.set i t') w' := by
 obtain ⟨hil, hie⟩ := List.getElem?_eq_some_iff.1 hi
 have htm := List.mem_of_getElem? hi
 have hor : ∀ u ∈ T.set i t', u = t' ∨ ∃ j, j ≠ i ∧ T[j]? = some u := by
  intro u hu
  obtain ⟨j, hj⟩ := List.getElem?_of_mem hu
  rw [List.getElem?_set] at hj
  split at hj
  ·exact .inl (Option.some.inj hj).symm
  ·rename_i hne
   exact .inr ⟨j, fun e => hne e.symm, hj⟩
 refine ⟨?_, fun u hu => ?_, fun u hu => ?_, fun a b u v hab hu hv x hx hx' => ?_⟩
 ·rw [List.map_set, hd.tb, hd.set, ← h.ts]
  apply List.ext_getElem?
  intro k
  rw [List.getElem?_set]
  split
  ·rename_i e
   subst e
   simp [hil, hie]
  ·rfl
 ·rcases hor u hu with rfl | ⟨j, hj, hju⟩
  ·exact hd.tab
  ·exact (h.tab u (List.mem_of_getElem? hju)).out hd.out (fun b hb => h.apart j i u t hj hju hi b hb) (fun b hb => ((h.tab t htm).foot_fty hb).mut)
 ·rcases hor u hu with rfl | ⟨j, hj, hju⟩
  ·obtain ⟨h1, h2, h3⟩ := h.like t htm
   exact ⟨hd.ver.trans h1, by rw [hd.most]; exact h2, by rw [hd.set, hd.cs]; exact h3⟩
  ·exact h.like u (List.mem_of_getElem? hju)
 ·rw [List.getElem?_set] at hu hv
  have hno : ∀ (j : Nat) (z : TD), j ≠ i → T[j]? = some z → ∀ y, t'.foot y → ¬ z.foot y := by
   intro j z hj hz y hy hy'
   rcases hd.foot y hy with h1 | h1
   ·exact h.apart i j t z (fun e => hj e.symm) hi hz y h1 hy'
   ·have := ((h.tab z (List.mem_of_getElem? hz)).foot_ge hy').2
    omega
  split at hu
  ·rename_i e1
   cases hu
   split at hv
   ·omega
   ·rename_i e2
    exact hno b v (fun e => e2 e.symm) hv x hx hx'
  ·rename_i e1
   split at hv
   ·cases hv
    exact hno a u (fun e => e1 e.symm) hu x hx' hx
   ·exact h.apart a b u v hab hu hv x hx hx'
theorem Tabs.snoc (h : Tabs B g T w) {tb : Nat} {set : Int} {most : Nat} (hm : g.rows = (most : Int)) (hN : TableNew w' tb g.ver g.cs set g.rows) (hok : tableOk g.ver g.cs set g.rows = true) (h0 : 0 ≤ set) (h1 : set ≤ 4294967295) (hB : B ≤ tb) (hlo : w.heap.size ≤ tb) (hT : Tabs B g T w') {g' : GS} (hg : g'.ts = g.ts ++ [(tb, set)] ∧ g'.ver = g.ver ∧ g'.rows = g.rows ∧ g'.cs = g.cs) :
  ∃ t, Tabs B g' (T ++ [t]) w' ∧ t.tb = tb ∧ t.set = set ∧ t.kept = 0 ∧ t.ents = [] ∧ t.most = most ∧ ∀ b, t.foot b → w.heap.size ≤ b := by
 rw [hm] at hN hok
 obtain ⟨t, ht, e1, e2, e3, e4, e5, e6, e7⟩ := TabIn.of_new hN hok h0 h1
 have hge : ∀ b, t.foot b → w.heap.size ≤ b := fun b hb => Nat.le_trans hlo (ht.foot_ge hb).1
 refine ⟨t, ⟨?_, fun u hu => ?_, fun u hu => ?_, fun a b u v hab hu hv x hx hx' => ?_⟩, e1, e3, e5, e6, e4, hge⟩
 ·rw [List.map_append, hT.ts, hg.1, ← e1, ← e3]; rfl
 ·rcases List.mem_append.1 hu with h' | h'
  ·exact hT.tab u h'
  ·obtain rfl : u = t := by simpa using h'
   exact ht.monoB hB
 ·rw [hg.2.1, hg.2.2.1, hg.2.2.2]
  rcases List.mem_append.1 hu with h' | h'
  ·exact hT.like u h'
  ·obtain rfl : u = t := by simpa using h'
   exact ⟨e2, by rw [e4, hm], by rw [e3]; exact e7⟩
 ·have hold : ∀ (j : Nat) (z : TD), T[j]? = some z → ∀ y, z.foot y → ¬ t.foot y := by
   intro j z hz y hy hy'
   have h2 := ((h.tab z (List.mem_of_getElem? hz)).foot_ge hy).2
   have h3 := hge y hy'
   omega
  have hor : ∀ (m : Nat) (z : TD), (T ++ [t])[m]? = some z → (m < T.length ∧ T[m]? = some z) ∨ (m = T.length ∧ z = t) := by
   intro m z hz
   rcases Nat.lt_or_ge m T.length with hlt | hge
   ·rw [List.getElem?_append_left hlt] at hz
    exact .inl ⟨hlt, hz⟩
   ·have hml := (List.getElem?_eq_some_iff.1 hz).1
    rw [List.length_append] at hml
    have hml2 : m < T.length + 1 := hml
    obtain rfl : m = T.length := by omega
    rw [List.getElem?_append_right (Nat.le_refl _), Nat.sub_self] at hz
    simp at hz
    exact .inr ⟨rfl, hz.symm⟩
  rcases hor a u hu with ⟨ha, hu'⟩ | ⟨ha, rfl⟩
  ·rcases hor b v hv with ⟨hb, hv'⟩ | ⟨hb, rfl⟩
   ·exact hT.apart a b u v hab hu' hv' x hx hx'
   ·exact hold a u hu' x hx hx'
  ·rcases hor b v hv with ⟨hb, hv'⟩ | ⟨hb, rfl⟩
   ·exact hold b v hv' x hx' hx
   ·omega
end
end Go.Proofs.YtgebbmfoamkfnaaGreatDoor
namespace Go.Proofs.YtgebbmfoamkfnaaGreatDoor
open Go.RowKit
set_option linter.unusedVariables false
/-- The number of bytes, little end first. -/
def leV : List UInt8 → Nat
  | [] => 0
  | b :: r => b.toNat + 256 * leV r
theorem leV_lt : ∀ l : List UInt8, leV l < 256 ^ l.length
  | [] => by simp [leV]
  | b :: r => by
    have h1 := leV_lt r
    have h2 := b.toNat_lt
    simp only [leV, List.length_cons, Nat.pow_succ]
    omega
theorem or_byte {m b : Nat} (hm : m < 72057594037927936) (hb : b < 256) : bits BinOp.or .u64 ((m * 256 : Nat) : Int) (b : Int) = ((b + 256 * m : Nat) : Int) := by
  rw [u64_or_nat _ _ (by omega) (by omega)]
  congr 1
  have : m * 256 ||| b = 2 ^ 8 * m + b := by rw [Nat.mul_comm, show 256 = 2 ^ 8 from rfl, ← Nat.two_pow_add_eq_or_of_lt (by omega)]
  rw [this]; omega
set_option maxRecDepth 100000 in
theorem read_any (s : ByteArray) (w : World) : Calls Tryz.prog 208 #[.string s] w fun e w' => e = .returned (.pointer (some ⟨w.heap.size, 0, none⟩)) ∧ w.alloc (.cells #[.string s, .bool false] 319) = w' := by
  go_enter Tryz.func208, Tryz.ntmps208
  go_wp2_with fail
  go_returns
  exact ⟨rfl, rfl⟩
theorem rBad_any (rb : Nat) (s : ByteArray) (b : Bool) (w : World) (h : w.heap[rb]? = some (.cells #[.string s, .bool b] 319 (0, 0))) : Calls Tryz.prog 217 #[.pointer (some ⟨rb, 0, none⟩)] w fun e w' => e = .returned (.bool b) ∧ w = w' := by
  have c1 := cell_at h 1
  simp at c1
  clear h
  go_enter Tryz.func217, Tryz.ntmps217
  go_wp2_with fail
  go_returns
  exact ⟨rfl, rfl⟩
theorem rLeft_any (rb : Nat) (s : ByteArray) (w : World) (h : w.heap[rb]? = some (.cells #[.string s, .bool false] 319 (0, 0))) : Calls Tryz.prog 221 #[.pointer (some ⟨rb, 0, none⟩)] w fun e w' => e = .returned (.int .i64 (s.size : Int)) ∧ w = w' := by
  have c0 := cell_at h 0
  simp at c0
  have HB := Lib.hid (rBad_any rb s false w h)
  clear h
  go_enter Tryz.func221, Tryz.ntmps221
  go_wp2_with fail
  refine HB.out.mono ?_
  rintro e w1 ⟨rfl, rfl⟩
  go_wp2_with fail
  go_returns
  exact ⟨rfl, rfl⟩
theorem rDone_any (rb : Nat) (s : ByteArray) (w : World) (h : w.heap[rb]? = some (.cells #[.string s, .bool false] 319 (0, 0))) (hs : s = ⟨#[]⟩) : Calls Tryz.prog 210 #[.pointer (some ⟨rb, 0, none⟩)] w fun e w' => e = .returned (.bool true) ∧ w = w' := by
  have c0 := cell_at h 0
  subst hs
  simp at c0
  have HB := Lib.hid (rBad_any rb _ false w h)
  clear h
  go_enter Tryz.func210, Tryz.ntmps210
  go_wp2_with fail
  refine HB.out.mono ?_
  rintro e w1 ⟨rfl, rfl⟩
  go_wp2_with fail
  go_returns
  exact ⟨rfl, rfl⟩
set_option maxRecDepth 100000 in
set_option maxHeartbeats 1000000 in
theorem rSee_any (rb : Nat) (s : ByteArray) (k : Nat) (w : World) (h : w.heap[rb]? = some (.cells #[.string s, .bool false] 319 (0, 0))) (hk : k = 1 ∨ k = 2 ∨ k = 4 ∨ k = 8) (hs : k ≤ s.size) (hm : s.size ≤ maxLen) :
    Calls Tryz.prog 215 #[.pointer (some ⟨rb, 0, none⟩), .int .i64 (k : Int)] w fun e w' => e = .returned (.tuple #[.int .u64 (leV (s.data.toList.take k) : Int), .bool true]) ∧ w = w' := by
  have c0 := cell_at h 0
  simp at c0
  unfold maxLen at hm
  have HL := Lib.hid (rLeft_any rb s w h)
  have hk8 : k ≤ 8 := by omega
  have HK := Lib.hid hk
  have e1 : decide ((s.size : Int) < (k : Int)) = false := by simp; omega
  have hw1 : IntKind.i64.wrap ((k : Int) - 1) = (k : Int) - 1 := IntWalk.i64_in _ (by omega)
  clear h hk
  go_enter Tryz.func215, Tryz.ntmps215
  go_wp2_with fail
  refine (iswide_any _ _ (by have := HK.out; omega)).mono ?_
  rintro e w1 ⟨rfl, rfl⟩
  go_wp2_with fail
  refine HL.out.mono ?_
  rintro e w1 ⟨rfl, rfl⟩
  go_wp2_with fail
  go_loop [6, 7] (fun n i => ∃ j : Nat, j ≤ k ∧ i = .int .i64 ((j : Int) - 1) ∧ n = .int .u64 (leV ((s.data.toList.take k).drop j) : Int)) (fun _ i => ((intOf i) + 1).toNat)
  case atStart => exact ⟨k, Nat.le_refl _, rfl, by rw [List.drop_eq_nil_of_le (List.length_take_le _ _)]; rfl⟩
  case round =>
    obtain ⟨j, hj, rfl, rfl⟩ := hrel
    rcases Nat.eq_zero_or_pos j with rfl | hpos
    · go_wp2_with fail
      go_ret2
      exact ⟨by simp, rfl⟩
    · obtain ⟨m, rfl⟩ : ∃ m, j = m + 1 := ⟨j - 1, by omega⟩
      have hms : m < s.size := by omega
      have hd : (s.data.toList.take k).drop m = s[m] :: (s.data.toList.take k).drop (m + 1) := by
        have : (s.data.toList.take k)[m]? = some s[m] := by rw [List.getElem?_take, if_pos (by omega)]; exact data_get? hms
        exact drop_get this
      have hlen : ((s.data.toList.take k).drop (m + 1)).length ≤ 7 := by rw [List.length_drop, List.length_take]; omega
      have hlt := leV_lt ((s.data.toList.take k).drop (m + 1))
      have hlt7 : 256 ^ ((s.data.toList.take k).drop (m + 1)).length ≤ 256 ^ 7 := Nat.pow_le_pow_right (by decide) hlen
      have hb := s[m].toNat_lt
      have hnew : leV ((s.data.toList.take k).drop m) = s[m].toNat + 256 * leV ((s.data.toList.take k).drop (m + 1)) := by rw [hd]; rfl
      generalize leV ((s.data.toList.take k).drop (m + 1)) = n at *
      have hn : n < 72057594037927936 := by have : 256 ^ 7 = 72057594037927936 := by decide
                                            omega
      have HNEW := Lib.hid hnew
      have hor := or_byte hn hb
      have hsh : ((n * 256 : Nat) : Int) = (n : Int) * 256 := by omega
      have e0 : ((m + 1 : Nat) : Int) - 1 = (m : Int) := by omega
      rw [hsh] at hor
      rw [e0]
      go_wp2_with fail
      go_round
      case rel => exact ⟨m, by omega, rfl, by rw [HNEW.out, Int.natCast_add, Int.natCast_mul]; rfl⟩
      case measure => simp only [intOf]; omega
set_option maxRecDepth 100000 in
set_option maxHeartbeats 1000000 in
theorem rTake_any (rb : Nat) (s : ByteArray) (k : Nat) (w : World) (h : w.heap[rb]? = some (.cells #[.string s, .bool false] 319 (0, 0))) (hk : k ≤ s.size) (hm : s.size ≤ maxLen) :
    Calls Tryz.prog 216 #[.pointer (some ⟨rb, 0, none⟩), .int .i64 0, .int .i64 (k : Int), .bool true] w fun e w' => e = .returned (.string (s.extract 0 k)) ∧ w'.heap[rb]? = some (.cells #[.string (s.extract k s.size), .bool false] 319 (0, 0)) ∧ Only rb w w' := by
  have c0 := cell_at h 0
  have f0 := free_at h 0
  simp at c0
  unfold maxLen at hm
  have HB := Lib.hid (rBad_any rb s false w h)
  have HH := Lib.hid h
  have e1 : decide ((k : Int) < 0) = false := by simp
  have e2 : decide ((s.size : Int) < (k : Int)) = false := by simp; omega
  have hw1 : IntKind.i64.wrap (0 + (k : Int)) = (k : Int) := by rw [Int.zero_add]; exact IntWalk.i64_in _ (by omega)
  have hw2 : IntKind.i64.wrap ((s.size : Int) - 0) = (s.size : Int) := by rw [Int.sub_zero]; exact IntWalk.i64_in _ (by omega)
  clear h
  go_enter Tryz.func216, Tryz.ntmps216
  go_wp2_with fail
  refine HB.out.mono ?_
  rintro e w1 ⟨rfl, rfl⟩
  go_wp2_with fail
  go_returns
  exact ⟨rfl, by rw [hset _ _ _ _ _ _ _ HH.out]; rfl, Only.at _ _ _ _⟩
/-- Num reads the number of the first k bytes. -/
theorem rNum_any (rb : Nat) (s : ByteArray) (k : Nat) (w : World) (h : w.heap[rb]? = some (.cells #[.string s, .bool false] 319 (0, 0))) (hk : k = 1 ∨ k = 2 ∨ k = 4 ∨ k = 8) (hs : k ≤ s.size) (hm : s.size ≤ maxLen) :
    Calls Tryz.prog 209 #[.pointer (some ⟨rb, 0, none⟩), .int .i64 (k : Int)] w fun e w' => e = .returned (.int .u64 (leV (s.data.toList.take k) : Int)) ∧ w'.heap[rb]? = some (.cells #[.string (s.extract k s.size), .bool false] 319 (0, 0)) ∧ Only rb w w' := by
  have HS := Lib.hid (rSee_any rb s k w h hk hs hm)
  have HT := Lib.hid (rTake_any rb s k w h hs hm)
  clear h hk
  go_enter Tryz.func209, Tryz.ntmps209
  go_wp2_with fail
  refine HS.out.mono ?_
  rintro e w1 ⟨rfl, rfl⟩
  go_wp2_with fail
  refine HT.out.mono ?_
  rintro e w1 ⟨rfl, ht⟩
  go_wp2_with fail
  go_returns
  exact ⟨rfl, ht⟩
end Go.Proofs.YtgebbmfoamkfnaaGreatDoor
