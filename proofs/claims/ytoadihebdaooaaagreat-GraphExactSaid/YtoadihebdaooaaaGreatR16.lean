/- Frames between the graph and the document's graph. -/
import Derived.Test.YtoadihebdaooaaaGreatR15
namespace Go.Proofs.YtoadihebdaooaaaGreat
open Go.RowKit
set_option linter.unusedVariables false
/-- What keeps blocks of certain types. -/
def KeepsE (S : TypeId → Bool) (w w' : World) : Prop := ∀ (b : Nat) (c : Array Value) (e : TypeId) (fz : Nat × Nat), w.heap[b]? = some (.cells c e fz) → S e = true → w'.heap[b]? = some (.cells c e fz)
def tabTys (e : TypeId) : Bool := e == 139 || e == 112 || e == 142 || e == 123 || e == 207
theorem ownsRow_keeps {S : TypeId → Bool} {w w' : World} (hk : KeepsE S w w') {b : Nat} {e : TypeId} {s : Nat} {v : Value} {n : Nat} {xs : List Value} (ho : w.ownsRow b e s v n xs) (h1 : S e = true) : w'.ownsRow b e s v n xs := by
  obtain ⟨hl, ho⟩ := ho
  refine ⟨hl, ?_⟩
  rcases ho with ho | ⟨g, cap, cur, hv, hg, hh, r⟩
  · exact .inl ho
  · exact .inr ⟨g, cap, cur, hv, hg, hk _ _ _ _ hh h1, r⟩
theorem TableHas.keeps {w w' : World} {b0 tb : Nat} {ver set most : Int} {ca : Option Addr} {cc : Nat} {la : Option Addr} {lc : Nat} {cps : List CV} (h : TableHas w b0 tb ver set most ca cc la lc cps) (hk : KeepsE tabTys w w') : TableHas w' b0 tb ver set most ca cc la lc cps :=
  ⟨hk _ _ _ _ h.blk (by decide), ownsRow_keeps hk h.comps (by decide), ownsRow_keeps hk h.cols (by decide),
    fun x hx => ⟨⟨ownsRow_keeps hk (h.good x hx).1.row (by decide), (h.good x hx).1.len, (h.good x hx).1.max, (h.good x hx).1.nil⟩, ⟨(h.good x hx).2.le, hk _ _ _ _ (h.good x hx).2.blk (by decide)⟩⟩, h.nodup⟩
theorem TableAt.keeps {w w' : World} {tb : Nat} {ver set most : Int} (h : TableAt w tb ver set most) (hk : KeepsE tabTys w w') : TableAt w' tb ver set most := by
  obtain ⟨ca, cc, la, lc, cps, h, hn⟩ := h
  exact ⟨ca, cc, la, lc, cps, h.keeps hk, hn⟩
theorem keepsE_grown {S : TypeId → Bool} {w w' : World} {ub : Nat} {c : Array Value} {e : TypeId} {fz : Nat × Nat} (hg : w.grownBy w' (some ub)) (hu : w.heap[ub]? = some (.cells c e fz)) (hS : S e = false) : KeepsE S w w' := by
  intro b c' e' fz' hb hs
  refine keepG hg hb (fun h => ?_)
  cases h
  rw [hu] at hb
  cases hb
  rw [hS] at hs
  cases hs
theorem Graph.grown {B1 gb : Nat} {g : GS} {w w' : World} (h : Graph B1 gb g w) {ub : Nat} {c : Array Value} {fz : Nat × Nat} (hg : w.grownBy w' (some ub)) (hu : w.heap[ub]? = some (.cells c 51 fz)) : Graph B1 gb g w' := by
  obtain ⟨mb, wb, ca, cl, cc, ta, tc, bs, ws, h⟩ := h
  have hty : KeepsTy w w' := fun b c' e fz' hb he => keepG hg hb (fun hh => by cases hh; rw [hu] at hb; cases hb; rcases he with he | he <;> cases he)
  have hne : ∀ {b : Nat}, (∃ es c, w.heap[b]? = some (.map es c)) → some b ≠ some ub := fun {b} ⟨es, c', hm⟩ hh => by cases hh; rw [hu] at hm; cases hm
  refine ⟨mb, wb, ca, cl, cc, ta, tc, bs, ws, { h with blk := ?_, comps := (h.comps.ty h.cty hty).mono hg.size, cty := h.cty.hk hty, row := ?_, bySet := h.bySet.kept hg (hne h.bySet.obj), byWay := h.byWay.kept hg (hne h.byWay.obj), tab := fun t ht => ⟨(h.tab t ht).1.keeps (keepsE_grown hg hu (by decide)), (h.tab t ht).2⟩, wf := ?_ }⟩
  · exact keepG hg h.blk (fun hh => by cases hh; rw [h.blk] at hu; cases hu)
  · exact h.row.kept hg (.inr (Ne.symm (ownsRow_ne_block h.row hu (fun cur he => by cases he))))
  · exact ⟨h.wf.1, h.wf.2.1, h.wf.2.2.1, h.wf.2.2.2.1, h.wf.2.2.2.2.1, Nat.le_trans h.wf.2.2.2.2.2.1 hg.size, h.wf.2.2.2.2.2.2⟩
theorem RGr.turned {B ub : Nat} {r : RG} {w w' : World} (h : RGr B ub r w) {B1 : Nat} (hT : Turned B1 w w') (hB : B ≤ B1) : RGr B ub r w' := by
  obtain ⟨ca, cl, cc, la, lc, wa, wc, h⟩ := h
  exact ⟨ca, cl, cc, la, lc, wa, wc, { h with blk := hT.2 _ _ _ _ h.blk (by decide) (by decide), comps := h.comps.below (hT.1.mono hB), row := hT.row h.row (by decide) (by decide), ways := hT.row h.ways (by decide) (by decide) }⟩
theorem RGr.blk {B ub : Nat} {r : RG} {w : World} (h : RGr B ub r w) : ∃ c, w.heap[ub]? = some (.cells c 51 (0, 0)) := by
  obtain ⟨ca, cl, cc, la, lc, wa, wc, h⟩ := h
  exact ⟨_, h.blk⟩
theorem RGr.lo {B ub : Nat} {r : RG} {w : World} (h : RGr B ub r w) : B ≤ ub := by
  obtain ⟨ca, cl, cc, la, lc, wa, wc, h⟩ := h
  exact h.lt
theorem GS.turn_cs {g : GS} {s : Int} {tb : Nat} : (makeG g s tb).1.cs = g.cs ∧ (makeG g s tb).1.archs = g.archs ∧ (makeG g s tb).1.rows = g.rows ∧ (makeG g s tb).1.ver = g.ver := by
  unfold makeG
  cases posOf s g.sigs with
  | some i => exact ⟨rfl, rfl, rfl, rfl⟩
  | none =>
    simp only
    split
    · split <;> exact ⟨rfl, rfl, rfl, rfl⟩
    · exact ⟨rfl, rfl, rfl, rfl⟩
theorem stepG_cs {g : GS} {i c : Int} {b : Bool} {tb : Nat} : (stepG g i c b tb).1.cs = g.cs ∧ (stepG g i c b tb).1.archs = g.archs ∧ (stepG g i c b tb).1.rows = g.rows ∧ (stepG g i c b tb).1.ver = g.ver := by
  unfold stepG
  split
  · exact ⟨rfl, rfl, rfl, rfl⟩
  · split
    · exact ⟨rfl, rfl, rfl, rfl⟩
    · split
      · exact ⟨rfl, rfl, rfl, rfl⟩
      · exact GS.turn_cs
theorem Graph.len_le {B1 gb : Nat} {g : GS} {w : World} (h : Graph B1 gb g w) : (g.ts.length : Int) ≤ g.archs ∧ g.archs ≤ 64 ∧ 1 ≤ g.archs ∧ B1 ≤ w.heap.size := by
  obtain ⟨mb, wb, ca, cl, cc, ta, tc, bs, ws, h⟩ := h
  exact ⟨h.wf.2.2.2.2.1, h.wf.2.2.2.1, h.wf.2.2.1, h.wf.2.2.2.2.2.1⟩
theorem RGr.sizes {B ub : Nat} {r : RG} {w : World} (h : RGr B ub r w) : r.L.length ≤ 1000 ∧ r.W.length ≤ 1000000 := by
  obtain ⟨ca, cl, cc, la, lc, wa, wc, h⟩ := h
  exact ⟨h.sL, h.sW⟩
theorem Eqv.ids {g : GS} {r : RG} (h : Eqv g r) : ∀ c ∈ r.cs, 1 ≤ c.id ∧ c.id ≤ 24 := by
  have hk := h.ok.1
  unfold schemaCheck at hk
  split at hk
  · simp at hk
  · rw [h.cs]; exact compsGo_ids g.cs 0 [] (by omega) hk
theorem Eqv.sets {g : GS} {r : RG} (h : Eqv g r) : ∀ s ∈ r.L, 0 ≤ s ∧ s ≤ 33554430 := by rw [h.L]; exact h.bd
theorem tadd_tab (B1 gb : Nat) (g : GS) (i : Int) (w : World) (h : Graph B1 gb g w) (hr : 1 ≤ g.rows ∧ g.rows ≤ 256) : Calls Tryz.prog 24 #[.pointer (tabPtr g i), .int .u64 1, .slice none 0 0] w fun e w' => (∃ v, e = .returned v) ∧ Below B1 w w' := by
  obtain ⟨mb, wb, ca, cl, cc, ta, tc, bs, ws, h⟩ := h
  unfold tabPtr
  split
  · cases ht : g.ts[i.toNat]? with
    | none => exact (tadd_nil w).mono fun e w' ⟨he, hw⟩ => ⟨he, hw ▸ Below.refl _ _⟩
    | some t => exact (tadd_one t.1 _ _ _ w (h.tab t (List.mem_of_getElem? ht)).1 hr.1 hr.2).mono fun e w' ⟨he, hw⟩ => ⟨he, hw.mono (h.tlo t (List.mem_of_getElem? ht))⟩
  · exact (tadd_nil w).mono fun e w' ⟨he, hw⟩ => ⟨he, hw ▸ Below.refl _ _⟩
/-- What the law's loop keeps. -/
structure LS (w : World) (ver archs rows : Int) (cs : List Cmp) (a : Option Addr) (len cap ub B1 gb : Nat) (g : GS) (r : RG) (wr : World) : Prop where
  G : Graph B1 gb g wr
  R : RGr w.heap.size ub r wr
  E : Eqv g r
  B : w.heap.size ≤ B1
  s : wr.heap[w.heap.size]? = some (.cells #[.int .i64 ver, .slice a len cap] 24 (0, 0))
  b : Below w.heap.size w wr
  k : g.cs = cs ∧ g.archs = archs ∧ g.rows = rows ∧ g.ver = ver
section
variable {w : World} {ver archs rows : Int} {cs : List Cmp} {a : Option Addr} {len cap ub B1 gb : Nat} {g : GS} {r : RG} {wr : World}
theorem LS.below (h : LS w ver archs rows cs a len cap ub B1 gb g r wr) {wx : World} (hb : Below wr.heap.size wr wx) : LS w ver archs rows cs a len cap ub B1 gb g r wx :=
  ⟨h.G.below hb, h.R.below hb, h.E, h.B, keep hb h.s, h.b.trans (hb.mono h.b.size), h.k⟩
theorem LS.deed (h : LS w ver archs rows cs a len cap ub B1 gb g r wr) {g' : GS} {r' : RG} {w5 w6 : World} (hT : Turned B1 wr w5) (hG : Graph B1 gb g' w5) (hg : w5.grownBy w6 (some ub)) (hR : RGr w.heap.size ub r' w6) (hE : Eqv g' r')
    (hk : g'.cs = g.cs ∧ g'.archs = g.archs ∧ g'.rows = g.rows ∧ g'.ver = g.ver) : LS w ver archs rows cs a len cap ub B1 gb g' r' w6 := by
  have hR5 := h.R.turned hT h.B
  obtain ⟨c, hu⟩ := hR5.blk
  have h5 : Below w.heap.size w w5 := h.b.trans (hT.1.mono h.B)
  refine ⟨hG.grown hg hu, hR, hE, h.B, ?_, ?_, ?_⟩
  · have hs := hT.2 _ _ _ _ h.s (by decide) (by decide)
    exact keepG hg hs (fun e => by cases e; rw [hs] at hu; cases hu)
  · exact h5.grown hg h5.size (fun x hx => by cases hx; exact hR5.lo)
  · exact ⟨hk.1.trans h.k.1, hk.2.1.trans h.k.2.1, hk.2.2.1.trans h.k.2.2.1, hk.2.2.2.trans h.k.2.2.2⟩
theorem LS.clone (h : LS w ver archs rows cs a len cap ub B1 gb g r wr) {ts' : List (Nat × Int)} {w5 : World} (hs : ts'.map (·.2) = g.ts.map (·.2)) (hG : Graph wr.heap.size wr.heap.size { g with ts := ts' } w5) (hb : Below wr.heap.size wr w5) :
    LS w ver archs rows cs a len cap ub wr.heap.size wr.heap.size { g with ts := ts' } r w5 :=
  ⟨hG, h.R.below hb, h.E.clone hs, h.b.size, keep hb h.s, h.b.trans (hb.mono h.b.size), h.k⟩
theorem act_keep (h : LS w ver archs rows cs a len cap ub B1 gb g r wr) {xb : Nat} {cx : Array Value} (hx : wr.heap[xb]? = some (.cells cx 53 (0, 0))) {w5 w6 : World} (hT : Turned B1 wr w5) (hg : w5.grownBy w6 (some ub)) :
    w6.heap[xb]? = some (.cells cx 53 (0, 0)) := by
  obtain ⟨c, hu⟩ := (h.R.turned hT h.B).blk
  have hs := hT.2 _ _ _ _ hx (by decide) (by decide)
  exact keepG hg hs (fun e => by cases e; rw [hs] at hu; cases hu)
end
end Go.Proofs.YtoadihebdaooaaaGreat
