/- graph.Clone: what its region of three calls and three stores keeps; what its loop keeps. -/
import Derived.Test.YtoadihebdaooaaaGreatR12
import Derived.Shelf.SlMaps.Clone
namespace Go.Proofs.YtoadihebdaooaaaGreat
open Go.RowKit Go.Maps
set_option linter.unusedVariables false
set_option maxRecDepth 100000 in
theorem mclone1_run (b : Nat) (es : Array MapEntry) (clock : Nat) (w : World) (hb : w.heap[b]? = some (.map es clock)) : Calls Tryz.prog 63 #[.map (some b)] w fun e w' => e = .returned (.map (some w.heap.size)) ∧ w' = w.alloc (.map es clock) := by
  have hq := run_eql_map_nil_sl (P := Tryz.prog) w 115 _ _ (some b) Tryz.underlying115
  go_enter Tryz.func63, Tryz.ntmps63
  go_wp2
  rw [run_callFunc_extern Tryz.func100 (by kernel_rfl) (by kernel_rfl) (by kernel_rfl) (e := Extern.MapsClone.clone) (by kernel_rfl), run_maps_clone_sl w 115 hb]
  simp only [Result.andThen]
  rw [Oper.upon_value]
  go_wp2
  rw [run_typeAssert_map_sl _ 115 20 _ _ _ Tryz.underlying115]
  simp only [Result.andThen]
  rw [Oper.upon_value]
  go_wp2
  go_ret
  exact ⟨rfl, rfl⟩
set_option maxRecDepth 100000 in
theorem mclone2_run (b : Nat) (es : Array MapEntry) (clock : Nat) (w : World) (hb : w.heap[b]? = some (.map es clock)) : Calls Tryz.prog 64 #[.map (some b)] w fun e w' => e = .returned (.map (some w.heap.size)) ∧ w' = w.alloc (.map es clock) := by
  have hq := run_eql_map_nil_sl (P := Tryz.prog) w 116 _ _ (some b) Tryz.underlying116
  go_enter Tryz.func64, Tryz.ntmps64
  go_wp2
  rw [run_callFunc_extern Tryz.func100 (by kernel_rfl) (by kernel_rfl) (by kernel_rfl) (e := Extern.MapsClone.clone) (by kernel_rfl), run_maps_clone_sl w 116 hb]
  simp only [Result.andThen]
  rw [Oper.upon_value]
  go_wp2
  rw [run_typeAssert_map_sl _ 116 20 _ _ _ Tryz.underlying116]
  simp only [Result.andThen]
  rw [Oper.upon_value]
  go_wp2
  go_ret
  exact ⟨rfl, rfl⟩
theorem owns_clone {P : Program} {k : TypeId} {R : Value → Option (DataW Unit × List MemPlace)} {b n : Nat} {D : DataW Unit} {w : World} (hown : w.ownsMap P k R b n D) : ∃ es clock, w.heap[b]? = some (.map es clock) ∧ (w.alloc (.map es clock)).ownsMap P k R w.heap.size n D := by
  obtain ⟨es, clock, hb, F, hs, hD⟩ := hown
  exact ⟨es, clock, hb, es, clock, (MapKept.heap_alloc w _).1, F, hs, hD⟩
theorem mclone1_any (b cnt : Nat) (F : Lit → Option Lit) (w : World) (h : MapIs Tryz.prog w 35 3 b cnt F) : Calls Tryz.prog 63 #[.map (some b)] w fun e w' => e = .returned (.map (some w.heap.size)) ∧ MapIs Tryz.prog w' 35 3 w.heap.size cnt F ∧ Below w.heap.size w w' := by
  obtain ⟨D, hown, h2, h3⟩ := h
  obtain ⟨es, clock, hb, hn⟩ := owns_clone hown
  refine (mclone1_run b es clock w hb).mono fun e w' ⟨he, hw⟩ => ?_
  subst hw
  exact ⟨he, ⟨D, hn, h2, h3⟩, (Below.refl _ w).alloc (Nat.le_refl _) _⟩
theorem mclone2_any (b cnt : Nat) (F : Lit → Option Lit) (w : World) (h : MapIs Tryz.prog w 128 3 b cnt F) : Calls Tryz.prog 64 #[.map (some b)] w fun e w' => e = .returned (.map (some w.heap.size)) ∧ MapIs Tryz.prog w' 128 3 w.heap.size cnt F ∧ Below w.heap.size w w' := by
  obtain ⟨D, hown, h2, h3⟩ := h
  obtain ⟨es, clock, hb, hn⟩ := owns_clone hown
  refine (mclone2_run b es clock w hb).mono fun e w' ⟨he, hw⟩ => ?_
  subst hw
  exact ⟨he, ⟨D, hn, h2, h3⟩, (Below.refl _ w).alloc (Nat.le_refl _) _⟩
theorem mapIs_drew {P : Program} {w : World} {k e : TypeId} {b cnt : Nat} {f : Lit → Option Lit} (h : MapIs P w k e b cnt f) : MapIs P w.drew k e b cnt f := h
/-- What the region keeps. -/
structure GC (U : Nat) (g : GS) (cl : Nat) (tv : Value) (bs ws : Lit → Option Lit) (W : World) (f : Nat → Bool) (vs : Nat → Value) (w : World) : Prop where
  bel : Below U W w
  blk : ∃ v0 v1 v5 v6, w.heap[U]? = some (.cells #[v0, v1, .int .i64 g.archs, .int .i64 g.rows, tv, v5, v6] 119 (0, 0)) ∧ (f 16 = true → vs 4 = .agg #[v0, v1]) ∧ (f 18 = true → vs 9 = v5) ∧ (f 20 = true → vs 14 = v6)
  k16 : f 16 = true → f 4 = true
  k18 : f 18 = true → f 9 = true
  k20 : f 20 = true → f 14 = true
  r4 : f 4 = true → ∃ va vc, vs 4 = .agg #[.int .i64 g.ver, .slice va cl vc] ∧ CompsAt w.heap.size w va cl g.cs ∧ CompsTy w va cl g.cs ∧ (va = none → cl = 0 ∧ vc = 0)
  r9 : f 9 = true → ∃ b, vs 9 = .map (some b) ∧ U + 1 ≤ b ∧ MapIs Tryz.prog w 35 3 b g.ts.length bs
  r14 : f 14 = true → ∃ b, vs 14 = .map (some b) ∧ U + 1 ≤ b ∧ MapIs Tryz.prog w 128 3 b g.nw ws
  ne : f 9 = true → f 14 = true → ∀ b b', vs 9 = .map (some b) → vs 14 = .map (some b') → b ≠ b'
def memC (i : Nat) : Bool := i == 4 || i == 9 || i == 14 || i == 16 || i == 18 || i == 20
section
variable {U : Nat} {g : GS} {cl : Nat} {tv : Value} {bs ws : Lit → Option Lit} {W : World} {f : Nat → Bool} {vs : Nat → Value} {w : World}
theorem GC.congr (f g' : Nat → Bool) (vs us : Nat → Value) (w : World) (hs : ∀ i, memC i = true → f i = g' i ∧ vs i = us i) (h : GC U g cl tv bs ws W f vs w) : GC U g cl tv bs ws W g' us w := by
  obtain ⟨f4, v4⟩ := hs 4 rfl
  obtain ⟨f9, v9⟩ := hs 9 rfl
  obtain ⟨f14, v14⟩ := hs 14 rfl
  obtain ⟨f16, _⟩ := hs 16 rfl
  obtain ⟨f18, _⟩ := hs 18 rfl
  obtain ⟨f20, _⟩ := hs 20 rfl
  obtain ⟨bel, blk, k16, k18, k20, r4, r9, r14, ne⟩ := h
  rw [f16, f18, f20, v4, v9, v14] at blk
  rw [f16, f4] at k16
  rw [f18, f9] at k18
  rw [f20, f14] at k20
  rw [f4, v4] at r4
  rw [f9, v9] at r9
  rw [f14, v14] at r14
  rw [f9, f14, v9, v14] at ne
  exact ⟨bel, blk, k16, k18, k20, r4, r9, r14, ne⟩
theorem GC.lt (h : GC U g cl tv bs ws W f vs w) : U < w.heap.size := by
  obtain ⟨_, _, _, _, hb, _⟩ := h.blk
  exact lt_some hb
theorem GC.do4 (h : GC U g cl tv bs ws W f vs w) (h4 : f 4 = false) {w' : World} (hb : Below w.heap.size w w') {va : Option Addr} {vc : Nat} (hc : CompsAt w'.heap.size w' va cl g.cs) (ht : CompsTy w' va cl g.cs) (hn : va = none → cl = 0 ∧ vc = 0) :
    GC U g cl tv bs ws W (setB f 4) (updV vs 4 (.agg #[.int .i64 g.ver, .slice va cl vc])) w' := by
  have hU := h.lt
  obtain ⟨v0, v1, v5, v6, hblk, _, b18, b20⟩ := h.blk
  have h16 : f 16 = false := by
    cases e : f 16 with
    | false => rfl
    | true => exact absurd (h.k16 e) (by rw [h4]; decide)
  refine ⟨h.bel.trans (hb.mono (by omega)), ⟨v0, v1, v5, v6, keep hb hblk, fun e => (bool_no (f := f) h16 e).elim, b18, b20⟩, fun e => rfl, h.k18, h.k20, fun _ => ⟨va, vc, rfl, hc, ht, hn⟩, fun e => ?_, fun e => ?_, h.ne⟩
  · obtain ⟨b, h1, h2, h3⟩ := h.r9 e
    exact ⟨b, h1, h2, h3.below hb⟩
  · obtain ⟨b, h1, h2, h3⟩ := h.r14 e
    exact ⟨b, h1, h2, h3.below hb⟩
theorem GC.do9 (h : GC U g cl tv bs ws W f vs w) (h9 : f 9 = false) {w' : World} (hb : Below w.heap.size w w') (hm : MapIs Tryz.prog w' 35 3 w.heap.size g.ts.length bs) :
    GC U g cl tv bs ws W (setB f 9) (updV vs 9 (.map (some w.heap.size))) w' := by
  have hU := h.lt
  obtain ⟨v0, v1, v5, v6, hblk, b16, _, b20⟩ := h.blk
  have h18 : f 18 = false := by
    cases e : f 18 with
    | false => rfl
    | true => exact absurd (h.k18 e) (by rw [h9]; decide)
  refine ⟨h.bel.trans (hb.mono (by omega)), ⟨v0, v1, v5, v6, keep hb hblk, b16, fun e => (bool_no (f := f) h18 e).elim, b20⟩, h.k16, fun e => rfl, h.k20, fun e => ?_, fun _ => ⟨w.heap.size, rfl, by omega, hm⟩, fun e => ?_, fun _ e b b' hv hv' => ?_⟩
  · obtain ⟨va, vc, h1, h2, h3, h4⟩ := h.r4 e
    exact ⟨va, vc, h1, (h2.below hb).mono hb.size, h3.hk (KeepsTy.of_below hb), h4⟩
  · obtain ⟨b, h1, h2, h3⟩ := h.r14 e
    exact ⟨b, h1, h2, h3.below hb⟩
  · obtain ⟨c, h1, h2, h3⟩ := h.r14 e
    have hv1 : Value.map (some w.heap.size) = .map (some b) := hv
    have hv2 : vs 14 = .map (some b') := hv'
    rw [h1] at hv2
    cases hv1; cases hv2
    have := h3.lt
    omega
theorem GC.do14 (h : GC U g cl tv bs ws W f vs w) (h14 : f 14 = false) {w' : World} (hb : Below w.heap.size w w') (hm : MapIs Tryz.prog w' 128 3 w.heap.size g.nw ws) :
    GC U g cl tv bs ws W (setB f 14) (updV vs 14 (.map (some w.heap.size))) w' := by
  have hU := h.lt
  obtain ⟨v0, v1, v5, v6, hblk, b16, b18, _⟩ := h.blk
  have h20 : f 20 = false := by
    cases e : f 20 with
    | false => rfl
    | true => exact absurd (h.k20 e) (by rw [h14]; decide)
  refine ⟨h.bel.trans (hb.mono (by omega)), ⟨v0, v1, v5, v6, keep hb hblk, b16, b18, fun e => (bool_no (f := f) h20 e).elim⟩, h.k16, h.k18, fun e => rfl, fun e => ?_, fun e => ?_, fun _ => ⟨w.heap.size, rfl, by omega, hm⟩, fun e _ b b' hv hv' => ?_⟩
  · obtain ⟨va, vc, h1, h2, h3, h4⟩ := h.r4 e
    exact ⟨va, vc, h1, (h2.below hb).mono hb.size, h3.hk (KeepsTy.of_below hb), h4⟩
  · obtain ⟨b, h1, h2, h3⟩ := h.r9 e
    exact ⟨b, h1, h2, h3.below hb⟩
  · obtain ⟨c, h1, h2, h3⟩ := h.r9 e
    have hv1 : vs 9 = .map (some b) := hv
    have hv2 : Value.map (some w.heap.size) = .map (some b') := hv'
    rw [h1] at hv1
    cases hv1; cases hv2
    have := h3.lt
    omega
/-- What a store to the new graph's block keeps. -/
theorem keepsTy_set {w : World} {U : Nat} {cur : Array Value} (hU : w.heap[U]? = some (.cells cur 119 (0, 0))) (o : Nat) (u : Value) : KeepsTy w (w.setCell ⟨U, o, none⟩ u) := by
  intro b c e fz hb he
  rw [hset_ne _ _ _ _ (fun e' => by
    have e2 : b = U := e'
    subst e2
    rw [hU] at hb
    cases hb
    rcases he with h | h <;> cases h)]
  exact hb
theorem GC.set (h : GC U g cl tv bs ws W f vs w) (o : Nat) (u : Value) : Below U W (w.setCell ⟨U, o, none⟩ u) ∧
    (f 4 = true → ∃ va vc, vs 4 = .agg #[.int .i64 g.ver, .slice va cl vc] ∧ CompsAt (w.setCell ⟨U, o, none⟩ u).heap.size (w.setCell ⟨U, o, none⟩ u) va cl g.cs ∧ CompsTy (w.setCell ⟨U, o, none⟩ u) va cl g.cs ∧ (va = none → cl = 0 ∧ vc = 0)) ∧
    (f 9 = true → ∃ b, vs 9 = .map (some b) ∧ U + 1 ≤ b ∧ MapIs Tryz.prog (w.setCell ⟨U, o, none⟩ u) 35 3 b g.ts.length bs) ∧
    (f 14 = true → ∃ b, vs 14 = .map (some b) ∧ U + 1 ≤ b ∧ MapIs Tryz.prog (w.setCell ⟨U, o, none⟩ u) 128 3 b g.nw ws) := by
  obtain ⟨v0, v1, v5, v6, hblk, _⟩ := h.blk
  have hk := keepsTy_set hblk o u
  refine ⟨h.bel.setCell (Nat.le_refl _) _, fun e => ?_, fun e => ?_, fun e => ?_⟩
  · obtain ⟨va, vc, h1, h2, h3, h4⟩ := h.r4 e
    refine ⟨va, vc, h1, ?_, h3.hk hk, h4⟩
    have := h2.ty h3 hk
    rwa [show (w.setCell ⟨U, o, none⟩ u).heap.size = w.heap.size by simp [World.setCell]]
  · obtain ⟨b, h1, h2, h3⟩ := h.r9 e
    exact ⟨b, h1, h2, h3.setCell (by simp; omega) _⟩
  · obtain ⟨b, h1, h2, h3⟩ := h.r14 e
    exact ⟨b, h1, h2, h3.setCell (by simp; omega) _⟩
theorem GC.do16a (h : GC U g cl tv bs ws W f vs w) (h16 : f 16 = false) (u : Value) : GC U g cl tv bs ws W f vs (w.setCell ⟨U, 0, none⟩ u) ∧ ∃ v1 v5 v6, (w.setCell ⟨U, 0, none⟩ u).heap[U]? = some (.cells #[u, v1, .int .i64 g.archs, .int .i64 g.rows, tv, v5, v6] 119 (0, 0)) ∧ (f 18 = true → vs 9 = v5) ∧ (f 20 = true → vs 14 = v6) := by
  obtain ⟨v0, v1, v5, v6, hblk, b16, b18, b20⟩ := h.blk
  obtain ⟨s1, s2, s3, s4⟩ := h.set 0 u
  have hb := hset _ _ 0 u _ _ _ hblk
  simp at hb
  exact ⟨⟨s1, ⟨u, v1, v5, v6, hb, fun e => (bool_no (f := f) h16 e).elim, b18, b20⟩, h.k16, h.k18, h.k20, s2, s3, s4, h.ne⟩, v1, v5, v6, hb, b18, b20⟩
theorem GC.do16 (h : GC U g cl tv bs ws W f vs w) (h4 : f 4 = true) (h16 : f 16 = false) (d : Value) {u v : Value} (hv : vs 4 = .agg #[u, v]) : GC U g cl tv bs ws W (setB f 16) (updV vs 16 d) ((w.setCell ⟨U, 0, none⟩ u).setCell ⟨U, 1, none⟩ v) := by
  obtain ⟨ha, v1, v5, v6, hblk, b18, b20⟩ := h.do16a h16 u
  obtain ⟨s1, s2, s3, s4⟩ := ha.set 1 v
  have hb := hset _ _ 1 v _ _ _ hblk
  simp at hb
  exact ⟨s1, ⟨u, v, v5, v6, hb, fun _ => hv, b18, b20⟩, fun _ => h4, h.k18, h.k20, s2, s3, s4, h.ne⟩
theorem GC.do18 (h : GC U g cl tv bs ws W f vs w) (h9 : f 9 = true) (d : Value) : GC U g cl tv bs ws W (setB f 18) (updV vs 18 d) (w.setCell ⟨U, 5, none⟩ (vs 9)) := by
  obtain ⟨v0, v1, v5, v6, hblk, b16, b18, b20⟩ := h.blk
  obtain ⟨s1, s2, s3, s4⟩ := h.set 5 (vs 9)
  have hb := hset _ _ 5 (vs 9) _ _ _ hblk
  simp at hb
  exact ⟨s1, ⟨v0, v1, vs 9, v6, hb, b16, fun _ => rfl, b20⟩, h.k16, fun _ => h9, h.k20, s2, s3, s4, h.ne⟩
theorem GC.do20 (h : GC U g cl tv bs ws W f vs w) (h14 : f 14 = true) (d : Value) : GC U g cl tv bs ws W (setB f 20) (updV vs 20 d) (w.setCell ⟨U, 6, none⟩ (vs 14)) := by
  obtain ⟨v0, v1, v5, v6, hblk, b16, b18, b20⟩ := h.blk
  obtain ⟨s1, s2, s3, s4⟩ := h.set 6 (vs 14)
  have hb := hset _ _ 6 (vs 14) _ _ _ hblk
  simp at hb
  exact ⟨s1, ⟨v0, v1, v5, vs 14, hb, b16, b18, fun _ => rfl⟩, h.k16, h.k18, fun _ => h14, s2, s3, s4, h.ne⟩
end
/-- What a round of the loop keeps: the new graph stands in block U. -/
structure GL (U : Nat) (g : GS) (va : Option Addr) (cl vc b1 b2 : Nat) (bs ws : Lit → Option Lit) (W : World) (ta : Option Addr) (tc k : Nat) (out : List (Nat × Int)) (w : World) : Prop where
  bel : Below U W w
  blk : w.heap[U]? = some (.cells #[.int .i64 g.ver, .slice va cl vc, .int .i64 g.archs, .int .i64 g.rows, .slice ta k tc, .map (some b1), .map (some b2)] 119 (0, 0))
  comps : CompsAt w.heap.size w va cl g.cs
  cty : CompsTy w va cl g.cs
  cn : va = none → cl = 0 ∧ vc = 0
  u1 : U + 1 ≤ b1
  u2 : U + 1 ≤ b2
  ne : b1 ≠ b2
  m1 : MapIs Tryz.prog w 35 3 b1 g.ts.length bs
  m2 : MapIs Tryz.prog w 128 3 b2 g.nw ws
  row : w.ownsRow (U + 1) 42 1 (.slice ta k tc) k (out.map fun t => .pointer (some ⟨t.1, 0, none⟩))
  len : out.length = k
  sets : out.map (·.2) = (g.ts.take k).map (·.2)
  tab : ∀ t ∈ out, TableAt w t.1 g.ver t.2 g.rows ∧ 0 ≤ t.2 ∧ t.2 ≤ 4294967295
  tlo : ∀ t ∈ out, U + 1 ≤ t.1
section
variable {U : Nat} {g : GS} {va : Option Addr} {cl vc b1 b2 : Nat} {bs ws : Lit → Option Lit} {W : World} {ta : Option Addr} {tc k : Nat} {out : List (Nat × Int)} {w : World}
theorem GL.keepB (h : GL U g va cl vc b1 b2 bs ws W ta tc k out w) {w' : World} (hb : Below w.heap.size w w') : GL U g va cl vc b1 b2 bs ws W ta tc k out w' :=
  { h with
    bel := h.bel.trans (hb.mono (Nat.le_of_lt (lt_some h.blk)))
    blk := keep hb h.blk
    comps := (h.comps.below hb).mono hb.size
    cty := h.cty.hk (KeepsTy.of_below hb)
    m1 := h.m1.below hb
    m2 := h.m2.below hb
    row := ownsRow_below h.row hb
    tab := fun t ht => ⟨(h.tab t ht).1.kept (fun b c e fz hh _ _ => keep hb hh), (h.tab t ht).2⟩ }
theorem GL.app (h : GL U g va cl vc b1 b2 bs ws W ta tc k out w) {s : Int} (hs : (g.ts[k]?).map (·.2) = some s) (s0 : 0 ≤ s) (s1 : s ≤ 4294967295) {ub : Nat} (hub : U + 1 ≤ ub) (ht : TableAt w ub g.ver s g.rows)
    {w' : World} {q cap : Nat} (hg : w.grownBy w' (Value.slice ta k tc).ownBlock) (ho : w'.ownsRow (U + 1) 42 1 (.slice (some ⟨q, 0, none⟩) (k + 1) cap) (k + 1) ((out.map fun t => .pointer (some ⟨t.1, 0, none⟩)) ++ [.pointer (some ⟨ub, 0, none⟩)])) :
    GL U g va cl vc b1 b2 bs ws W (some ⟨q, 0, none⟩) cap (k + 1) (out ++ [(ub, s)]) (w'.setCell ⟨U, 4, none⟩ (.slice (some ⟨q, 0, none⟩) (k + 1) cap)) := by
  have hUl := lt_some h.blk
  have kb := keepG hg h.blk (ownsRow_ne_block h.row h.blk (fun cur he => by cases he))
  have hsz : (w'.setCell ⟨U, 4, none⟩ (.slice (some ⟨q, 0, none⟩) (k + 1) cap)).heap.size = w'.heap.size := by simp [World.setCell]
  have hk : ∀ (b : Nat) (c : Array Value) (e : TypeId) (fz : Nat × Nat), w.heap[b]? = some (.cells c e fz) → e ≠ 119 → e ≠ 42 → (w'.setCell ⟨U, 4, none⟩ (.slice (some ⟨q, 0, none⟩) (k + 1) cap)).heap[b]? = some (.cells c e fz) := by
    intro b c e fz hb he1 he2
    rw [hset_ne _ _ _ _ (fun e' => by
      have e2 : b = U := e'
      subst e2
      rw [h.blk] at hb
      cases hb
      exact he1 rfl)]
    exact keepG hg hb (ownsRow_ne_block h.row hb (fun cur hc => by cases hc; exact he2 rfl))
  have hty : KeepsTy w (w'.setCell ⟨U, 4, none⟩ (.slice (some ⟨q, 0, none⟩) (k + 1) cap)) := fun b c e fz hb he => hk b c e fz hb (by rcases he with rfl | rfl <;> decide) (by rcases he with rfl | rfl <;> decide)
  refine { bel := ?_, blk := ?_, comps := ?_, cty := h.cty.hk hty, cn := h.cn, u1 := h.u1, u2 := h.u2, ne := h.ne, m1 := ?_, m2 := ?_, row := ?_, len := ?_, sets := ?_, tab := ?_, tlo := ?_ }
  · refine (h.bel.grown hg (Nat.le_of_lt hUl) (fun x hx => ?_)).setCell (Nat.le_refl _) _
    have := (h.row.lt x hx).1; omega
  · exact hset _ _ 4 _ _ _ _ kb
  · rw [hsz]; exact (h.comps.ty h.cty hty).mono hg.size
  · refine (h.m1.kept hg ?_).setCell (by have := h.u1; simp; omega) _
    obtain ⟨es, c, hm⟩ := h.m1.obj
    exact ownsRow_ne_block h.row hm (fun cur hc => by cases hc)
  · refine (h.m2.kept hg ?_).setCell (by have := h.u2; simp; omega) _
    obtain ⟨es, c, hm⟩ := h.m2.obj
    exact ownsRow_ne_block h.row hm (fun cur hc => by cases hc)
  · rw [List.map_append]
    exact ownsRow_setCell_below ho (by simp) _
  · rw [List.length_append, h.len]; rfl
  · obtain ⟨t, ht', hts⟩ := Option.map_eq_some_iff.1 hs
    rw [List.map_append, h.sets, take_snoc ht', List.map_append, ← hts]; rfl
  · intro t htm
    rcases List.mem_append.1 htm with hx | hx
    · exact ⟨(h.tab t hx).1.kept hk, (h.tab t hx).2⟩
    · obtain rfl : t = (ub, s) := by simpa using hx
      exact ⟨ht.kept hk, s0, s1⟩
  · intro t htm
    rcases List.mem_append.1 htm with hx | hx
    · exact h.tlo t hx
    · obtain rfl : t = (ub, s) := by simpa using hx
      exact hub
theorem GL.fin (h : GL U g va cl vc b1 b2 bs ws W ta tc k out w) (hk : k = g.ts.length) (hbs : ∀ s : Int, bs (.int .u32 s) = litN (posOf s g.sigs)) (hws : ∀ x, WayWf x → ws (wayK x) = litN (g.ways x))
    (hwf : CompsWf g.cs ∧ (∀ c ∈ g.cs, c.fields.length ≤ 100000) ∧ 1 ≤ g.archs ∧ g.archs ≤ 64 ∧ (g.ts.length : Int) ≤ g.archs ∧ g.nw ≤ 1000000) (hwok : ∀ x n, g.ways x = some n → n < g.ts.length) (hcl : cl ≤ 100000) :
    out.map (·.2) = g.ts.map (·.2) ∧ Graph U U { g with ts := out } w := by
  have hs : out.map (·.2) = g.ts.map (·.2) := by rw [h.sets, List.take_of_length_le (by omega)]
  have hl : out.length = g.ts.length := by have := h.len; omega
  have hUl := lt_some h.blk
  refine ⟨hs, b1, b2, va, cl, vc, ta, tc, bs, ws, { bg := Nat.le_refl _, bm := by have := h.u1; omega, bw := by have := h.u2; omega, ne := h.ne, blk := ?_, comps := h.comps, cty := h.cty, row := ?_, bySet := ?_, byWay := h.m2, tab := h.tab, hbs := ?_, hws := hws, wf := ?_, wok := ?_, tlo := fun t ht => by have := h.tlo t ht; omega, cn := ⟨h.cn, hcl⟩ }⟩
  · show w.heap[U]? = some (.cells #[.int .i64 g.ver, .slice va cl vc, .int .i64 g.archs, .int .i64 g.rows, .slice ta out.length tc, .map (some b1), .map (some b2)] 119 (0, 0))
    rw [h.len]; exact h.blk
  · show w.ownsRow U 42 1 (.slice ta out.length tc) out.length (out.map fun t => .pointer (some ⟨t.1, 0, none⟩))
    rw [h.len]; exact ownsRow_mono h.row (by omega)
  · show MapIs Tryz.prog w 35 3 b1 out.length bs
    rw [hl]; exact h.m1
  · intro s
    show bs (.int .u32 s) = litN (posOf s (out.map (·.2)))
    rw [hs]; exact hbs s
  · obtain ⟨a1, a2, a3, a4, a5, a6⟩ := hwf
    exact ⟨a1, a2, a3, a4, by show (out.length : Int) ≤ g.archs; omega, by omega, a6⟩
  · intro x n hx
    have := hwok x n hx
    show n < out.length
    omega
end
end Go.Proofs.YtoadihebdaooaaaGreat
