/- The law's switch: Set. Printed by mkZY.py. -/
import Derived.Test.YtoadihebdaooaaaGreatE48
namespace Go.Proofs.YtoadihebdaooaaaGreat
open Go.RowKit
set_option linter.unusedVariables false
/-- What Set makes. -/
structure SetA where
  la : Option Addr
  lc : Nat
  pa : Option Addr
  pc : Nat
  va : Option Addr
  vc : Nat
def IsSetV (ln : Nat) (rs1 : SetA → List URow) (g : SetA → Value) (v : Value) (w : World) : Prop := ∃ z : SetA, v = g z ∧ RU 0 w z.la ln z.lc (rs1 z)
/-- What the region with the reference's Set keeps. -/
structure SM (w5 : World) (ln : Nat) (rs1 : SetA → List URow) (g : SetA → Value) (gc : SetA → Array Value) (q : Int) (z : SetA) (f : Nat → Bool) (vs : Nat → Value) (w : World) : Prop where
  bel : Below w5.heap.size w5 w
  o8 : f 8 = true → f 7 = true
  o9 : f 9 = true → f 8 = true
  o10 : f 10 = true → f 8 = true
  o12 : f 12 = true → f 9 = true ∧ f 11 = true
  v7 : f 7 = true → vs 7 = .tuple #[g z, .int .i64 q] ∧ RU 0 w z.la ln z.lc (rs1 z)
  v8 : f 8 = true → vs 8 = .tuple #[g z, .int .i64 q]
  v9 : f 9 = true → vs 9 = g z
  v10 : f 10 = true → vs 10 = .int .i64 q
  v11 : f 11 = true → ∃ p, vs 11 = .pointer (some ⟨p, 0, none⟩) ∧ w5.heap.size ≤ p ∧ ∃ cs : Array Value, w.heap[p]? = some (.cells cs 99 (0, 0)) ∧ cs.size = 6 ∧ (f 12 = true → cs = gc z)
  v13 : f 13 = true → vs 13 = .int .i64 q
section
variable {w5 : World} {ln : Nat} {rs1 : SetA → List URow} {g : SetA → Value} {gc : SetA → Array Value} {q : Int} {z z' : SetA} {f gb : Nat → Bool} {vs us : Nat → Value} {w w' : World}
theorem SM.start {w : World} {vs : Nat → Value} (h : Below w5.heap.size w5 w) : SM w5 ln rs1 g gc q z (fun _ => false) vs w :=
  ⟨h, nofun, nofun, nofun, nofun, nofun, nofun, nofun, nofun, nofun, nofun⟩
theorem SM.congr (h : SM w5 ln rs1 g gc q z f vs w) (hs : ∀ i, 7 ≤ i → i ≤ 13 → f i = gb i ∧ vs i = us i) : SM w5 ln rs1 g gc q z gb us w := by
  obtain ⟨a7, b7⟩ := hs 7 (by omega) (by omega)
  obtain ⟨a8, b8⟩ := hs 8 (by omega) (by omega)
  obtain ⟨a9, b9⟩ := hs 9 (by omega) (by omega)
  obtain ⟨a10, b10⟩ := hs 10 (by omega) (by omega)
  obtain ⟨a11, b11⟩ := hs 11 (by omega) (by omega)
  obtain ⟨a12, b12⟩ := hs 12 (by omega) (by omega)
  obtain ⟨a13, b13⟩ := hs 13 (by omega) (by omega)
  obtain ⟨h0, h1, h2, h3, h4, h5, h6, h7, h8, h9, h10⟩ := h
  rw [a7] at h5
  rw [a8, a7] at h1
  rw [a9, a8] at h2
  rw [a10, a8] at h3
  rw [a12, a9, a11] at h4
  rw [a8] at h6
  rw [a9] at h7
  rw [a10] at h8
  rw [a11, a12] at h9
  rw [a13] at h10
  rw [b7] at h5
  rw [b8] at h6
  rw [b9] at h7
  rw [b10] at h8
  rw [b11] at h9
  rw [b13] at h10
  exact ⟨h0, h1, h2, h3, h4, h5, h6, h7, h8, h9, h10⟩
theorem SM.do7 (h : SM w5 ln rs1 g gc q z f vs w) (hf : f 7 = false) (hr : RU 0 w' z'.la ln z'.lc (rs1 z')) (hb : Below w.heap.size w w') : SM w5 ln rs1 g gc q z' (setB f 7) (updV vs 7 (.tuple #[g z', .int .i64 q])) w' := by
  have n8 : f 8 = false := by cases e : f 8 with
    | false => rfl
    | true => rw [h.o8 e] at hf; cases hf
  have n9 : f 9 = false := by cases e : f 9 with
    | false => rfl
    | true => rw [h.o9 e] at n8; cases n8
  have n12 : f 12 = false := by cases e : f 12 with
    | false => rfl
    | true => rw [(h.o12 e).1] at n9; cases n9
  refine ⟨h.bel.trans (hb.mono h.bel.size), fun _ => rfl, h.o9, h.o10, h.o12, fun _ => ⟨rfl, hr⟩, fun e => ?_, fun e => ?_, h.v10, fun e => ?_, h.v13⟩
  · exact absurd (show f 8 = true from e) (by rw [n8]; decide)
  · exact absurd (show f 9 = true from e) (by rw [n9]; decide)
  · obtain ⟨p, h1, h2, cs, h3, h4, _⟩ := h.v11 e
    exact ⟨p, h1, h2, cs, keep hb h3, h4, fun e => absurd (show f 12 = true from e) (by rw [n12]; decide)⟩
theorem SM.do8 (h : SM w5 ln rs1 g gc q z f vs w) (hf : f 8 = false) (h7 : f 7 = true) : SM w5 ln rs1 g gc q z (setB f 8) (updV vs 8 (.tuple #[g z, .int .i64 q])) w :=
  ⟨h.bel, fun _ => h7, fun _ => rfl, fun _ => rfl, h.o12, h.v7, fun _ => rfl, h.v9, h.v10, h.v11, h.v13⟩
theorem SM.do9 (h : SM w5 ln rs1 g gc q z f vs w) (hf : f 9 = false) (h8 : f 8 = true) : SM w5 ln rs1 g gc q z (setB f 9) (updV vs 9 (g z)) w :=
  ⟨h.bel, h.o8, fun _ => h8, h.o10, fun e => ⟨rfl, (h.o12 e).2⟩, h.v7, h.v8, fun _ => rfl, h.v10, h.v11, h.v13⟩
theorem SM.do10 (h : SM w5 ln rs1 g gc q z f vs w) (hf : f 10 = false) (h8 : f 8 = true) : SM w5 ln rs1 g gc q z (setB f 10) (updV vs 10 (.int .i64 q)) w :=
  ⟨h.bel, h.o8, h.o9, fun _ => h8, h.o12, h.v7, h.v8, h.v9, fun _ => rfl, h.v11, h.v13⟩
theorem SM.do13 (h : SM w5 ln rs1 g gc q z f vs w) (hf : f 13 = false) : SM w5 ln rs1 g gc q z (setB f 13) (updV vs 13 (.int .i64 q)) w :=
  ⟨h.bel, h.o8, h.o9, h.o10, h.o12, h.v7, h.v8, h.v9, h.v10, h.v11, fun _ => rfl⟩
theorem SM.do11 (h : SM w5 ln rs1 g gc q z f vs w) (hf : f 11 = false) : SM w5 ln rs1 g gc q z (setB f 11) (updV vs 11 (.pointer (some ⟨w.heap.size, 0, none⟩))) (w.alloc (.cells u0cs 99)) := by
  have hb : Below w.heap.size w (w.alloc (.cells u0cs 99)) := by go_grown
  refine ⟨h.bel.trans (hb.mono h.bel.size), h.o8, h.o9, h.o10, fun e => ⟨(h.o12 e).1, rfl⟩, fun e => ⟨(h.v7 e).1, (h.v7 e).2.below hb⟩, h.v8, h.v9, h.v10, fun _ => ⟨_, rfl, h.bel.size, u0cs, heap_alloc_new w _, rfl, fun e => ?_⟩, h.v13⟩
  have := (h.o12 e).2
  rw [hf] at this
  cases this
theorem SM.v11b (h : SM w5 ln rs1 g gc q z f vs w) (h11 : f 11 = true) (h12 : f 12 = false) : ∃ p, vs 11 = .pointer (some ⟨p, 0, none⟩) ∧ w5.heap.size ≤ p ∧ ∃ cs : Array Value, w.heap[p]? = some (.cells cs 99 (0, 0)) ∧ cs.size = 6 := by
  obtain ⟨p, h1, h2, cs, h3, h4, _⟩ := h.v11 h11
  exact ⟨p, h1, h2, cs, h3, h4⟩
theorem SM.do12 (h : SM w5 ln rs1 g gc q z f vs w) (hf : f 12 = false) (h9 : f 9 = true) (h11 : f 11 = true) {p : Nat} (hv : vs 11 = .pointer (some ⟨p, 0, none⟩)) (hp : w5.heap.size ≤ p) {cs : Array Value} (hc : w.heap[p]? = some (.cells cs 99 (0, 0))) (hs : cs.size = 6) (u : UD) (hu : u.cs = gc z) (hM : True → MutU w p) {v : Value} :
    SM w5 ln rs1 g gc q z (setB f 12) (updV vs 12 v) (setU w p u) := by
  have ho := setU_out w p u
  refine ⟨setU_below h.bel hp, h.o8, h.o9, h.o10, fun _ => ⟨h9, h11⟩, fun e => ⟨(h.v7 e).1, (h.v7 e).2.out ho (fun b hb => by subst hb; exact hM trivial)⟩, h.v8, h.v9, h.v10, fun _ => ⟨p, hv, hp, u.cs, setU_cells u hc hs, by simp [UD.cs], fun _ => hu⟩, h.v13⟩
end
theorem lasts_set (ln : Nat) (rs1 : SetA → List URow) (g : SetA → Value) : Lasts (IsSetV ln rs1 g) := fun _ _ _ ⟨z, h1, h2⟩ hb => ⟨z, h1, h2.below hb⟩
def set_list42 (TB X : Nat) (xi : Int) (pb po pl pc : Nat) (comp : Int) (va : Option Addr) (vl vc : Nat) : List (Value → World → Prop) :=
  [IsV (.pointer (some ⟨TB, 0, none⟩)),
   IsV (.pointer (some ⟨X, 1, none⟩)),
   IsV (.int .i64 xi),
   IsV (.pointer (some ⟨X, 3, none⟩)),
   IsV (.slice (some ⟨pb, po, none⟩) pl pc),
   IsV (.pointer (some ⟨pb, po, none⟩)),
   IsV (.agg #[.int .i64 comp, .slice va vl vc])]
theorem set_list42_lasts (TB X : Nat) (xi : Int) (pb po pl pc : Nat) (comp : Int) (va : Option Addr) (vl vc : Nat) : ∀ p ∈ set_list42 TB X  xi  pb po pl pc  comp  va  vl vc , Lasts p := by
  simp only [set_list42, List.mem_cons, List.not_mem_nil, or_false]
  rintro p hp
  repeat (rcases hp with rfl | hp; first | exact lasts_v _ | exact lasts_emp _ _ _ | exact lasts_rowO _ _ _ _ _ | exact lasts_with _ _ _ _ _ _ | exact lasts_oneW _ _ _ _ _ _ _ | exact lasts_one _ _ | exact lasts_ptr _ _ _ | exact lasts_set _ _ _)
section
variable {w0 : World} {UB : Nat} {ver : Int} {a : Option Addr} {len cap : Nat} {cs : List Cmp} {set : Int} {B : Nat} {t t1 : TD} {V V1 : List (List (List WI))} {u : UD} {rs : List URow} {rs1 : SetA → List URow} {w : World} {X : Nat} {x : TA} {f : Nat → Value} {d : List Deferred} {K : Act → World → Prop} {Q : Exit → Act → World → Prop} {p : PW} {q : Int}
set_option maxRecDepth 100000 in
theorem sw_set0 (h : XP w0 UB ver a len cap cs set B t V u rs w) (hm : MatchR t V u rs) (hs : AtSw X x t UB f w) (hk : x.kind = 5) (hl : x.pl = 0) (hK : KSw w0 UB ver a len cap cs set B X x f d K) : (piece Tryz.f6 pSw).wp Tryz.prog (Exit.then K Q) ⟨(frX f).toArray, d⟩ w := by
  obtain ⟨f9, f20, f22, f192, hx⟩ := hs
  rw [hk] at f192
  have x3 := cell_at hx 3
  simp at x3
  rw [hl] at x3
  have hxl := lt_some hx
  have HH := Lib.hid (And.intro h (And.intro hm (And.intro hx hK)))
  have HF := Lib.hid (And.intro f9 (And.intro f20 (And.intro f22 f192)))
  clear h hm hx hK hk hl
  unfold frX
  rw [f9, f20, f22, f192]
  clear f9 f20 f22 f192
  conv => arg 2; whnf
  go_wp2_with fail
  obtain ⟨h, hm, hx, hK⟩ := HH.out
  refine hK _ _ t V u rs h hm ?_ hx ?_
  · rfl
  · unfold frX
    rw [HF.out.2.1, HF.out.2.2.1, HF.out.2.2.2]
    rfl
set_option maxRecDepth 100000 in
set_option maxHeartbeats 2000000 in
theorem sw_set1 (h : XP w0 UB ver a len cap cs set B t V u rs w) (hm : ∀ z : SetA, MatchR t1 V1 { u with la := z.la, lc := z.lc } (rs1 z)) (htb : t1.tb = t.tb) (hs : AtSw X x t UB f w) (hp : PartsX w0 x) (hk : x.kind = 5) (hl : 0 < x.pl) (hp0 : x.ps[0]? = some p)
    (hT : ∀ W, Below w.heap.size w W → Calls Tryz.prog 40 #[.pointer (some ⟨t.tb, 0, none⟩), .int .i64 x.i, .agg #[.int .i64 p.comp, .slice p.va p.vl p.vc]] W fun en w' => en = .returned (.int .i64 q) ∧ XP w0 UB ver a len cap cs set B t1 V1 u rs w' ∧ w'.heap[X]? = w.heap[X]?)
    (hU : ∀ W, XP w0 UB ver a len cap cs set B t1 V1 u rs W → Calls Tryz.prog 50 #[u.v, .int .i64 x.i, .agg #[.int .i64 p.comp, .slice p.va p.vl p.vc]] W fun en w' => ∃ z : SetA, en = .returned (.tuple #[UD.v { u with la := z.la, lc := z.lc }, .int .i64 q]) ∧ RU 0 w' z.la u.ln z.lc (rs1 z) ∧ Below W.heap.size W w')
    (hK : KSw w0 UB ver a len cap cs set B X x f d K) : (piece Tryz.f6 pSw).wp Tryz.prog (Exit.then K Q) ⟨(frX f).toArray, d⟩ w := by
  obtain ⟨f9, f20, f22, f192, hx⟩ := hs
  rw [hk] at f192
  obtain ⟨pb, po, p', hpa, hpB, hp', _, p0, p1⟩ := hp.at_.get h.bel hl
  obtain rfl : p' = p := by rw [hp0] at hp'; cases hp'; rfl
  simp only [Nat.zero_mul, Nat.add_zero] at p0 p1
  have x1 := cell_at hx 1
  have x3 := cell_at hx 3
  simp at x1 x3
  rw [hpa] at x3
  have hxl := lt_some hx
  have hpw : pb < w.heap.size := by have := h.bel.size; omega
  obtain ⟨comp, va, vl, vc, val⟩ := p'
  dsimp only at p0 p1 hT hU
  obtain ⟨xi, hxi⟩ : ∃ xi, x.i = xi := ⟨_, rfl⟩
  obtain ⟨pl, hpl⟩ : ∃ pl, x.pl = pl := ⟨_, rfl⟩
  obtain ⟨pc, hpc⟩ : ∃ pc, x.pc = pc := ⟨_, rfl⟩
  obtain ⟨TB, hTB⟩ : ∃ TB, t.tb = TB := ⟨_, rfl⟩
  have hp12 := hp.n12
  have hcel : ∀ W, w.heap[X]? = W.heap[X]? → Below w0.heap.size w0 W → (W.cell? ⟨X, 1, none⟩ = some (.int .i64 xi) ∧ W.cell? ⟨X, 3, none⟩ = some (.slice (some ⟨pb, po, none⟩) pl pc) ∧ W.cell? ⟨pb, po, none⟩ = some (.int .i64 comp) ∧ W.cell? ⟨pb, po + 1, none⟩ = some (.slice va vl vc)) := by
    intro W hW hbW
    rw [← hxi, ← hpl, ← hpc, ← hpa]
    obtain ⟨pb2, po2, p2, hpa2, _, hp2, _, e0, e1⟩ := hp.at_.get hbW hl
    rw [hpa] at hpa2
    cases hpa2
    rw [hp0] at hp2
    cases hp2
    simp only [Nat.zero_mul, Nat.add_zero] at e0 e1
    rw [hx] at hW
    exact ⟨by rw [cell_at hW.symm]; rfl, by rw [cell_at hW.symm]; rfl, e0, e1⟩
  have hl0 : 0 < pl := by omega
  rw [hpl] at hp12
  rw [hxi, hTB] at hT
  rw [hxi] at hU x1
  rw [hpl, hpc] at x3
  have HF := Lib.hid (And.intro f9 (And.intro f20 (And.intro f22 f192)))
  rw [hTB] at f9 htb
  obtain ⟨uver, uca, ucl, ucc, uia, uil, uic, umost, ukept, ula, uln, ulc⟩ := u
  dsimp only [UD.v] at hU
  have HT := Lib.hid hT
  have HU := Lib.hid hU
  have HC := Lib.hid hcel
  have HCEL : Hid (∀ W, Below w.heap.size w W → (W.cell? ⟨X, 1, none⟩ = some (.int .i64 xi) ∧ W.cell? ⟨X, 3, none⟩ = some (.slice (some ⟨pb, po, none⟩) pl pc) ∧ W.cell? ⟨pb, po, none⟩ = some (.int .i64 comp) ∧ W.cell? ⟨pb, po + 1, none⟩ = some (.slice va vl vc))) := Lib.hid (fun W hW => hcel W (hW.block X hxl).symm (h.bel.trans (hW.mono h.bel.size)))
  have HH := Lib.hid (And.intro h (And.intro hm (And.intro hx hK)))
  have HTB := Lib.hid htb
  have i1 : (0 : Int) < (pl : Int) := by omega
  clear h hm hx hK hk hp hp0 hp' hT hU hcel hl hpa hxi hpl hpc hTB htb p0 p1
  unfold frX
  rw [f9, f20, f22, f192]
  clear f9 f20 f22 f192
  conv => arg 2; whnf
  go_upto_region 42 with (fail)
  clear x1 x3
  refine wp_region_tail 7 (by kernel_rfl) (by kernel_rfl) (by kernel_rfl) (by decide) (by kernel_rfl) (byList (set_list42 TB X xi pb po pl pc comp va vl vc)) (lasts_list (set_list42_lasts TB X xi pb po pl pc comp va vl vc)) ?_ ?_
  · intro vs w' iq o A hi F hb ho hd
    have m9 : A.tmps[9]?.getD undef = (.pointer (some ⟨TB, 0, none⟩)) := F.m (by kernel_rfl) rfl
    have m22 : A.tmps[22]?.getD undef = (.pointer (some ⟨X, 0, none⟩)) := F.m (by kernel_rfl) rfl
    have G := F.light (n := 417) (by kernel_rfl)
    clear F
    obtain ⟨z0, z1, z2, z3⟩ := HCEL.out w' hb
    revert hi ho hd
    match iq with
    | 0 =>
      intro _ ho hd
      obtain rfl := (Option.some.inj ho).symm
      clear hd ho
      refine step_open rfl ?_
      clear G
      exact step_run (v := (.pointer (some ⟨TB, 0, none⟩))) (by go_simp) rfl
    | 1 =>
      intro _ ho hd
      obtain rfl := (Option.some.inj ho).symm
      clear hd ho
      refine step_open rfl ?_
      clear G
      exact step_run (v := (.pointer (some ⟨X, 1, none⟩))) (by go_simp) rfl
    | 2 =>
      intro _ ho hd
      obtain rfl := (Option.some.inj ho).symm
      have d1 : vs 1 = (.pointer (some ⟨X, 1, none⟩)) := hd ⟨1, .data⟩ (by simp) rfl
      clear hd ho
      have h271 := G.h (j := 1) (d := 271) rfl (by decide) d1
      refine step_open rfl ?_
      clear G
      exact step_run (v := (.int .i64 xi)) (by go_simp) rfl
    | 3 =>
      intro _ ho hd
      obtain rfl := (Option.some.inj ho).symm
      clear hd ho
      refine step_open rfl ?_
      clear G
      exact step_run (v := (.pointer (some ⟨X, 3, none⟩))) (by go_simp) rfl
    | 4 =>
      intro _ ho hd
      obtain rfl := (Option.some.inj ho).symm
      have d3 : vs 3 = (.pointer (some ⟨X, 3, none⟩)) := hd ⟨3, .data⟩ (by simp) rfl
      clear hd ho
      have h273 := G.h (j := 3) (d := 273) rfl (by decide) d3
      refine step_open rfl ?_
      clear G
      exact step_run (v := (.slice (some ⟨pb, po, none⟩) pl pc)) (by go_simp) rfl
    | 5 =>
      intro _ ho hd
      obtain rfl := (Option.some.inj ho).symm
      have d4 : vs 4 = (.slice (some ⟨pb, po, none⟩) pl pc) := hd ⟨4, .data⟩ (by simp) rfl
      clear hd ho
      have h274 := G.h (j := 4) (d := 274) rfl (by decide) d4
      refine step_open rfl ?_
      clear G
      exact step_run (v := (.pointer (some ⟨pb, po, none⟩))) (by go_simp) rfl
    | 6 =>
      intro _ ho hd
      obtain rfl := (Option.some.inj ho).symm
      have d5 : vs 5 = (.pointer (some ⟨pb, po, none⟩)) := hd ⟨5, .data⟩ (by simp) rfl
      clear hd ho
      have h275 := G.h (j := 5) (d := 275) rfl (by decide) d5
      refine step_open rfl ?_
      clear G
      exact step_run (v := (.agg #[.int .i64 comp, .slice va vl vc])) (by go_simp) rfl
    | n + 7 =>
      intro hi
      exfalso
      omega
  intro vs w4 A hA F hb hR
  have HA := Lib.hid hA
  clear hA
  have d0 : vs 0 = (.pointer (some ⟨TB, 0, none⟩)) := hR 0 (by decide)
  have d2 : vs 2 = (.int .i64 xi) := hR 2 (by decide)
  have d6 : vs 6 = (.agg #[.int .i64 comp, .slice va vl vc]) := hR 6 (by decide)
  have G := F.light (n := 417) (by kernel_rfl)
  have h270 := G.h (j := 0) (d := 270) rfl (by decide) d0
  have h272 := G.h (j := 2) (d := 272) rfl (by decide) d2
  have h276 := G.h (j := 6) (d := 276) rfl (by decide) d6
  have hcall := HT.out w4 hb
  have HB4 := Lib.hid hb
  clear G F hR d0 d2 d6 hb
  simp only [List.drop_succ_cons, List.drop_zero, wpTail]
  go_simp
  refine hcall.mono ?_
  rintro en w5 ⟨rfl, hx5, hX5⟩
  have hX5 := hX5.trans HH.out.2.2.1
  have HX5 := Lib.hid hx5
  have HA5 := Lib.hid hX5
  clear hcall hx5 hX5 h270 h272 h276
  dsimp only
  rw [if_pos (show 277 < A.tmps.size by rw [HA.out, putAll_size]; exact (by decide : 277 < 417))]
  rw [HA.out]
  simp only [putAll, Act.put, List.setIfInBounds_toArray, List.set_cons_succ, List.set_cons_zero, Nat.zero_add, Nat.reduceAdd]
  clear HA
  have HCEL5 : Hid (∀ W, Below w5.heap.size w5 W → (W.cell? ⟨X, 1, none⟩ = some (.int .i64 xi) ∧ W.cell? ⟨X, 3, none⟩ = some (.slice (some ⟨pb, po, none⟩) pl pc) ∧ W.cell? ⟨pb, po, none⟩ = some (.int .i64 comp) ∧ W.cell? ⟨pb, po + 1, none⟩ = some (.slice va vl vc))) := Lib.hid (fun W hW =>
    HC.out W (HH.out.2.2.1.trans (keep hW HA5.out).symm) (HX5.out.bel.trans (hW.mono HX5.out.bel.size)))
  go_upto_region 43 with (fail)
  refine wp_region_memF (by kernel_rfl) (by kernel_rfl) (by kernel_rfl) (by kernel_rfl) (fun i => ([(.agg #[.int .i64 uver, .slice uca ucl ucc, .slice uia uil uic, .int .i64 umost, .int .i64 ukept, .slice ula uln ulc]), (.pointer (some ⟨X, 1, none⟩)), (.int .i64 xi), (.pointer (some ⟨X, 3, none⟩)), (.slice (some ⟨pb, po, none⟩) pl pc), (.pointer (some ⟨pb, po, none⟩)), (.agg #[.int .i64 comp, .slice va vl vc]), undef, undef, undef, undef, undef, undef, undef] : List Value).getD i undef) (fun i => decide (7 ≤ i) && decide (i ≤ 13)) (fun f' vs w' => ∃ z : SetA, SM w5 uln rs1 (fun z => .agg #[.int .i64 uver, .slice uca ucl ucc, .slice uia uil uic, .int .i64 umost, .int .i64 ukept, .slice z.la uln z.lc]) (fun z => #[.int .i64 uver, .slice uca ucl ucc, .slice uia uil uic, .int .i64 umost, .int .i64 ukept, .slice z.la uln z.lc]) q z f' vs w') ?_ ?_ ?_ ?_ ?_ ?_
  · rintro f' g vs us w' hs ⟨z, hM⟩
    exact ⟨z, hM.congr (fun i h1 h2 => hs i (by simp; omega))⟩
  · intro i hi
    simp at hi
    show i < 14
    omega
  · intro vs
    exact ⟨⟨none, 0, none, 0, none, 0⟩, SM.start (Below.refl _ _).drew⟩
  · intro f' vs w' iq o A F hS hMw ho hd
    have m20 : A.tmps[20]?.getD undef = (.pointer (some ⟨UB, 0, none⟩)) := F.m (by kernel_rfl) rfl
    have m22 : A.tmps[22]?.getD undef = (.pointer (some ⟨X, 0, none⟩)) := F.m (by kernel_rfl) rfl
    have G := F.light (n := 417) (by kernel_rfl)
    clear F
    obtain ⟨z, hMz⟩ := hMw
    have hb := hMz.bel
    clear hMz
    obtain ⟨c0, c1, c2, c3, c4, c5, hul⟩ := (HX5.out.below hb).cells
    dsimp only at c0 c1 c2 c3 c4 c5
    obtain ⟨z0, z1, z2, z3⟩ := HCEL5.out w' hb
    have hMw := hb
    revert hS ho hd
    match iq with
    | 0 =>
      intro _ ho hd
      obtain rfl := (Option.some.inj ho).symm
      clear ho hd G
      exact step_pure (v := (.agg #[.int .i64 uver, .slice uca ucl ucc, .slice uia uil uic, .int .i64 umost, .int .i64 ukept, .slice ula uln ulc])) (by clear hMw; go_simp; all_goals (have h0 := HC.out; omega))
    | 1 =>
      intro _ ho hd
      obtain rfl := (Option.some.inj ho).symm
      clear ho hd G
      exact step_pure (v := (.pointer (some ⟨X, 1, none⟩))) (by clear hMw; go_simp; all_goals (have h0 := HC.out; omega))
    | 2 =>
      intro _ ho hd
      obtain rfl := (Option.some.inj ho).symm
      have d1 : vs 1 = (.pointer (some ⟨X, 1, none⟩)) := (hd ⟨1, .data⟩ (by simp) rfl).2 rfl
      have h280 := G.h (j := 1) (d := 280) rfl (by decide) d1
      clear ho hd G
      exact step_pure (v := (.int .i64 xi)) (by clear hMw; go_simp; all_goals (have h0 := HC.out; omega))
    | 3 =>
      intro _ ho hd
      obtain rfl := (Option.some.inj ho).symm
      clear ho hd G
      exact step_pure (v := (.pointer (some ⟨X, 3, none⟩))) (by clear hMw; go_simp; all_goals (have h0 := HC.out; omega))
    | 4 =>
      intro _ ho hd
      obtain rfl := (Option.some.inj ho).symm
      have d3 : vs 3 = (.pointer (some ⟨X, 3, none⟩)) := (hd ⟨3, .data⟩ (by simp) rfl).2 rfl
      have h282 := G.h (j := 3) (d := 282) rfl (by decide) d3
      clear ho hd G
      exact step_pure (v := (.slice (some ⟨pb, po, none⟩) pl pc)) (by clear hMw; go_simp; all_goals (have h0 := HC.out; omega))
    | 5 =>
      intro _ ho hd
      obtain rfl := (Option.some.inj ho).symm
      have d4 : vs 4 = (.slice (some ⟨pb, po, none⟩) pl pc) := (hd ⟨4, .data⟩ (by simp) rfl).2 rfl
      have h283 := G.h (j := 4) (d := 283) rfl (by decide) d4
      clear ho hd G
      exact step_pure (v := (.pointer (some ⟨pb, po, none⟩))) (by clear hMw; go_simp; all_goals (have h0 := HC.out; omega))
    | 6 =>
      intro _ ho hd
      obtain rfl := (Option.some.inj ho).symm
      have d5 : vs 5 = (.pointer (some ⟨pb, po, none⟩)) := (hd ⟨5, .data⟩ (by simp) rfl).2 rfl
      have h284 := G.h (j := 5) (d := 284) rfl (by decide) d5
      clear ho hd G
      exact step_pure (v := (.agg #[.int .i64 comp, .slice va vl vc])) (by clear hMw; go_simp; all_goals (have h0 := HC.out; omega))
    | 7 => intro hS; exact Bool.noConfusion hS
    | 8 => intro hS; exact Bool.noConfusion hS
    | 9 => intro hS; exact Bool.noConfusion hS
    | 10 => intro hS; exact Bool.noConfusion hS
    | 11 => intro hS; exact Bool.noConfusion hS
    | 12 => intro hS; exact Bool.noConfusion hS
    | 13 => intro hS; exact Bool.noConfusion hS
    | n + 14 =>
      intro _ ho
      simp at ho
  · intro f' vs w' iq o A F hS hMw hfi ho hd
    have m20 : A.tmps[20]?.getD undef = (.pointer (some ⟨UB, 0, none⟩)) := F.m (by kernel_rfl) rfl
    have m22 : A.tmps[22]?.getD undef = (.pointer (some ⟨X, 0, none⟩)) := F.m (by kernel_rfl) rfl
    have G := F.light (n := 417) (by kernel_rfl)
    clear F
    obtain ⟨z, hMz⟩ := hMw
    revert hS hfi ho hd
    match iq with
    | 0 => intro hS; exact Bool.noConfusion hS
    | 1 => intro hS; exact Bool.noConfusion hS
    | 2 => intro hS; exact Bool.noConfusion hS
    | 3 => intro hS; exact Bool.noConfusion hS
    | 4 => intro hS; exact Bool.noConfusion hS
    | 5 => intro hS; exact Bool.noConfusion hS
    | 6 => intro hS; exact Bool.noConfusion hS
    | 7 =>
      intro _ hfi ho hd
      obtain rfl := (Option.some.inj ho).symm
      have d0 : vs 0 = (.agg #[.int .i64 uver, .slice uca ucl ucc, .slice uia uil uic, .int .i64 umost, .int .i64 ukept, .slice ula uln ulc]) := (hd ⟨0, .data⟩ (by simp) rfl).2 rfl
      have h279 := G.h (j := 0) (d := 279) rfl (by decide) d0
      have d2 : vs 2 = (.int .i64 xi) := (hd ⟨2, .data⟩ (by simp) rfl).2 rfl
      have h281 := G.h (j := 2) (d := 281) rfl (by decide) d2
      have d6 : vs 6 = (.agg #[.int .i64 comp, .slice va vl vc]) := (hd ⟨6, .data⟩ (by simp) rfl).2 rfl
      have h285 := G.h (j := 6) (d := 285) rfl (by decide) d6
      clear ho hd G
      have HMz := Lib.hid hMz
      have hcall := HU.out w' (HX5.out.below hMz.bel)
      clear hMz
      go_simp
      refine hcall.mono ?_
      rintro e w9 ⟨z', rfl, hr9, hb9⟩
      exact ⟨_, rfl, z', HMz.out.do7 hfi hr9 hb9⟩
    | 8 =>
      intro _ hfi ho hd
      obtain rfl := (Option.some.inj ho).symm
      have d7 : vs 7 = (.tuple #[.agg #[.int .i64 uver, .slice uca ucl ucc, .slice uia uil uic, .int .i64 umost, .int .i64 ukept, .slice z.la uln z.lc], .int .i64 q]) := (hMz.v7 (hd ⟨7, .data⟩ (by simp) rfl).1).1
      have h286 := G.h (j := 7) (d := 286) rfl (by decide) d7
      have hf7 := (hd ⟨7, .data⟩ (by simp) rfl).1
      clear ho hd G
      have HMz := Lib.hid hMz
      clear hMz
      exact wp_run (v := (.tuple #[.agg #[.int .i64 uver, .slice uca ucl ucc, .slice uia uil uic, .int .i64 umost, .int .i64 ukept, .slice z.la uln z.lc], .int .i64 q])) (by go_simp) ⟨_, rfl, z, HMz.out.do8 hfi hf7⟩
    | 9 =>
      intro _ hfi ho hd
      obtain rfl := (Option.some.inj ho).symm
      have d8 : vs 8 = (.tuple #[.agg #[.int .i64 uver, .slice uca ucl ucc, .slice uia uil uic, .int .i64 umost, .int .i64 ukept, .slice z.la uln z.lc], .int .i64 q]) := hMz.v8 (hd ⟨8, .data⟩ (by simp) rfl).1
      have h278 := G.h (j := 8) (d := 278) rfl (by decide) d8
      have hf8 := (hd ⟨8, .data⟩ (by simp) rfl).1
      clear ho hd G
      have HMz := Lib.hid hMz
      clear hMz
      exact wp_run (v := (.agg #[.int .i64 uver, .slice uca ucl ucc, .slice uia uil uic, .int .i64 umost, .int .i64 ukept, .slice z.la uln z.lc])) (by go_simp) ⟨_, rfl, z, HMz.out.do9 hfi hf8⟩
    | 10 =>
      intro _ hfi ho hd
      obtain rfl := (Option.some.inj ho).symm
      have d8 : vs 8 = (.tuple #[.agg #[.int .i64 uver, .slice uca ucl ucc, .slice uia uil uic, .int .i64 umost, .int .i64 ukept, .slice z.la uln z.lc], .int .i64 q]) := hMz.v8 (hd ⟨8, .data⟩ (by simp) rfl).1
      have h278 := G.h (j := 8) (d := 278) rfl (by decide) d8
      have hf8 := (hd ⟨8, .data⟩ (by simp) rfl).1
      clear ho hd G
      have HMz := Lib.hid hMz
      clear hMz
      exact wp_run (v := (.int .i64 q)) (by go_simp) ⟨_, rfl, z, HMz.out.do10 hfi hf8⟩
    | 11 =>
      intro _ hfi ho hd
      obtain rfl := (Option.some.inj ho).symm
      clear ho hd G
      have HMz := Lib.hid hMz
      clear hMz
      go_simp
      exact ⟨_, rfl, z, HMz.out.do11 hfi⟩
    | 12 =>
      intro _ hfi ho hd
      obtain rfl := (Option.some.inj ho).symm
      have d9 : vs 9 = (.agg #[.int .i64 uver, .slice uca ucl ucc, .slice uia uil uic, .int .i64 umost, .int .i64 ukept, .slice z.la uln z.lc]) := hMz.v9 (hd ⟨9, .data⟩ (by simp) rfl).1
      have h287 := G.h (j := 9) (d := 287) rfl (by decide) d9
      have hf9 := (hd ⟨9, .data⟩ (by simp) rfl).1
      have hf11 := (hd ⟨11, .data⟩ (by simp) rfl).1
      clear ho hd
      obtain ⟨p11, hv11, hN11, cs11, hb11, hs11⟩ := hMz.v11b hf11 hfi
      have h34 := G.h (j := 11) (d := 34) rfl (by decide) hv11
      clear G
      have f0 := free_at hb11 0
      have f1 := free_at hb11 1
      have f2 := free_at hb11 2
      have f3 := free_at hb11 3
      have f4 := free_at hb11 4
      have f5 := free_at hb11 5
      obtain ⟨y0, x0⟩ : ∃ y, w'.cell? ⟨p11, 0, none⟩ = some y := ⟨cs11[0], by rw [cell_at hb11, Array.getElem?_eq_getElem]⟩
      obtain ⟨y1, x1⟩ : ∃ y, w'.cell? ⟨p11, 1, none⟩ = some y := ⟨cs11[1], by rw [cell_at hb11, Array.getElem?_eq_getElem]⟩
      obtain ⟨y2, x2⟩ : ∃ y, w'.cell? ⟨p11, 2, none⟩ = some y := ⟨cs11[2], by rw [cell_at hb11, Array.getElem?_eq_getElem]⟩
      obtain ⟨y3, x3⟩ : ∃ y, w'.cell? ⟨p11, 3, none⟩ = some y := ⟨cs11[3], by rw [cell_at hb11, Array.getElem?_eq_getElem]⟩
      obtain ⟨y4, x4⟩ : ∃ y, w'.cell? ⟨p11, 4, none⟩ = some y := ⟨cs11[4], by rw [cell_at hb11, Array.getElem?_eq_getElem]⟩
      obtain ⟨y5, x5⟩ : ∃ y, w'.cell? ⟨p11, 5, none⟩ = some y := ⟨cs11[5], by rw [cell_at hb11, Array.getElem?_eq_getElem]⟩
      have HD := Lib.hid (hMz.do12 hfi hf9 hf11 hv11 hN11 hb11 hs11 ⟨uver, uca, ucl, ucc, uia, uil, uic, umost, ukept, z.la, uln, z.lc⟩ rfl (fun h => mutU_box hb11) (v := undef))
      have hlt := lt_some hb11
      clear hMz hb11 hs11
      unfold setU at HD
      dsimp only at HD
      go_simp
      exact ⟨undef, z, HD.out⟩
    | 13 =>
      intro _ hfi ho hd
      obtain rfl := (Option.some.inj ho).symm
      have d10 : vs 10 = (.int .i64 q) := hMz.v10 (hd ⟨10, .data⟩ (by simp) rfl).1
      have h288 := G.h (j := 10) (d := 288) rfl (by decide) d10
      clear ho hd G
      have HMz := Lib.hid hMz
      clear hMz
      exact wp_run (v := (.int .i64 q)) (by go_simp) ⟨_, rfl, z, HMz.out.do13 hfi ⟩
    | n + 14 =>
      intro _ _ ho
      simp at ho
  rintro vs43 w6 ⟨z, hMz⟩ hcs
  obtain ⟨q11, d11, hU11, cs11, hq11, hsz11, hcs11⟩ := hMz.v11 rfl
  have hcq := hcs11 rfl
  rw [hcq] at hq11
  have d13 : vs43 13 = .int .i64 q := hMz.v13 rfl
  have HS3 := Lib.hid hq11
  have HB3 := Lib.hid hMz.bel
  have HR3 := Lib.hid (hMz.v7 rfl).2
  clear hMz hcs hq11 hcs11 hsz11 hcq
  simp only [putAll, Act.put, List.setIfInBounds_toArray, List.set_cons_succ, List.set_cons_zero, Nat.zero_add, Nat.reduceAdd]
  rw [d11, d13]
  clear d11 d13
  generalize w6 = W3 at *
  have HX6 := Lib.hid (HX5.out.below HB3.out)
  have HA6 := Lib.hid (keep HB3.out HA5.out)
  have a0 := cell_at HS3.out 0
  have a1 := cell_at HS3.out 1
  have a2 := cell_at HS3.out 2
  have a3 := cell_at HS3.out 3
  have a4 := cell_at HS3.out 4
  have a5 := cell_at HS3.out 5
  simp at a0 a1 a2 a3 a4 a5
  have hql := lt_some HS3.out
  obtain ⟨c0, c1, c2, c3, c4, c5, hul⟩ := HX6.out.cells
  dsimp only at c0 c1 c2 c3 c4 c5
  have g0 := free_at HX6.out.ub 0
  have g1 := free_at HX6.out.ub 1
  have g2 := free_at HX6.out.ub 2
  have g3 := free_at HX6.out.ub 3
  have g4 := free_at HX6.out.ub 4
  have g5 := free_at HX6.out.ub 5
  clear HX5 HA5 HCEL HCEL5 HT HU
  go_wp2_with fail
  obtain ⟨h, hm, hx, hK⟩ := HH.out
  have hfin : XP w0 UB ver a len cap cs set B t1 V1 ⟨uver, uca, ucl, ucc, uia, uil, uic, umost, ukept, z.la, uln, z.lc⟩ (rs1 z) (setU W3 UB ⟨uver, uca, ucl, ucc, uia, uil, uic, umost, ukept, z.la, uln, z.lc⟩) := XP.put (u' := ⟨uver, uca, ucl, ucc, uia, uil, uic, umost, ukept, z.la, uln, z.lc⟩) HX6.out HR3.out ⟨rfl, rfl, rfl⟩ h.con
  have hmr : MatchR t1 V1 ⟨uver, uca, ucl, ucc, uia, uil, uic, umost, ukept, z.la, uln, z.lc⟩ (rs1 z) := hm z
  have hkx := setU_keep (u := ⟨uver, uca, ucl, ucc, uia, uil, uic, umost, ukept, z.la, uln, z.lc⟩) (b := UB) HA6.out (fun e => by
    have h1 := HA6.out
    rw [e, HX6.out.ub] at h1
    cases h1)
  show K _ (setU W3 UB ⟨uver, uca, ucl, ucc, uia, uil, uic, umost, ukept, z.la, uln, z.lc⟩)
  refine hK _ _ t1 V1 ⟨uver, uca, ucl, ucc, uia, uil, uic, umost, ukept, z.la, uln, z.lc⟩ (rs1 z) hfin hmr ?_ hkx ?_
  · rw [HTB.out]; rfl
  · unfold frX
    rw [HF.out.2.1, HF.out.2.2.1, HF.out.2.2.2]
    rfl
end
end Go.Proofs.YtoadihebdaooaaaGreat
