/- GraphExact: the walk, a deed and what is asked behind it. -/
import Derived.Test.YtoadihebdaooaaaGreatR16
import Derived.Test.YtoadihebdaooaaaGreatH6
namespace Go.Proofs.YtoadihebdaooaaaGreat
open Go.RowKit
set_option linter.unusedVariables false
theorem ne_self_i (x : Int) : (x != x) = false := by simp
/-- What the loop carries. -/
theorem fldSch (w : World) : Sem.run Tryz.prog (Instr.field 24 (.agg #[.int .i64 0, .slice none 0 0]) 1) w = .ok (.slice none 0 0) w := by kernel_rfl
def mskL : List Bool := [false, false, false, false, false, false, false, false, true, true, false, false, false, false, false, false, false, true, true, true, true, true, true, true, true, true, true, true, true, true, true, true, true, true, false, false, false, false, false, false, false, false, false, false, false, false, false, false, false, false, false, false, false, false, false, false, false, false, false, false, false, false, false, false, false, false, false, false, false, false, false, false, false, false, false, false, false, false, false, false, false, false, false, false, false, false, false, false, false, false, false, false, false, false, false, false, false, false, false, false, false, false, false, false, false, false, false, false, false, false, false, false, false, false, false, false, false, false, false, false, false, false, false, false, false, false, false, false, false, false, false, false, false, false, false, false, true, true, true, true, true, true, true, true, true, true, true, true, true, true, true, true, true, true, true, true, true, true, true, true, true, true, true, true, true, true, true, true, true, true, true, true, true, true, true, true, true, true, true, true, true, true, true, true, true, true, true, true, true, true, true, true, true, true, true, true, true, true, true, true, true, true, true, true, true, true, true, true, true, true, true, true, true, true, true, true, true, true, true, true, true, true, true, true, true, true, true, true, true, true, true, true, true, true, true, true, true, true, true, true, true, true, true, true, true, true, true, true, true, true, true, true, true, true, true, true, true, true, true, true, true, true, true, true, true, true, true, true, true, true, true, true, true, true, true, true, true, true, true, true, true, true, true, true, true, true, true, true, true, true, true, true, true, true, true, true, true, true, true, true, true, true, true, true, true, true, true, true, true, true, true, true, true, true, true, true, true, true, true, true, true, true, true, true, true, true, true, true, true, true, true, true, true, true, true, true, true, true, true, true, true, true, true, true, true, true, true, true, true, true, true, true, true, true, true, true, true, true, true, true, true, true, true, true, true, true, true, true, true, true, true, true, true, true, false, false, false, false]
def mskD : List Bool := [false, false, false, false, false, false, false, false, true, true, false, false, false, false, false, false, false, false, false, true, true, true, true, true, true, true, true, true, false, false, false, false, false, false, false, false, false, false, false, false, false, false, false, false, false, false, false, false, false, false, false, false, false, false, false, false, false, false, false, false, false, false, false, false, false, false, false, false, false, false, false, false, false, false, false, false, false, false, false, false, false, false, false, false, false, false, false, false, false, false, false, false, false, false, false, false, false, false, false, false, false, false, false, false, false, false, false, false, false, false, false, false, false, false, false, false, false, false, false, false, false, false, false, false, false, false, false, false, false, false, false, false, false, false, false, false, true, true, true, true, true, true, true, true, true, true, true, true, true, true, true, true, true, true, true, true, true, true, true, true, true, true, true, true, true, true, true, true, true, true, true, true, true, true, true, true, true, true, true, true, true, true, true, true, true, true, true, true, true, true, true, true, true, true, true, true, true, true, true, true, true, true, true, true, true, true, true, true, true, true, true, true, true, true, true, true, true, true, true, true, true, true, true, true, true, true, true, true, true, true, true, true, true, true, true, true, true, true, true, true, true, true, true, true, true, true, true, true, true, true, true, true, true, true, true, true, true, true, true, true, true, true, true, true, true, true, true, true, true, true, true, true, true, true, true, true, true, true, true, true, true, true, true, true, true, true, true, true, true, true, true, true, true, true, true, true, true, true, true, true, true, true, true, true, true, true, true, true, true, true, true, true, true, true, true, true, true, true, true, true, true, true, true, true, true, true, true, true, true, true, true, true, true, true, true, true, true, true, true, true, true, true, true, true, true, true, true, true, true, true, true, true, true, true, true, true, true, true, true, true, true, true, true, true, true, true, true, true, true, true, true, true, true, true, false, false, false, false]
def mskQ : List Bool := [false, false, false, false, false, false, false, false, false, false, false, false, false, false, false, false, false, false, false, false, false, false, false, false, false, false, false, false, false, true, true, true, false, false, false, false, false, false, false, false, false, false, false, false, false, false, false, false, false, false, false, false, false, false, false, false, false, false, false, false, false, false, false, false, false, false, false, false, false, false, false, false, false, false, false, false, false, false, false, false, false, false, false, false, false, false, false, false, false, false, false, false, false, false, false, false, false, false, false, false, false, false, false, false, false, false, false, false, false, false, false, false, false, false, false, false, false, false, false, false, false, false, false, false, false, false, false, false, false, false, false, false, false, false, false, false, false, false, false, false, false, false, false, false, false, false, false, false, false, false, false, false, false, false, false, false, false, false, false, false, false, false, false, false, false, false, false, false, false, false, false, false, false, false, false, false, false, false, false, false, false, false, false, false, false, false, false, false, false, false, false, false, false, false, false, false, false, false, false, false, false, false, false, false, false, false, false, false, false, false, false, false, false, false, false, false, false, false, false, false, false, false, false, false, false, false, false, false, false, true, true, true, true, true, true, true, true, true, true, true, true, true, true, true, true, true, true, true, true, true, true, true, true, true, true, true, true, true, true, true, true, true, true, true, true, true, true, true, true, true, true, true, true, true, true, true, true, true, true, true, true, true, true, true, true, true, true, true, true, true, true, true, true, true, true, true, true, true, true, true, true, true, true, true, true, true, true, true, true, true, true, true, true, true, true, true, true, true, true, true, true, true, true, false, false, false, false, false, false, false, false, false, false, false, false, false, false, false, false, false, false, false, false, false, false, false, false, false, false, false, false, false, false, false, false, false, false, false, false, false, false, false, false, false, false, false, false, false, false, false, false, false, false, false, false, false, false, false]
def mskT : List Bool := [false, false, false, false, false, false, false, false, true, false, false, false, false, false, false, false, false, false, false, false, false, false, false, false, false, false, false, false, false, false, false, false, true, true, false, false, false, false, false, false, false, false, false, false, false, false, false, false, false, false, false, false, false, false, false, false, false, false, false, false, false, false, false, false, false, false, false, false, false, false, false, false, false, false, false, false, false, false, false, false, false, false, false, false, false, false, false, false, false, false, false, false, false, false, false, false, false, false, false, false, false, false, false, false, false, false, false, false, false, false, false, false, false, false, false, false, false, false, false, false, false, false, false, false, false, false, false, false, false, false, false, false, false, false, false, false, false, false, false, false, false, false, false, false, false, false, false, false, false, false, false, false, false, false, false, false, false, false, false, false, false, false, false, false, false, false, false, false, false, false, false, false, false, false, false, false, false, false, false, false, false, false, false, false, false, false, false, false, false, false, false, false, false, false, false, false, false, false, false, false, false, false, false, false, false, false, false, false, false, false, false, false, false, false, false, false, false, false, false, false, false, false, false, false, false, false, false, false, false, false, false, false, false, false, false, false, false, false, false, false, false, false, false, false, false, false, false, false, false, false, false, false, false, false, false, false, false, false, false, false, false, false, false, false, false, false, false, false, false, false, false, false, false, false, false, false, false, false, false, false, false, false, false, false, false, false, false, false, false, false, false, false, false, false, false, false, false, false, false, false, false, false, false, false, false, false, false, false, false, false, false, false, false, false, false, false, false, false, false, false, false, false, false, true, true, true, true, true, true, true, true, true, true, true, true, true, true, true, true, true, true, true, true, true, true, true, true, true, true, true, true, true, true, true, true, true, true, true, true, true, true, true, true, true, false, false, false, false, false, false, false, false, false, false, false, false, false, false]
/-- What the end's region draws. -/
def IsSch (ver : Int) (cs : List Cmp) (len : Nat) : Value → World → Prop := fun v w => ∃ va vc, v = .agg #[.int .i64 ver, .slice va len vc] ∧ CompsAt w.heap.size w va len cs
theorem lasts_sch (ver : Int) (cs : List Cmp) (len : Nat) : Lasts (IsSch ver cs len) := fun _ _ _ ⟨va, vc, hv, hc⟩ hb => ⟨va, vc, hv, (hc.below hb).mono hb.size⟩
def finR (gb : Nat) (ver : Int) (cs : List Cmp) (a : Option Addr) (len cap : Nat) : List (Value → World → Prop) :=
  [IsV (.pointer (some ⟨gb, 0, none⟩)), IsSch ver cs len, IsV (.agg #[.int .i64 ver, .slice a len cap]), IsV (.bool true), IsV (.bool true)]
theorem finR_lasts (gb : Nat) (ver : Int) (cs : List Cmp) (a : Option Addr) (len cap : Nat) : ∀ p ∈ finR gb ver cs a len cap, Lasts p := by
  simp only [finR, List.mem_cons, List.not_mem_nil, or_false]
  rintro p (rfl | rfl | rfl | rfl | rfl)
  all_goals first | exact lasts_v _ | exact lasts_sch _ _ _
theorem Graph.tabs {B1 gb : Nat} {g : GS} {w : World} (h : Graph B1 gb g w) {t : Nat × Int} (ht : t ∈ g.ts) : TableAt w t.1 g.ver t.2 g.rows ∧ 0 ≤ t.2 ∧ t.2 ≤ 4294967295 := by
  obtain ⟨mb, wb, ca, cl, cc, ta, tc, bs, ws, h⟩ := h
  exact h.tab t ht
theorem quiet_drew {P : Program} {f : FuncId} {args : Array Value} {w : World} {n : Nat} {v : Value} (h : Calls P f args (w.drewN n) fun e w' => e = .returned v ∧ ∃ k, w' = (w.drewN n).drewN k) :
    Calls P f args (w.drewN n) fun e w'' => e = .returned v ∧ ∃ m, w'' = w.drewN m := h.mono fun _ _ ⟨he, k, hm⟩ => ⟨he, n + k, by rw [hm, World.drewN_drewN]⟩
--<ask
def askN (archs : Int) (ub xb gb3 : Nat) (g3 : GS) (r3 : RG) (x : Act) (va : Option Addr) (vc : Nat) (la : Option Addr) (lc : Nat) (wa : Option Addr) (wcc : Nat) : List (Value → World → Prop) :=
  [IsV (.slice va g3.ts.length vc),
   IsV (.int .i64 (g3.ts.length : Int)),
   IsV (.pointer (some ⟨ub, 0, none⟩)),
   IsV (.pointer (some ⟨ub, 0, none⟩)),
   IsV (.pointer (some ⟨ub, 3, none⟩)),
   IsV (.slice la g3.ts.length lc),
   IsV (.int .i64 (g3.ts.length : Int)),
   IsV (.bool false),
   IsV (.bool false),
   IsV (.pointer (some ⟨gb3, 0, none⟩)),
   IsV (.int .i64 (g3.ts.length : Int)),
   IsV (.pointer (some ⟨ub, 0, none⟩)),
   IsV (.pointer (some ⟨ub, 0, none⟩)),
   IsV (.pointer (some ⟨ub, 3, none⟩)),
   IsV (.slice la g3.ts.length lc),
   IsV (.int .i64 (g3.ts.length : Int)),
   IsV (.bool false),
   IsV (.bool false),
   IsV (.bool false),
   IsV (.pointer (some ⟨gb3, 0, none⟩)),
   IsV (.int .i64 (archs - (g3.ts.length : Int))),
   IsV (.int .i64 archs),
   IsV (.pointer (some ⟨ub, 0, none⟩)),
   IsV (.pointer (some ⟨ub, 0, none⟩)),
   IsV (.pointer (some ⟨ub, 3, none⟩)),
   IsV (.slice la g3.ts.length lc),
   IsV (.int .i64 (g3.ts.length : Int)),
   IsV (.int .i64 (archs - (g3.ts.length : Int))),
   IsV (.bool false),
   IsV (.bool false),
   IsV (.bool false),
   IsV (.pointer (some ⟨gb3, 0, none⟩)),
   IsV (.int .i64 (g3.nw : Int)),
   IsV (.pointer (some ⟨ub, 0, none⟩)),
   IsV (.pointer (some ⟨ub, 0, none⟩)),
   IsV (.pointer (some ⟨ub, 4, none⟩)),
   IsV (.slice wa g3.nw wcc),
   IsV (.int .i64 (g3.nw : Int)),
   IsV (.bool false),
   IsV (.bool false),
   IsV (.bool false),
   IsV (.bool false),
   IsV (.int .i64 (-1)),
   IsV (.bool false),
   IsV (.bool false),
   IsV (.bool false),
   IsV (.bool false),
   IsV (.bool false),
   IsV (.bool false),
   IsV undef,
   IsV undef,
   IsV undef,
   IsV (.bool false),
   IsV (.bool false),
   IsV (.bool false),
   IsV (.bool false),
   IsV (.bool true),
   IsV (.bool true),
   IsV (.int .i64 0),
   IsV (.bool false),
   IsV (.bool false),
   IsV (.bool false),
   IsV (.bool false),
   IsV (.pointer (some ⟨gb3, 0, none⟩)),
   IsV (.pointer (some ⟨xb, 2, none⟩)),
   IsV (.int .i64 x.i),
   IsV (.pointer (some ⟨xb, 3, none⟩)),
   IsV (.int .i64 x.comp),
   IsV (.pointer (some ⟨xb, 4, none⟩)),
   IsV (.bool x.add),
   IsV (.bool (knowsB r3.W (x.i, x.comp, x.add))),
   IsV (.pointer (some ⟨ub, 0, none⟩)),
   IsV (.pointer (some ⟨xb, 2, none⟩)),
   IsV (.int .i64 x.i),
   IsV (.pointer (some ⟨xb, 3, none⟩)),
   IsV (.int .i64 x.comp),
   IsV (.pointer (some ⟨xb, 4, none⟩)),
   IsV (.bool x.add),
   IsV (.agg #[.int .i64 x.i, .int .i64 x.comp, .bool x.add]),
   IsV (.bool (knowsB r3.W (x.i, x.comp, x.add))),
   IsV (.bool false),
   IsV (.bool false)]
theorem askN_lasts (archs : Int) (ub xb gb3 : Nat) (g3 : GS) (r3 : RG) (x : Act) (va : Option Addr) (vc : Nat) (la : Option Addr) (lc : Nat) (wa : Option Addr) (wcc : Nat) : ∀ p ∈ askN archs ub xb gb3 g3 r3 x va vc la lc wa wcc, Lasts p := by
  simp only [askN, List.mem_cons, List.not_mem_nil, or_false]
  rintro p hp
  repeat (rcases hp with rfl | hp; exact lasts_v _)
def askY (archs : Int) (ub xb gb3 : Nat) (g3 : GS) (r3 : RG) (x : Act) (va : Option Addr) (vc : Nat) (la : Option Addr) (lc : Nat) (wa : Option Addr) (wcc : Nat) (i : Nat) : List (Value → World → Prop) :=
  [IsV (.slice va g3.ts.length vc),
   IsV (.int .i64 (g3.ts.length : Int)),
   IsV (.pointer (some ⟨ub, 0, none⟩)),
   IsV (.pointer (some ⟨ub, 0, none⟩)),
   IsV (.pointer (some ⟨ub, 3, none⟩)),
   IsV (.slice la g3.ts.length lc),
   IsV (.int .i64 (g3.ts.length : Int)),
   IsV (.bool false),
   IsV (.bool false),
   IsV (.pointer (some ⟨gb3, 0, none⟩)),
   IsV (.int .i64 (g3.ts.length : Int)),
   IsV (.pointer (some ⟨ub, 0, none⟩)),
   IsV (.pointer (some ⟨ub, 0, none⟩)),
   IsV (.pointer (some ⟨ub, 3, none⟩)),
   IsV (.slice la g3.ts.length lc),
   IsV (.int .i64 (g3.ts.length : Int)),
   IsV (.bool false),
   IsV (.bool false),
   IsV (.bool false),
   IsV (.pointer (some ⟨gb3, 0, none⟩)),
   IsV (.int .i64 (archs - (g3.ts.length : Int))),
   IsV (.int .i64 archs),
   IsV (.pointer (some ⟨ub, 0, none⟩)),
   IsV (.pointer (some ⟨ub, 0, none⟩)),
   IsV (.pointer (some ⟨ub, 3, none⟩)),
   IsV (.slice la g3.ts.length lc),
   IsV (.int .i64 (g3.ts.length : Int)),
   IsV (.int .i64 (archs - (g3.ts.length : Int))),
   IsV (.bool false),
   IsV (.bool false),
   IsV (.bool false),
   IsV (.pointer (some ⟨gb3, 0, none⟩)),
   IsV (.int .i64 (g3.nw : Int)),
   IsV (.pointer (some ⟨ub, 0, none⟩)),
   IsV (.pointer (some ⟨ub, 0, none⟩)),
   IsV (.pointer (some ⟨ub, 4, none⟩)),
   IsV (.slice wa g3.nw wcc),
   IsV (.int .i64 (g3.nw : Int)),
   IsV (.bool false),
   IsV (.bool false),
   IsV (.bool false),
   IsV (.bool true),
   IsV (.int .i64 (i : Int)),
   IsV (.bool true),
   IsV (.bool false),
   IsV (.bool false),
   IsV (.bool false),
   IsV (.bool true),
   IsV (.bool true),
   IsV (.int .i64 (i : Int)),
   IsV (.int .i64 (i : Int)),
   IsV (.bool false),
   IsV (.bool false),
   IsV (.bool false),
   IsV (.bool false),
   IsV (.bool true),
   IsV (.bool false),
   IsV (.bool false),
   IsV undef,
   IsV undef,
   IsV (.bool false),
   IsV (.bool false),
   IsV (.bool false),
   IsV (.pointer (some ⟨gb3, 0, none⟩)),
   IsV (.pointer (some ⟨xb, 2, none⟩)),
   IsV (.int .i64 x.i),
   IsV (.pointer (some ⟨xb, 3, none⟩)),
   IsV (.int .i64 x.comp),
   IsV (.pointer (some ⟨xb, 4, none⟩)),
   IsV (.bool x.add),
   IsV (.bool (knowsB r3.W (x.i, x.comp, x.add))),
   IsV (.pointer (some ⟨ub, 0, none⟩)),
   IsV (.pointer (some ⟨xb, 2, none⟩)),
   IsV (.int .i64 x.i),
   IsV (.pointer (some ⟨xb, 3, none⟩)),
   IsV (.int .i64 x.comp),
   IsV (.pointer (some ⟨xb, 4, none⟩)),
   IsV (.bool x.add),
   IsV (.agg #[.int .i64 x.i, .int .i64 x.comp, .bool x.add]),
   IsV (.bool (knowsB r3.W (x.i, x.comp, x.add))),
   IsV (.bool false),
   IsV (.bool false)]
theorem askY_lasts (archs : Int) (ub xb gb3 : Nat) (g3 : GS) (r3 : RG) (x : Act) (va : Option Addr) (vc : Nat) (la : Option Addr) (lc : Nat) (wa : Option Addr) (wcc : Nat) (i : Nat) : ∀ p ∈ askY archs ub xb gb3 g3 r3 x va vc la lc wa wcc i, Lasts p := by
  simp only [askY, List.mem_cons, List.not_mem_nil, or_false]
  rintro p hp
  repeat (rcases hp with rfl | hp; exact lasts_v _)
-->ask
def LI (n : Nat) (w : World) (ver archs rows : Int) (cs : List Cmp) (a : Option Addr) (len cap ub len2 : Nat) (gp i : Value) (wr : World) : Prop :=
  ∃ (k B1 gb : Nat) (g : GS) (r : RG), n + k = len2 ∧ i = .int .i64 k ∧ gp = .pointer (some ⟨gb, 0, none⟩) ∧ LS w ver archs rows cs a len cap ub B1 gb g r wr ∧ g.nw ≤ 3 * k
def LD (w : World) (ver archs rows : Int) (cs : List Cmp) (a : Option Addr) (len cap ub : Nat) (x : Act) (xb k : Nat) (gp : Value) (wr : World) : Prop :=
  ∃ (B1 gb : Nat) (g : GS) (r : RG), gp = .pointer (some ⟨gb, 0, none⟩) ∧ LS w ver archs rows cs a len cap ub B1 gb g r wr ∧ g.nw ≤ 3 * k + 3 ∧ wr.heap[xb]? = some (.cells #[.int .i64 x.kind, .int .u32 x.set, .int .i64 x.i, .int .i64 x.comp, .bool x.add] 53 (0, 0))
set_option maxRecDepth 100000 in
set_option maxHeartbeats 16000000 in
theorem exact_walk (ver archs rows : Int) (cs : List Cmp) (a : Option Addr) (len cap : Nat) (l : List Act) (a2 : Option Addr) (len2 cap2 : Nat) (w : World) (hcs : CompsAt w.heap.size w a len cs) (hw : CompsWf cs) (hn : a = none → len = 0 ∧ cap = 0)
    (hl : ActsAt w.heap.size w a2 len2 l) (ha : I64 archs) (hr : I64 rows) :
    Calls Tryz.prog 3 #[.agg #[.int .i64 ver, .slice a len cap], .int .i64 archs, .int .i64 rows, .slice a2 len2 cap2] w fun e w' => e = .returned (.bool true) ∧ Below w.heap.size w w' := by
  have hbel0 : Below w.heap.size w (w.alloc (.cells #[.int .i64 ver, .slice a len cap] 24)) := by go_grown
  have hlm := hl.2.1
  unfold maxLen at hlm
  go_enter Tryz.func3, Tryz.ntmps3
  go_wp2_with fail
  refine (awake_any _).mono ?_
  rintro e w1 ⟨rfl, hb1⟩
  have hs1 := keep hb1 (heap_alloc_new w (.cells #[.int .i64 ver, .slice a len cap] 24))
  have s0 := cell_at hs1 0
  have s1 := cell_at hs1 1
  simp at s0 s1
  have hbel1 : Below w.heap.size w w1 := hbel0.trans (hb1.mono hbel0.size)
  clear hb1
  go_wp2_with fail
  refine (great_any ver cs _ _ _ _ ((hcs.below hbel1).mono hbel1.size)).mono ?_
  rintro e w2 ⟨rfl, hb2⟩
  have hs2 := keep hb2 hs1
  have t0 := cell_at hs2 0
  have t1 := cell_at hs2 1
  simp at t0 t1
  have hbel2 : Below w.heap.size w w2 := hbel1.trans (hb2.mono hbel1.size)
  clear hb2 hs1 s0 s1
  cases hg : greatB cs
  · by_cases h100 : 100 < len2
    · clear hg
      go_wp2_with fail
      go_returns
      exact ⟨rfl, hbel2⟩
    · have hgl : len ≤ 30 ∧ ∀ c ∈ cs, c.fields.length ≤ 12 := by
        simp [greatB] at hg
        exact ⟨by have := hcs.1; omega, fun c hc => by have := hg.2 c hc; omega⟩
      have HGL := Lib.hid hgl
      clear hgl hg
      have ha1 := ha.1
      have ha2 := ha.2
      have hr1 := hr.1
      have hr2 := hr.2
      go_wp2_with fail
      refine (graphNew_any ver cs _ _ _ _ _ _ ((hcs.below hbel2).mono hbel2.size) hw (by have := HGL.out.1; omega) (fun c hc => by have := HGL.out.2 c hc; omega) hn).mono ?_
      rintro e w3 ⟨hb3, hnew⟩
      have hbel3 : Below w.heap.size w w3 := hbel2.trans (hb3.mono hbel2.size)
      have hs3 := keep hb3 hs2
      have u0 := cell_at hs3 0
      have u1 := cell_at hs3 1
      simp at u0 u1
      have HSZ := Lib.hid hbel2.size
      clear hb3 hs2 t0 t1 hbel2 hbel1 hbel0
      obtain ⟨gp, rfl, hgp⟩ : ∃ gp, e = .returned gp ∧ (if newOk ver cs archs rows then ∃ B1 gb, gp = .pointer (some ⟨gb, 0, none⟩) ∧ w.heap.size ≤ B1 ∧ Graph B1 gb (GS0 ver cs archs rows) w3 else gp = .pointer none) := by
        by_cases hq : newOk ver cs archs rows = true
        · rw [if_pos hq] at hnew
          obtain ⟨B1, gb, rfl, hB, hG⟩ := hnew
          refine ⟨_, rfl, ?_⟩
          rw [if_pos hq]; exact ⟨B1, gb, rfl, Nat.le_trans HSZ.out hB, hG⟩
        · rw [if_neg hq] at hnew
          subst hnew
          refine ⟨_, rfl, ?_⟩
          rw [if_neg hq]
      have HGP := Lib.hid hgp
      clear hgp hnew
      go_upto_region 6 with (fail)
      go_cut [65] (fun s wx => s = .bool (!newOk ver cs archs rows) ∧ Below w3.heap.size w3 wx)
      case first =>
        as_aux_lemma =>
          go_wp2_with fail
          refine (check07_any ver cs _ _ _ _ ((hcs.below hbel3).mono hbel3.size) hw).mono ?_
          rintro e w4 ⟨rfl, hb4⟩
          have HB4 := Lib.hid hb4
          clear hb4
          by_cases hk : schemaCheck ver cs = 0
          · have e1 : (schemaCheck ver cs != 0) = false := by simp [hk]
            have HK := Lib.hid hk
            clear hk
            rcases (by omega : archs < 1 ∨ (1 ≤ archs ∧ 64 < archs) ∨ (1 ≤ archs ∧ archs ≤ 64 ∧ rows < 1) ∨ (1 ≤ archs ∧ archs ≤ 64 ∧ 1 ≤ rows ∧ 256 < rows) ∨ (1 ≤ archs ∧ archs ≤ 64 ∧ 1 ≤ rows ∧ rows ≤ 256)) with h | ⟨h, j⟩ | ⟨h, j, m⟩ | ⟨h, j, m, q⟩ | ⟨h, j, m, q⟩
            · have HN : Hid (newOk ver cs archs rows = false) := Lib.hid (by simp [newOk]; omega)
              have e2 : decide (archs < 1) = true := by simp; omega
              go_wp2_with fail
              go_meet
              exact ⟨by rw [HN.out]; rfl, HB4.out⟩
            · have HN : Hid (newOk ver cs archs rows = false) := Lib.hid (by simp [newOk]; omega)
              have e2 : decide (archs < 1) = false := by simp; omega
              have e3 : decide (64 < archs) = true := by simp; omega
              go_wp2_with fail
              go_meet
              exact ⟨by rw [HN.out]; rfl, HB4.out⟩
            · have HN : Hid (newOk ver cs archs rows = false) := Lib.hid (by simp [newOk]; omega)
              have e2 : decide (archs < 1) = false := by simp; omega
              have e3 : decide (64 < archs) = false := by simp; omega
              have e4 : decide (rows < 1) = true := by simp; omega
              go_wp2_with fail
              go_meet
              exact ⟨by rw [HN.out]; rfl, HB4.out⟩
            · have HN : Hid (newOk ver cs archs rows = false) := Lib.hid (by simp [newOk]; omega)
              have e2 : decide (archs < 1) = false := by simp; omega
              have e3 : decide (64 < archs) = false := by simp; omega
              have e4 : decide (rows < 1) = false := by simp; omega
              have e5 : decide (256 < rows) = true := by simp; omega
              go_wp2_with fail
              go_meet
              exact ⟨by rw [HN.out]; rfl, HB4.out⟩
            · have HN : Hid (newOk ver cs archs rows = true) := Lib.hid (by simp [newOk, HK.out]; omega)
              have e2 : decide (archs < 1) = false := by simp; omega
              have e3 : decide (64 < archs) = false := by simp; omega
              have e4 : decide (rows < 1) = false := by simp; omega
              have e5 : decide (256 < rows) = false := by simp; omega
              go_wp2_with fail
              go_meet
              exact ⟨by rw [HN.out]; rfl, HB4.out⟩
          · have e1 : (schemaCheck ver cs != 0) = true := by simp [hk]
            have HN : Hid (newOk ver cs archs rows = false) := Lib.hid (by simp [newOk, hk])
            clear hk
            go_wp2_with fail
            go_meet
            exact ⟨by rw [HN.out]; rfl, HB4.out⟩
      case rest =>
        obtain ⟨rfl, hbc⟩ := hcut
        have hsc := keep hbc hs3
        have c0 := cell_at hsc 0
        have c1 := cell_at hsc 1
        simp at c0 c1
        have hbelc : Below w.heap.size w wc := hbel3.trans (hbc.mono hbel3.size)
        cases hok : newOk ver cs archs rows
        · obtain rfl : gp = .pointer none := by have := HGP.out; rw [hok] at this; exact this
          clear hok
          as_aux_lemma =>
            have hfld := fldSch
            go_wp2_with fail
            refine (gmake_nil _ _).mono ?_
            rintro e w' ⟨rfl, rfl⟩
            go_wp2_with fail
            refine (gstep_nil _ _ _ _).mono ?_
            rintro e w5 ⟨rfl, hb5⟩
            have hbel5 : Below w.heap.size w w5 := hbelc.trans (hb5.mono hbelc.size)
            clear hb5 hbelc hbc hbel3 c0 c1 hsc
            go_wp2_with fail
            refine (gfind_nil _ _).mono ?_
            rintro e w' ⟨rfl, rfl⟩
            go_wp2_with fail
            refine (glen_nil _).mono ?_
            rintro e w' ⟨rfl, rfl⟩
            go_wp2_with fail
            refine (groom_nil _).mono ?_
            rintro e w' ⟨rfl, rfl⟩
            go_wp2_with fail
            refine (gways_nil _).mono ?_
            rintro e w' ⟨rfl, rfl⟩
            go_wp2_with fail
            refine (gsigs_nil _).mono ?_
            rintro e w' ⟨rfl, rfl⟩
            go_wp2_with fail
            refine (gtable_nil _ _).mono ?_
            rintro e w' ⟨rfl, rfl⟩
            go_wp2_with fail
            refine (gknows_nil _ _ _ _).mono ?_
            rintro e w6 ⟨rfl, hb6⟩
            have hbel6 : Below w.heap.size w w6 := hbel5.trans (hb6.mono hbel5.size)
            clear hb6 hbel5
            go_wp2_with fail
            refine (gclone_nil _).mono ?_
            rintro e w' ⟨rfl, rfl⟩
            go_wp2_with fail
            refine (gschema_nil _).mono ?_
            rintro e w7 ⟨rfl, hb7⟩
            have hbel7 : Below w.heap.size w w7 := hbel6.trans (hb7.mono hbel6.size)
            clear hb7 hbel6
            go_wp2_with fail
            go_returns
            exact ⟨rfl, hbel7⟩
        · have hgp := HGP.out
          rw [hok] at hgp
          obtain ⟨B1, gb, rfl, hB, hG⟩ := hgp
          have hokk : schemaCheck ver cs = 0 ∧ 1 ≤ archs ∧ archs ≤ 64 ∧ 1 ≤ rows ∧ rows ≤ 256 := by simp [newOk] at hok; omega
          obtain ⟨hk0, ha3, ha4, hr3, hr4⟩ := hokk
          have hLS : LS w ver archs rows cs a len cap wc.heap.size B1 gb (GS0 ver cs archs rows) ⟨ver, archs, cs, [], []⟩ (wc.alloc (.cells #[.int .i64 ver, .slice a len cap, .int .i64 archs, .slice none 0 0, .slice none 0 0] 51)) := by
            have hbA := hbelc.alloc hbelc.size (.cells #[.int .i64 ver, .slice a len cap, .int .i64 archs, .slice none 0 0, .slice none 0 0] 51)
            refine ⟨(hG.below hbc).below (by go_grown), ⟨a, len, cap, none, 0, none, 0, ⟨heap_alloc_new wc _, hcs.below hbA, World.ownsRow_nil _ _ _ _, World.ownsRow_nil _ _ _ _, hbelc.size, by simp, by simp, fun _ => ⟨rfl, rfl⟩⟩⟩, ⟨rfl, rfl, rfl, rfl, fun x => rfl, rfl, inv_new hok, (fun s hs => nomatch hs), hk0, hr3, hr4⟩, hB, keepA _ hsc, hbA, rfl, rfl, rfl, rfl⟩
          have HLS := Lib.hid hLS
          clear hLS hok hG hB hbc hsc hbelc hbel3 hs3 u0 u1 HGP
          have HK0 := Lib.hid hk0
          clear hk0
          generalize hub : wc.heap.size = ub at HLS
          go_wp2_with fail
          clear c0 c1
          generalize wc.alloc (.cells #[.int .i64 ver, .slice a len cap, .int .i64 archs, .slice none 0 0, .slice none 0 0] 51) = W0 at *
          clear hub
          refine wp_loop_f mskL (fun n f wr => LI n w ver archs rows cs a len cap ub len2 (f 9) (f 17) wr) len2 ⟨0, B1, gb, _, _, rfl, rfl, rfl, HLS.out, by simp [GS0]⟩ (by kernel_rfl) ?_
          intro n f wr hrel J K hJ hK
          dsimp only [mixF, mskL]
          generalize hf9 : f 9 = f9 at hrel ⊢
          generalize hf17 : f 17 = f17 at hrel ⊢
          clear hf9 hf17
          obtain ⟨k, B2, gb2, g, r, hk, rfl, rfl, hS, hnw⟩ := hrel
          have HN : Hid (n + k = len2) := Lib.hid hk
          clear HLS hk
          by_cases hlt : k < len2
          · obtain ⟨b, off, x, rfl, hB, hx, hxw, c0, c1, c2, c3, c4⟩ := hl.get hS.b hlt
            have hbX : Below wr.heap.size wr (wr.alloc (.cells #[.int .i64 x.kind, .int .u32 x.set, .int .i64 x.i, .int .i64 x.comp, .bool x.add] 53)) := (Below.refl _ _).alloc (Nat.le_refl _) _
            have hX := heap_alloc_new wr (.cells #[.int .i64 x.kind, .int .u32 x.set, .int .i64 x.i, .int .i64 x.comp, .bool x.add] 53)
            have HSX := Lib.hid (And.intro (hS.below hbX) hX)
            clear hS hbX hX
            have hkB : k ≤ 99 := by omega
            go_upto_block 2 with (fail)
            generalize wr.alloc (.cells #[.int .i64 x.kind, .int .u32 x.set, .int .i64 x.i, .int .i64 x.comp, .bool x.add] 53) = V at *
            generalize hxb : wr.heap.size = xb at *
            clear hxb c0 c1 c2 c3 c4
            have x0 := cell_at HSX.out.2 0
            have x1 := cell_at HSX.out.2 1
            have x2 := cell_at HSX.out.2 2
            have x3 := cell_at HSX.out.2 3
            have x4 := cell_at HSX.out.2 4
            simp at x0 x1 x2 x3 x4
            obtain ⟨hg1, hg2, hg3, hg4⟩ := HSX.out.1.G.len_le
            have hnL : r.L.length ≤ 64 := by have := HSX.out.1.E.L; have := congrArg List.length this; rw [sigs_len] at this; omega
            have hnW : r.W.length ≤ 3 * k := by have := HSX.out.1.E.n; omega
            obtain ⟨hxs0, hxs1, hxi, hxc⟩ := hxw
            have HI := Lib.hid (And.intro hxi hxc)
            clear hxi hxc
            refine wp_cut_f mskD (fun f wx => LD w ver archs rows cs a len cap ub x xb k (f 9) wx) ?_ ?_
            · intro f wc hcut
              dsimp only [mixF, mskD]
              generalize hf9 : f 9 = f9 at hcut ⊢
              clear hf9
              obtain ⟨B3, gb3, g3, r3, rfl, hS3, hnw3, hX3⟩ := hcut
              clear x0 x1 x2 x3 x4 hg1 hg2 hg3 hg4 hnL hnW hnw HSX
              have HS3 := Lib.hid hS3
              have HX3 := Lib.hid hX3
              clear hS3 hX3
              go_wp2_with fail
              refine (sigs_any _ _ _ _ HS3.out.G).mono ?_
              rintro e w4 ⟨va, vc, rfl, hrow, hb4⟩
              have HS4 := Lib.hid (HS3.out.below hb4)
              have hX4 := keep hb4 HX3.out
              have y1 := cell_at hX4 1
              have y2 := cell_at hX4 2
              have y3 := cell_at hX4 3
              have y4 := cell_at hX4 4
              simp at y1 y2 y3 y4
              have HX4 := Lib.hid (And.intro hX4 hrow)
              clear hb4 HS3 HX3 hX4 hrow
              go_wp2_with fail
              refine (gfind_any _ _ _ _ _ HS4.out.G hxs0 hxs1).mono ?_
              rintro e w' ⟨rfl, rfl⟩
              go_upto_region 38 with (fail)
              have hka : g3.archs = archs := HS4.out.k.2.1
              obtain ⟨hq1, hq2, hq3, hq4⟩ := HS4.out.G.len_le
              have hLn : r3.L.length = g3.ts.length := by rw [HS4.out.E.L, sigs_len]
              have hWn : r3.W.length = g3.nw := HS4.out.E.n
              have hL3 : r3.L = g3.sigs := HS4.out.E.L
              have hKn : knowsB r3.W (x.i, x.comp, x.add) = (g3.ways (x.i, x.comp, x.add)).isSome := HS4.out.E.W _
              have HQ := Lib.hid (And.intro hka (And.intro hLn (And.intro hWn (And.intro hL3 hKn))))
              clear hka hLn hWn hL3 hKn
              go_wp2_with fail
              refine (find17_any _ _ _ _ _ HS4.out.R).mono ?_
              rintro e w' ⟨rfl, rfl⟩
              rw [HQ.out.2.2.2.1]
              have hgn : g3.ts.length ≤ 64 := by omega
              go_upto_region 39 with (fail)
              refine wp_cut_f mskQ (fun f wx => f 322 = .bool false ∧ Below w4.heap.size w4 wx) ?_ ?_
              · intro f wc2 hcut
                dsimp only [mixF, mskQ]
                generalize hf322 : f 322 = f322 at hcut ⊢
                clear hf322
                obtain ⟨rfl, hbq⟩ := hcut
                have HS5 := Lib.hid (HS4.out.below hbq)
                have HR5 := Lib.hid (ownsRow_below HX4.out.2 hbq)
                clear hbq y1 y2 y3 y4
                have hgn2 : g3.ts.length ≤ 64 := by omega
                go_wp2_with fail
                refine wp_loop_f mskT (fun n f wr => ∃ k : Nat, n + k = g3.ts.length ∧ f 32 = .int .i64 k ∧ Below wc2.heap.size wc2 wr) g3.ts.length ⟨0, rfl, rfl, Below.refl _ _⟩ (by kernel_rfl) ?_
                intro n2 f wq hrel2 J3 K3 hJ3 hK3
                dsimp only [mixF, mskT]
                generalize hf32 : f 32 = f32 at hrel2 ⊢
                clear hf32
                obtain ⟨k2, hn2, rfl, hbq2⟩ := hrel2
                have HN2 := Lib.hid hn2
                have HBQ := Lib.hid hbq2
                have HS6 := Lib.hid (HS5.out.below hbq2)
                have hR6 := ownsRow_below HR5.out hbq2
                clear hbq2 hn2
                by_cases hlt2 : k2 < g3.ts.length
                · obtain ⟨t, ht⟩ : ∃ t, g3.ts[k2]? = some t := ⟨_, List.getElem?_eq_getElem hlt2⟩
                  have hsk := sigs_get ht
                  obtain ⟨q1, rfl, z1⟩ := row_get hR6 (show (g3.sigs.map (Value.int .u32))[k2]? = some (.int .u32 t.2) by rw [List.getElem?_map, hsk]; rfl)
                  obtain ⟨ca, cl, cc, la, lc, wa, wcc, hr6⟩ := HS6.out.R
                  have c3 := cell_at hr6.blk 3
                  simp at c3
                  rw [HQ.out.2.1] at c3
                  obtain ⟨q2, rfl, z2⟩ := row_get hr6.row (show (r3.L.map (Value.int .u32))[k2]? = some (.int .u32 t.2) by rw [HQ.out.2.2.2.1, List.getElem?_map, hsk]; rfl)
                  have hT := HS6.out.G.tabs (List.mem_of_getElem? ht)
                  rw [HS6.out.k.2.2.1, HS6.out.k.2.2.2] at hT
                  have HT := Lib.hid hT
                  have hsc : ∀ n, Calls Tryz.prog 27 #[.pointer (some ⟨t.1, 0, none⟩)] (wq.drewN n) fun e w' => e = .returned (.int .u32 t.2) ∧ ∃ m, w' = wq.drewN m := fun n => quiet_same (tsig_any _ _ _ _ _ (HT.out.1.drewN _))
                  have hlc : ∀ n, Calls Tryz.prog 28 #[.pointer (some ⟨t.1, 0, none⟩)] (wq.drewN n) fun e w' => e = .returned (.int .i64 0) ∧ ∃ m, w' = wq.drewN m := fun n => quiet_same (tlen_any _ _ _ _ _ (HT.out.1.drewN _))
                  have hrc : ∀ n, Calls Tryz.prog 29 #[.pointer (some ⟨t.1, 0, none⟩)] (wq.drewN n) fun e w' => e = .returned (.int .i64 rows) ∧ ∃ m, w' = wq.drewN m := fun n => quiet_drew (troom_any _ _ _ _ _ (HT.out.1.drewN _) hr3 hr4)
                  have HSC := Lib.hid hsc
                  have HLC := Lib.hid hlc
                  have HRC := Lib.hid hrc
                  have HP2 := Lib.hid (tabPtr_some ht)
                  have e7 := ne_self_i t.2
                  have e8 := ne_self_i rows
                  have i1 : (0 : Int) ≤ (k2 : Int) := by omega
                  have i2 : (k2 : Int) < (g3.ts.length : Int) := by omega
                  clear hT hsc hlc hrc ht hsk hr6 hR6
                  go_wp2_with fail
                  refine (table_any _ _ _ _ _ HS6.out.G).mono ?_
                  rintro e w' ⟨rfl, rfl⟩
                  rw [HP2.out]
                  go_upto_region 45 with (fail)
                  go_quiet (first | (go_at_call 27; exact HSC.out _) | (go_at_call 28; exact HLC.out _) | (go_at_call 29; exact HRC.out _))
                  go_wp2_with fail
                  refine Handed.intro (n2 - 1) (by have := HN2.out; omega) (hJ3 _ _ _ ?_ (by kernel_rfl))
                  exact ⟨k2 + 1, by have := HN2.out; omega, by go_num, below_drewN HBQ.out _⟩
                · have hke : k2 = g3.ts.length := by have := HN2.out; omega
                  clear hlt2 hR6
                  subst hke
                  have p1 : tabPtr g3 (g3.ts.length : Int) = none := tabPtr_none (.inr (Int.le_refl _))
                  have p2 : tabPtr g3 (-1) = none := tabPtr_none (.inl (by decide))
                  have HP := Lib.hid (And.intro p1 p2)
                  clear p1 p2
                  go_upto_region 47 with (fail)
                  go_wp2_with fail
                  refine (table_any _ _ _ _ _ HS6.out.G).mono ?_
                  rintro e w' ⟨rfl, rfl⟩
                  rw [HP.out.1]
                  go_wp2_with fail
                  refine (table_any _ _ _ _ _ HS6.out.G).mono ?_
                  rintro e w' ⟨rfl, rfl⟩
                  rw [HP.out.2]
                  go_wp2_with fail
                  refine Handed.intro (n - 1) (by have := HN.out; omega) (hJ _ _ _ ?_ (by kernel_rfl))
                  exact ⟨k + 1, B3, gb3, g3, r3, by have := HN.out; omega, by go_num, rfl, HS6.out, by omega⟩
              · intro J3 K3 hJ3 hK3
                obtain ⟨ca, cl, cc, la, lc, wa, wcc, hr3⟩ := HS4.out.R
                have c3 := cell_at hr3.blk 3
                have c4 := cell_at hr3.blk 4
                simp at c3 c4
                rw [HQ.out.2.1] at c3
                rw [HQ.out.2.2.1] at c4
                have e1 := ne_self_i (g3.ts.length : Int)
                have e2 := ne_self_i (archs - (g3.ts.length : Int))
                have e3 := ne_self_i (g3.nw : Int)
                have hkp : ∀ wx, Below w4.heap.size w4 wx → wx.cell? ⟨ub, 3, none⟩ = some (.slice la g3.ts.length lc) ∧ wx.cell? ⟨ub, 4, none⟩ = some (.slice wa g3.nw wcc) ∧ wx.cell? ⟨xb, 2, none⟩ = some (.int .i64 x.i) ∧ wx.cell? ⟨xb, 3, none⟩ = some (.int .i64 x.comp) ∧ wx.cell? ⟨xb, 4, none⟩ = some (.bool x.add) := by
                  intro wx hb
                  obtain ⟨k1, k2⟩ := bcell hb
                  have hub := lt_some hr3.blk
                  have hxl := lt_some HX4.out.1
                  exact ⟨(k1 _ _ hub).trans c3, (k1 _ _ hub).trans c4, (k1 _ _ hxl).trans y2, (k1 _ _ hxl).trans y3, (k1 _ _ hxl).trans y4⟩
                have HKP := Lib.hid hkp
                have hwr : IntKind.i64.wrap (archs - (g3.ts.length : Int)) = archs - (g3.ts.length : Int) := by rw [IntKind.wrap_i64]; omega
                have e4 : (knowsB r3.W (x.i, x.comp, x.add) != knowsB r3.W (x.i, x.comp, x.add)) = false := by simp
                clear hr3 hkp
                cases hp : posOf x.set g3.sigs with
                | none =>
                  have hz : posZ x.set g3.sigs = -1 := by unfold posZ; rw [hp]
                  have hz2 : posI (none : Option Nat) = 0 := rfl
                  rw [hz, hz2]
                  have HP := Lib.hid hp
                  clear hp hz hz2
                  dsimp only [List.append]
                  refine wp_region_frame (by kernel_rfl) (by kernel_rfl) (by kernel_rfl) (byList (askN archs ub xb gb3 g3 r3 x va vc la lc wa wcc)) (lasts_list (askN_lasts archs ub xb gb3 g3 r3 x va vc la lc wa wcc)) ?_ ?_
                  · intro vs w' iq o A F hb ho hd
                    have m9 : A.tmps[9]?.getD undef = (.pointer (some ⟨gb3, 0, none⟩)) := F.m (by kernel_rfl) rfl
                    have m16 : A.tmps[16]?.getD undef = (.pointer (some ⟨ub, 0, none⟩)) := F.m (by kernel_rfl) rfl
                    have m18 : A.tmps[18]?.getD undef = (.pointer (some ⟨xb, 0, none⟩)) := F.m (by kernel_rfl) rfl
                    have m1 : A.tmps[1]?.getD undef = (.int .i64 archs) := F.m (by kernel_rfl) rfl
                    have m28 : A.tmps[28]?.getD undef = (.slice va g3.ts.length vc) := F.m (by kernel_rfl) rfl
                    have m29 : A.tmps[29]?.getD undef = (.int .i64 0) := F.m (by kernel_rfl) rfl
                    have m30 : A.tmps[30]?.getD undef = (.bool false) := F.m (by kernel_rfl) rfl
                    have m31 : A.tmps[31]?.getD undef = (.int .i64 (-1)) := F.m (by kernel_rfl) rfl
                    have G := F.light (n := 378) (by kernel_rfl)
                    clear F
                    have HSW := Lib.hid (HS4.out.below hb)
                    obtain ⟨k3, k4, k5, k6, k7⟩ := HKP.out w' hb
                    clear hb
                    revert ho hd
                    match iq with
                    | 0 =>
                      intro ho hd
                      obtain rfl := (Option.some.inj ho).symm
                      clear hd ho
                      refine step_open rfl ?_
                      clear G
                      exact step_run (v := (.slice va g3.ts.length vc)) (by go_simp) rfl
                    | 1 =>
                      intro ho hd
                      obtain rfl := (Option.some.inj ho).symm
                      have d0 : vs 0 = (.slice va g3.ts.length vc) := hd ⟨0, .data⟩ (by simp) rfl
                      clear hd ho
                      have h241 := G.h (j := 0) (d := 241) rfl (by decide) d0
                      refine step_open rfl ?_
                      clear G
                      exact step_run (v := (.int .i64 (g3.ts.length : Int))) (by go_simp) rfl
                    | 2 =>
                      intro ho hd
                      obtain rfl := (Option.some.inj ho).symm
                      clear hd ho
                      refine step_open rfl ?_
                      clear G
                      exact step_run (v := (.pointer (some ⟨ub, 0, none⟩))) (by go_simp) rfl
                    | 3 =>
                      intro ho hd
                      obtain rfl := (Option.some.inj ho).symm
                      have d2 : vs 2 = (.pointer (some ⟨ub, 0, none⟩)) := hd ⟨2, .data⟩ (by simp) rfl
                      clear hd ho
                      have h243 := G.h (j := 2) (d := 243) rfl (by decide) d2
                      refine step_open rfl ?_
                      clear G
                      exact step_run (v := (.pointer (some ⟨ub, 0, none⟩))) (by go_simp) rfl
                    | 4 =>
                      intro ho hd
                      obtain rfl := (Option.some.inj ho).symm
                      have d3 : vs 3 = (.pointer (some ⟨ub, 0, none⟩)) := hd ⟨3, .data⟩ (by simp) rfl
                      clear hd ho
                      have h244 := G.h (j := 3) (d := 244) rfl (by decide) d3
                      refine step_open rfl ?_
                      clear G
                      exact step_run (v := (.pointer (some ⟨ub, 3, none⟩))) (by go_simp) rfl
                    | 5 =>
                      intro ho hd
                      obtain rfl := (Option.some.inj ho).symm
                      have d4 : vs 4 = (.pointer (some ⟨ub, 3, none⟩)) := hd ⟨4, .data⟩ (by simp) rfl
                      clear hd ho
                      have h245 := G.h (j := 4) (d := 245) rfl (by decide) d4
                      refine step_open rfl ?_
                      clear G
                      exact step_run (v := (.slice la g3.ts.length lc)) (by go_simp) rfl
                    | 6 =>
                      intro ho hd
                      obtain rfl := (Option.some.inj ho).symm
                      have d5 : vs 5 = (.slice la g3.ts.length lc) := hd ⟨5, .data⟩ (by simp) rfl
                      clear hd ho
                      have h246 := G.h (j := 5) (d := 246) rfl (by decide) d5
                      refine step_open rfl ?_
                      clear G
                      exact step_run (v := (.int .i64 (g3.ts.length : Int))) (by go_simp) rfl
                    | 7 =>
                      intro ho hd
                      obtain rfl := (Option.some.inj ho).symm
                      have d1 : vs 1 = (.int .i64 (g3.ts.length : Int)) := hd ⟨1, .data⟩ (by simp) rfl
                      have d6 : vs 6 = (.int .i64 (g3.ts.length : Int)) := hd ⟨6, .data⟩ (by simp) rfl
                      clear hd ho
                      have h242 := G.h (j := 1) (d := 242) rfl (by decide) d1
                      have h247 := G.h (j := 6) (d := 247) rfl (by decide) d6
                      refine step_open rfl ?_
                      clear G
                      exact step_run (v := (.bool false)) (by go_simp) rfl
                    | 8 =>
                      intro ho hd
                      obtain rfl := (Option.some.inj ho).symm
                      have d7 : vs 7 = (.bool false) := hd ⟨7, .data⟩ (by simp) rfl
                      clear hd ho
                      have h248 := G.h (j := 7) (d := 248) rfl (by decide) d7
                      refine step_open rfl ?_
                      clear G
                      exact step_run (v := (.bool false)) (by go_simp) rfl
                    | 9 =>
                      intro ho hd
                      obtain rfl := (Option.some.inj ho).symm
                      have d8 : vs 8 = (.bool false) := hd ⟨8, .guard⟩ (by simp) rfl
                      clear hd ho
                      refine step_yes G rfl rfl (by decide) d8 ?_
                      clear G
                      exact step_run (v := (.pointer (some ⟨gb3, 0, none⟩))) (by go_simp) rfl
                    | 10 =>
                      intro ho hd
                      obtain rfl := (Option.some.inj ho).symm
                      have d9 : vs 9 = (.pointer (some ⟨gb3, 0, none⟩)) := hd ⟨9, .data⟩ (by simp) rfl
                      have d8 : vs 8 = (.bool false) := hd ⟨8, .guard⟩ (by simp) rfl
                      clear hd ho
                      have h250 := G.h (j := 9) (d := 250) rfl (by decide) d9
                      refine step_yes G rfl rfl (by decide) d8 ?_
                      clear G
                      go_simp
                      refine (len_any _ _ _ _ HSW.out.G).mono ?_
                      rintro e w2 ⟨rfl, rfl⟩
                      exact ⟨_, rfl, rfl, Below.refl _ _⟩
                    | 11 =>
                      intro ho hd
                      obtain rfl := (Option.some.inj ho).symm
                      have d8 : vs 8 = (.bool false) := hd ⟨8, .guard⟩ (by simp) rfl
                      clear hd ho
                      refine step_yes G rfl rfl (by decide) d8 ?_
                      clear G
                      exact step_run (v := (.pointer (some ⟨ub, 0, none⟩))) (by go_simp) rfl
                    | 12 =>
                      intro ho hd
                      obtain rfl := (Option.some.inj ho).symm
                      have d11 : vs 11 = (.pointer (some ⟨ub, 0, none⟩)) := hd ⟨11, .data⟩ (by simp) rfl
                      have d8 : vs 8 = (.bool false) := hd ⟨8, .guard⟩ (by simp) rfl
                      clear hd ho
                      have h252 := G.h (j := 11) (d := 252) rfl (by decide) d11
                      refine step_yes G rfl rfl (by decide) d8 ?_
                      clear G
                      exact step_run (v := (.pointer (some ⟨ub, 0, none⟩))) (by go_simp) rfl
                    | 13 =>
                      intro ho hd
                      obtain rfl := (Option.some.inj ho).symm
                      have d12 : vs 12 = (.pointer (some ⟨ub, 0, none⟩)) := hd ⟨12, .data⟩ (by simp) rfl
                      have d8 : vs 8 = (.bool false) := hd ⟨8, .guard⟩ (by simp) rfl
                      clear hd ho
                      have h253 := G.h (j := 12) (d := 253) rfl (by decide) d12
                      refine step_yes G rfl rfl (by decide) d8 ?_
                      clear G
                      exact step_run (v := (.pointer (some ⟨ub, 3, none⟩))) (by go_simp) rfl
                    | 14 =>
                      intro ho hd
                      obtain rfl := (Option.some.inj ho).symm
                      have d13 : vs 13 = (.pointer (some ⟨ub, 3, none⟩)) := hd ⟨13, .data⟩ (by simp) rfl
                      have d8 : vs 8 = (.bool false) := hd ⟨8, .guard⟩ (by simp) rfl
                      clear hd ho
                      have h254 := G.h (j := 13) (d := 254) rfl (by decide) d13
                      refine step_yes G rfl rfl (by decide) d8 ?_
                      clear G
                      exact step_run (v := (.slice la g3.ts.length lc)) (by go_simp) rfl
                    | 15 =>
                      intro ho hd
                      obtain rfl := (Option.some.inj ho).symm
                      have d14 : vs 14 = (.slice la g3.ts.length lc) := hd ⟨14, .data⟩ (by simp) rfl
                      have d8 : vs 8 = (.bool false) := hd ⟨8, .guard⟩ (by simp) rfl
                      clear hd ho
                      have h255 := G.h (j := 14) (d := 255) rfl (by decide) d14
                      refine step_yes G rfl rfl (by decide) d8 ?_
                      clear G
                      exact step_run (v := (.int .i64 (g3.ts.length : Int))) (by go_simp) rfl
                    | 16 =>
                      intro ho hd
                      obtain rfl := (Option.some.inj ho).symm
                      have d10 : vs 10 = (.int .i64 (g3.ts.length : Int)) := hd ⟨10, .data⟩ (by simp) rfl
                      have d15 : vs 15 = (.int .i64 (g3.ts.length : Int)) := hd ⟨15, .data⟩ (by simp) rfl
                      have d8 : vs 8 = (.bool false) := hd ⟨8, .guard⟩ (by simp) rfl
                      clear hd ho
                      have h251 := G.h (j := 10) (d := 251) rfl (by decide) d10
                      have h256 := G.h (j := 15) (d := 256) rfl (by decide) d15
                      refine step_yes G rfl rfl (by decide) d8 ?_
                      clear G
                      exact step_run (v := (.bool false)) (by go_simp) rfl
                    | 17 =>
                      intro ho hd
                      obtain rfl := (Option.some.inj ho).symm
                      have d8 : vs 8 = (.bool false) := hd ⟨8, .data⟩ (by simp) rfl
                      have d16 : vs 16 = (.bool false) := hd ⟨16, .data⟩ (by simp) rfl
                      clear hd ho
                      have h249 := G.h (j := 8) (d := 249) rfl (by decide) d8
                      have h257 := G.h (j := 16) (d := 257) rfl (by decide) d16
                      refine step_open rfl ?_
                      clear G
                      exact step_run (v := (.bool false)) (by go_simp) rfl
                    | 18 =>
                      intro ho hd
                      obtain rfl := (Option.some.inj ho).symm
                      have d17 : vs 17 = (.bool false) := hd ⟨17, .data⟩ (by simp) rfl
                      clear hd ho
                      have h258 := G.h (j := 17) (d := 258) rfl (by decide) d17
                      refine step_open rfl ?_
                      clear G
                      exact step_run (v := (.bool false)) (by go_simp) rfl
                    | 19 =>
                      intro ho hd
                      obtain rfl := (Option.some.inj ho).symm
                      have d18 : vs 18 = (.bool false) := hd ⟨18, .guard⟩ (by simp) rfl
                      clear hd ho
                      refine step_yes G rfl rfl (by decide) d18 ?_
                      clear G
                      exact step_run (v := (.pointer (some ⟨gb3, 0, none⟩))) (by go_simp) rfl
                    | 20 =>
                      intro ho hd
                      obtain rfl := (Option.some.inj ho).symm
                      have d19 : vs 19 = (.pointer (some ⟨gb3, 0, none⟩)) := hd ⟨19, .data⟩ (by simp) rfl
                      have d18 : vs 18 = (.bool false) := hd ⟨18, .guard⟩ (by simp) rfl
                      clear hd ho
                      have h260 := G.h (j := 19) (d := 260) rfl (by decide) d19
                      refine step_yes G rfl rfl (by decide) d18 ?_
                      clear G
                      go_simp
                      refine (room_any _ _ _ _ HSW.out.G).mono ?_
                      rintro e w2 ⟨rfl, nq, rfl⟩
                      rw [HQ.out.1]
                      exact ⟨_, rfl, rfl, below_drewN (Below.refl _ _) _⟩
                    | 21 =>
                      intro ho hd
                      obtain rfl := (Option.some.inj ho).symm
                      have d18 : vs 18 = (.bool false) := hd ⟨18, .guard⟩ (by simp) rfl
                      clear hd ho
                      refine step_yes G rfl rfl (by decide) d18 ?_
                      clear G
                      exact step_run (v := (.int .i64 archs)) (by go_simp) rfl
                    | 22 =>
                      intro ho hd
                      obtain rfl := (Option.some.inj ho).symm
                      have d18 : vs 18 = (.bool false) := hd ⟨18, .guard⟩ (by simp) rfl
                      clear hd ho
                      refine step_yes G rfl rfl (by decide) d18 ?_
                      clear G
                      exact step_run (v := (.pointer (some ⟨ub, 0, none⟩))) (by go_simp) rfl
                    | 23 =>
                      intro ho hd
                      obtain rfl := (Option.some.inj ho).symm
                      have d22 : vs 22 = (.pointer (some ⟨ub, 0, none⟩)) := hd ⟨22, .data⟩ (by simp) rfl
                      have d18 : vs 18 = (.bool false) := hd ⟨18, .guard⟩ (by simp) rfl
                      clear hd ho
                      have h263 := G.h (j := 22) (d := 263) rfl (by decide) d22
                      refine step_yes G rfl rfl (by decide) d18 ?_
                      clear G
                      exact step_run (v := (.pointer (some ⟨ub, 0, none⟩))) (by go_simp) rfl
                    | 24 =>
                      intro ho hd
                      obtain rfl := (Option.some.inj ho).symm
                      have d23 : vs 23 = (.pointer (some ⟨ub, 0, none⟩)) := hd ⟨23, .data⟩ (by simp) rfl
                      have d18 : vs 18 = (.bool false) := hd ⟨18, .guard⟩ (by simp) rfl
                      clear hd ho
                      have h264 := G.h (j := 23) (d := 264) rfl (by decide) d23
                      refine step_yes G rfl rfl (by decide) d18 ?_
                      clear G
                      exact step_run (v := (.pointer (some ⟨ub, 3, none⟩))) (by go_simp) rfl
                    | 25 =>
                      intro ho hd
                      obtain rfl := (Option.some.inj ho).symm
                      have d24 : vs 24 = (.pointer (some ⟨ub, 3, none⟩)) := hd ⟨24, .data⟩ (by simp) rfl
                      have d18 : vs 18 = (.bool false) := hd ⟨18, .guard⟩ (by simp) rfl
                      clear hd ho
                      have h265 := G.h (j := 24) (d := 265) rfl (by decide) d24
                      refine step_yes G rfl rfl (by decide) d18 ?_
                      clear G
                      exact step_run (v := (.slice la g3.ts.length lc)) (by go_simp) rfl
                    | 26 =>
                      intro ho hd
                      obtain rfl := (Option.some.inj ho).symm
                      have d25 : vs 25 = (.slice la g3.ts.length lc) := hd ⟨25, .data⟩ (by simp) rfl
                      have d18 : vs 18 = (.bool false) := hd ⟨18, .guard⟩ (by simp) rfl
                      clear hd ho
                      have h266 := G.h (j := 25) (d := 266) rfl (by decide) d25
                      refine step_yes G rfl rfl (by decide) d18 ?_
                      clear G
                      exact step_run (v := (.int .i64 (g3.ts.length : Int))) (by go_simp) rfl
                    | 27 =>
                      intro ho hd
                      obtain rfl := (Option.some.inj ho).symm
                      have d21 : vs 21 = (.int .i64 archs) := hd ⟨21, .data⟩ (by simp) rfl
                      have d26 : vs 26 = (.int .i64 (g3.ts.length : Int)) := hd ⟨26, .data⟩ (by simp) rfl
                      have d18 : vs 18 = (.bool false) := hd ⟨18, .guard⟩ (by simp) rfl
                      clear hd ho
                      have h262 := G.h (j := 21) (d := 262) rfl (by decide) d21
                      have h267 := G.h (j := 26) (d := 267) rfl (by decide) d26
                      refine step_yes G rfl rfl (by decide) d18 ?_
                      clear G
                      exact step_run (v := (.int .i64 (archs - (g3.ts.length : Int)))) (by go_simp) rfl
                    | 28 =>
                      intro ho hd
                      obtain rfl := (Option.some.inj ho).symm
                      have d20 : vs 20 = (.int .i64 (archs - (g3.ts.length : Int))) := hd ⟨20, .data⟩ (by simp) rfl
                      have d27 : vs 27 = (.int .i64 (archs - (g3.ts.length : Int))) := hd ⟨27, .data⟩ (by simp) rfl
                      have d18 : vs 18 = (.bool false) := hd ⟨18, .guard⟩ (by simp) rfl
                      clear hd ho
                      have h261 := G.h (j := 20) (d := 261) rfl (by decide) d20
                      have h268 := G.h (j := 27) (d := 268) rfl (by decide) d27
                      refine step_yes G rfl rfl (by decide) d18 ?_
                      clear G
                      exact step_run (v := (.bool false)) (by go_simp) rfl
                    | 29 =>
                      intro ho hd
                      obtain rfl := (Option.some.inj ho).symm
                      have d18 : vs 18 = (.bool false) := hd ⟨18, .data⟩ (by simp) rfl
                      have d28 : vs 28 = (.bool false) := hd ⟨28, .data⟩ (by simp) rfl
                      clear hd ho
                      have h259 := G.h (j := 18) (d := 259) rfl (by decide) d18
                      have h269 := G.h (j := 28) (d := 269) rfl (by decide) d28
                      refine step_open rfl ?_
                      clear G
                      exact step_run (v := (.bool false)) (by go_simp) rfl
                    | 30 =>
                      intro ho hd
                      obtain rfl := (Option.some.inj ho).symm
                      have d29 : vs 29 = (.bool false) := hd ⟨29, .data⟩ (by simp) rfl
                      clear hd ho
                      have h270 := G.h (j := 29) (d := 270) rfl (by decide) d29
                      refine step_open rfl ?_
                      clear G
                      exact step_run (v := (.bool false)) (by go_simp) rfl
                    | 31 =>
                      intro ho hd
                      obtain rfl := (Option.some.inj ho).symm
                      have d30 : vs 30 = (.bool false) := hd ⟨30, .guard⟩ (by simp) rfl
                      clear hd ho
                      refine step_yes G rfl rfl (by decide) d30 ?_
                      clear G
                      exact step_run (v := (.pointer (some ⟨gb3, 0, none⟩))) (by go_simp) rfl
                    | 32 =>
                      intro ho hd
                      obtain rfl := (Option.some.inj ho).symm
                      have d31 : vs 31 = (.pointer (some ⟨gb3, 0, none⟩)) := hd ⟨31, .data⟩ (by simp) rfl
                      have d30 : vs 30 = (.bool false) := hd ⟨30, .guard⟩ (by simp) rfl
                      clear hd ho
                      have h272 := G.h (j := 31) (d := 272) rfl (by decide) d31
                      refine step_yes G rfl rfl (by decide) d30 ?_
                      clear G
                      go_simp
                      refine (ways_any _ _ _ _ HSW.out.G).mono ?_
                      rintro e w2 ⟨rfl, rfl⟩
                      exact ⟨_, rfl, rfl, Below.refl _ _⟩
                    | 33 =>
                      intro ho hd
                      obtain rfl := (Option.some.inj ho).symm
                      have d30 : vs 30 = (.bool false) := hd ⟨30, .guard⟩ (by simp) rfl
                      clear hd ho
                      refine step_yes G rfl rfl (by decide) d30 ?_
                      clear G
                      exact step_run (v := (.pointer (some ⟨ub, 0, none⟩))) (by go_simp) rfl
                    | 34 =>
                      intro ho hd
                      obtain rfl := (Option.some.inj ho).symm
                      have d33 : vs 33 = (.pointer (some ⟨ub, 0, none⟩)) := hd ⟨33, .data⟩ (by simp) rfl
                      have d30 : vs 30 = (.bool false) := hd ⟨30, .guard⟩ (by simp) rfl
                      clear hd ho
                      have h274 := G.h (j := 33) (d := 274) rfl (by decide) d33
                      refine step_yes G rfl rfl (by decide) d30 ?_
                      clear G
                      exact step_run (v := (.pointer (some ⟨ub, 0, none⟩))) (by go_simp) rfl
                    | 35 =>
                      intro ho hd
                      obtain rfl := (Option.some.inj ho).symm
                      have d34 : vs 34 = (.pointer (some ⟨ub, 0, none⟩)) := hd ⟨34, .data⟩ (by simp) rfl
                      have d30 : vs 30 = (.bool false) := hd ⟨30, .guard⟩ (by simp) rfl
                      clear hd ho
                      have h275 := G.h (j := 34) (d := 275) rfl (by decide) d34
                      refine step_yes G rfl rfl (by decide) d30 ?_
                      clear G
                      exact step_run (v := (.pointer (some ⟨ub, 4, none⟩))) (by go_simp) rfl
                    | 36 =>
                      intro ho hd
                      obtain rfl := (Option.some.inj ho).symm
                      have d35 : vs 35 = (.pointer (some ⟨ub, 4, none⟩)) := hd ⟨35, .data⟩ (by simp) rfl
                      have d30 : vs 30 = (.bool false) := hd ⟨30, .guard⟩ (by simp) rfl
                      clear hd ho
                      have h276 := G.h (j := 35) (d := 276) rfl (by decide) d35
                      refine step_yes G rfl rfl (by decide) d30 ?_
                      clear G
                      exact step_run (v := (.slice wa g3.nw wcc)) (by go_simp) rfl
                    | 37 =>
                      intro ho hd
                      obtain rfl := (Option.some.inj ho).symm
                      have d36 : vs 36 = (.slice wa g3.nw wcc) := hd ⟨36, .data⟩ (by simp) rfl
                      have d30 : vs 30 = (.bool false) := hd ⟨30, .guard⟩ (by simp) rfl
                      clear hd ho
                      have h277 := G.h (j := 36) (d := 277) rfl (by decide) d36
                      refine step_yes G rfl rfl (by decide) d30 ?_
                      clear G
                      exact step_run (v := (.int .i64 (g3.nw : Int))) (by go_simp) rfl
                    | 38 =>
                      intro ho hd
                      obtain rfl := (Option.some.inj ho).symm
                      have d32 : vs 32 = (.int .i64 (g3.nw : Int)) := hd ⟨32, .data⟩ (by simp) rfl
                      have d37 : vs 37 = (.int .i64 (g3.nw : Int)) := hd ⟨37, .data⟩ (by simp) rfl
                      have d30 : vs 30 = (.bool false) := hd ⟨30, .guard⟩ (by simp) rfl
                      clear hd ho
                      have h273 := G.h (j := 32) (d := 273) rfl (by decide) d32
                      have h278 := G.h (j := 37) (d := 278) rfl (by decide) d37
                      refine step_yes G rfl rfl (by decide) d30 ?_
                      clear G
                      exact step_run (v := (.bool false)) (by go_simp) rfl
                    | 39 =>
                      intro ho hd
                      obtain rfl := (Option.some.inj ho).symm
                      have d30 : vs 30 = (.bool false) := hd ⟨30, .data⟩ (by simp) rfl
                      have d38 : vs 38 = (.bool false) := hd ⟨38, .data⟩ (by simp) rfl
                      clear hd ho
                      have h271 := G.h (j := 30) (d := 271) rfl (by decide) d30
                      have h279 := G.h (j := 38) (d := 279) rfl (by decide) d38
                      refine step_open rfl ?_
                      clear G
                      exact step_run (v := (.bool false)) (by go_simp) rfl
                    | 40 =>
                      intro ho hd
                      obtain rfl := (Option.some.inj ho).symm
                      have d39 : vs 39 = (.bool false) := hd ⟨39, .data⟩ (by simp) rfl
                      clear hd ho
                      have h280 := G.h (j := 39) (d := 280) rfl (by decide) d39
                      refine step_open rfl ?_
                      clear G
                      exact step_run (v := (.bool false)) (by go_simp) rfl
                    | 41 =>
                      intro ho hd
                      obtain rfl := (Option.some.inj ho).symm
                      have d40 : vs 40 = (.bool false) := hd ⟨40, .guard⟩ (by simp) rfl
                      clear hd ho
                      refine step_yes G rfl rfl (by decide) d40 ?_
                      clear G
                      exact step_run (v := (.bool false)) (by go_simp) rfl
                    | 42 =>
                      intro ho hd
                      obtain rfl := (Option.some.inj ho).symm
                      have d40 : vs 40 = (.bool false) := hd ⟨40, .guard⟩ (by simp) rfl
                      clear hd ho
                      refine step_yes G rfl rfl (by decide) d40 ?_
                      clear G
                      exact step_run (v := (.int .i64 (-1))) (by go_simp) rfl
                    | 43 =>
                      intro ho hd
                      obtain rfl := (Option.some.inj ho).symm
                      have d42 : vs 42 = (.int .i64 (-1)) := hd ⟨42, .data⟩ (by simp) rfl
                      have d40 : vs 40 = (.bool false) := hd ⟨40, .guard⟩ (by simp) rfl
                      clear hd ho
                      have h283 := G.h (j := 42) (d := 283) rfl (by decide) d42
                      refine step_yes G rfl rfl (by decide) d40 ?_
                      clear G
                      exact step_run (v := (.bool false)) (by go_simp) rfl
                    | 44 =>
                      intro ho hd
                      obtain rfl := (Option.some.inj ho).symm
                      have d41 : vs 41 = (.bool false) := hd ⟨41, .data⟩ (by simp) rfl
                      have d43 : vs 43 = (.bool false) := hd ⟨43, .data⟩ (by simp) rfl
                      have d40 : vs 40 = (.bool false) := hd ⟨40, .guard⟩ (by simp) rfl
                      clear hd ho
                      have h282 := G.h (j := 41) (d := 282) rfl (by decide) d41
                      have h284 := G.h (j := 43) (d := 284) rfl (by decide) d43
                      refine step_yes G rfl rfl (by decide) d40 ?_
                      clear G
                      exact step_run (v := (.bool false)) (by go_simp) rfl
                    | 45 =>
                      intro ho hd
                      obtain rfl := (Option.some.inj ho).symm
                      have d40 : vs 40 = (.bool false) := hd ⟨40, .data⟩ (by simp) rfl
                      have d44 : vs 44 = (.bool false) := hd ⟨44, .data⟩ (by simp) rfl
                      clear hd ho
                      have h281 := G.h (j := 40) (d := 281) rfl (by decide) d40
                      have h285 := G.h (j := 44) (d := 285) rfl (by decide) d44
                      refine step_open rfl ?_
                      clear G
                      exact step_run (v := (.bool false)) (by go_simp) rfl
                    | 46 =>
                      intro ho hd
                      obtain rfl := (Option.some.inj ho).symm
                      have d45 : vs 45 = (.bool false) := hd ⟨45, .data⟩ (by simp) rfl
                      clear hd ho
                      have h286 := G.h (j := 45) (d := 286) rfl (by decide) d45
                      refine step_open rfl ?_
                      clear G
                      exact step_run (v := (.bool false)) (by go_simp) rfl
                    | 47 =>
                      intro ho hd
                      obtain rfl := (Option.some.inj ho).symm
                      have d46 : vs 46 = (.bool false) := hd ⟨46, .guard⟩ (by simp) rfl
                      clear hd ho
                      refine step_yes G rfl rfl (by decide) d46 ?_
                      clear G
                      exact step_run (v := (.bool false)) (by go_simp) rfl
                    | 48 =>
                      intro ho hd
                      obtain rfl := (Option.some.inj ho).symm
                      have d47 : vs 47 = (.bool false) := hd ⟨47, .data⟩ (by simp) rfl
                      have d46 : vs 46 = (.bool false) := hd ⟨46, .guard⟩ (by simp) rfl
                      clear hd ho
                      have h288 := G.h (j := 47) (d := 288) rfl (by decide) d47
                      refine step_yes G rfl rfl (by decide) d46 ?_
                      clear G
                      exact step_run (v := (.bool false)) (by go_simp) rfl
                    | 49 =>
                      intro ho hd
                      obtain rfl := (Option.some.inj ho).symm
                      have d48 : vs 48 = (.bool false) := hd ⟨48, .guard⟩ (by simp) rfl
                      clear hd ho
                      exact step_not G rfl rfl (by decide) d48 rfl
                    | 50 =>
                      intro ho hd
                      obtain rfl := (Option.some.inj ho).symm
                      have d48 : vs 48 = (.bool false) := hd ⟨48, .guard⟩ (by simp) rfl
                      clear hd ho
                      exact step_not G rfl rfl (by decide) d48 rfl
                    | 51 =>
                      intro ho hd
                      obtain rfl := (Option.some.inj ho).symm
                      have d48 : vs 48 = (.bool false) := hd ⟨48, .guard⟩ (by simp) rfl
                      clear hd ho
                      exact step_not G rfl rfl (by decide) d48 rfl
                    | 52 =>
                      intro ho hd
                      obtain rfl := (Option.some.inj ho).symm
                      have d48 : vs 48 = (.bool false) := hd ⟨48, .data⟩ (by simp) rfl
                      have d51 : vs 51 = undef := hd ⟨51, .data⟩ (by simp) rfl
                      have d46 : vs 46 = (.bool false) := hd ⟨46, .guard⟩ (by simp) rfl
                      clear hd ho
                      have h289 := G.h (j := 48) (d := 289) rfl (by decide) d48
                      have h292 := G.h (j := 51) (d := 292) rfl (by decide) d51
                      refine step_yes G rfl rfl (by decide) d46 ?_
                      clear G
                      exact step_run (v := (.bool false)) (by go_simp) rfl
                    | 53 =>
                      intro ho hd
                      obtain rfl := (Option.some.inj ho).symm
                      have d46 : vs 46 = (.bool false) := hd ⟨46, .data⟩ (by simp) rfl
                      have d52 : vs 52 = (.bool false) := hd ⟨52, .data⟩ (by simp) rfl
                      clear hd ho
                      have h287 := G.h (j := 46) (d := 287) rfl (by decide) d46
                      have h293 := G.h (j := 52) (d := 293) rfl (by decide) d52
                      refine step_open rfl ?_
                      clear G
                      exact step_run (v := (.bool false)) (by go_simp) rfl
                    | 54 =>
                      intro ho hd
                      obtain rfl := (Option.some.inj ho).symm
                      have d53 : vs 53 = (.bool false) := hd ⟨53, .data⟩ (by simp) rfl
                      clear hd ho
                      have h294 := G.h (j := 53) (d := 294) rfl (by decide) d53
                      refine step_open rfl ?_
                      clear G
                      exact step_run (v := (.bool false)) (by go_simp) rfl
                    | 55 =>
                      intro ho hd
                      obtain rfl := (Option.some.inj ho).symm
                      have d54 : vs 54 = (.bool false) := hd ⟨54, .guard⟩ (by simp) rfl
                      clear hd ho
                      refine step_yes G rfl rfl (by decide) d54 ?_
                      clear G
                      exact step_run (v := (.bool false)) (by go_simp) rfl
                    | 56 =>
                      intro ho hd
                      obtain rfl := (Option.some.inj ho).symm
                      have d55 : vs 55 = (.bool false) := hd ⟨55, .data⟩ (by simp) rfl
                      have d54 : vs 54 = (.bool false) := hd ⟨54, .guard⟩ (by simp) rfl
                      clear hd ho
                      have h296 := G.h (j := 55) (d := 296) rfl (by decide) d55
                      refine step_yes G rfl rfl (by decide) d54 ?_
                      clear G
                      exact step_run (v := (.bool true)) (by go_simp) rfl
                    | 57 =>
                      intro ho hd
                      obtain rfl := (Option.some.inj ho).symm
                      have d56 : vs 56 = (.bool true) := hd ⟨56, .data⟩ (by simp) rfl
                      have d54 : vs 54 = (.bool false) := hd ⟨54, .guard⟩ (by simp) rfl
                      clear hd ho
                      have h297 := G.h (j := 56) (d := 297) rfl (by decide) d56
                      refine step_yes G rfl rfl (by decide) d54 ?_
                      clear G
                      exact step_run (v := (.bool true)) (by go_simp) rfl
                    | 58 =>
                      intro ho hd
                      obtain rfl := (Option.some.inj ho).symm
                      have d57 : vs 57 = (.bool true) := hd ⟨57, .guard⟩ (by simp) rfl
                      clear hd ho
                      refine step_yes G rfl rfl (by decide) d57 ?_
                      clear G
                      exact step_run (v := (.int .i64 0)) (by go_simp) rfl
                    | 59 =>
                      intro ho hd
                      obtain rfl := (Option.some.inj ho).symm
                      have d58 : vs 58 = (.int .i64 0) := hd ⟨58, .data⟩ (by simp) rfl
                      have d57 : vs 57 = (.bool true) := hd ⟨57, .guard⟩ (by simp) rfl
                      clear hd ho
                      have h299 := G.h (j := 58) (d := 299) rfl (by decide) d58
                      refine step_yes G rfl rfl (by decide) d57 ?_
                      clear G
                      exact step_run (v := (.bool false)) (by go_simp) rfl
                    | 60 =>
                      intro ho hd
                      obtain rfl := (Option.some.inj ho).symm
                      have d57 : vs 57 = (.bool true) := hd ⟨57, .data⟩ (by simp) rfl
                      have d59 : vs 59 = (.bool false) := hd ⟨59, .data⟩ (by simp) rfl
                      have d54 : vs 54 = (.bool false) := hd ⟨54, .guard⟩ (by simp) rfl
                      clear hd ho
                      have h298 := G.h (j := 57) (d := 298) rfl (by decide) d57
                      have h300 := G.h (j := 59) (d := 300) rfl (by decide) d59
                      refine step_yes G rfl rfl (by decide) d54 ?_
                      clear G
                      exact step_run (v := (.bool false)) (by go_simp) rfl
                    | 61 =>
                      intro ho hd
                      obtain rfl := (Option.some.inj ho).symm
                      have d54 : vs 54 = (.bool false) := hd ⟨54, .data⟩ (by simp) rfl
                      have d60 : vs 60 = (.bool false) := hd ⟨60, .data⟩ (by simp) rfl
                      clear hd ho
                      have h295 := G.h (j := 54) (d := 295) rfl (by decide) d54
                      have h301 := G.h (j := 60) (d := 301) rfl (by decide) d60
                      refine step_open rfl ?_
                      clear G
                      exact step_run (v := (.bool false)) (by go_simp) rfl
                    | 62 =>
                      intro ho hd
                      obtain rfl := (Option.some.inj ho).symm
                      have d61 : vs 61 = (.bool false) := hd ⟨61, .data⟩ (by simp) rfl
                      clear hd ho
                      have h302 := G.h (j := 61) (d := 302) rfl (by decide) d61
                      refine step_open rfl ?_
                      clear G
                      exact step_run (v := (.bool false)) (by go_simp) rfl
                    | 63 =>
                      intro ho hd
                      obtain rfl := (Option.some.inj ho).symm
                      have d62 : vs 62 = (.bool false) := hd ⟨62, .guard⟩ (by simp) rfl
                      clear hd ho
                      refine step_yes G rfl rfl (by decide) d62 ?_
                      clear G
                      exact step_run (v := (.pointer (some ⟨gb3, 0, none⟩))) (by go_simp) rfl
                    | 64 =>
                      intro ho hd
                      obtain rfl := (Option.some.inj ho).symm
                      have d62 : vs 62 = (.bool false) := hd ⟨62, .guard⟩ (by simp) rfl
                      clear hd ho
                      refine step_yes G rfl rfl (by decide) d62 ?_
                      clear G
                      exact step_run (v := (.pointer (some ⟨xb, 2, none⟩))) (by go_simp) rfl
                    | 65 =>
                      intro ho hd
                      obtain rfl := (Option.some.inj ho).symm
                      have d64 : vs 64 = (.pointer (some ⟨xb, 2, none⟩)) := hd ⟨64, .data⟩ (by simp) rfl
                      have d62 : vs 62 = (.bool false) := hd ⟨62, .guard⟩ (by simp) rfl
                      clear hd ho
                      have h305 := G.h (j := 64) (d := 305) rfl (by decide) d64
                      refine step_yes G rfl rfl (by decide) d62 ?_
                      clear G
                      exact step_run (v := (.int .i64 x.i)) (by go_simp) rfl
                    | 66 =>
                      intro ho hd
                      obtain rfl := (Option.some.inj ho).symm
                      have d62 : vs 62 = (.bool false) := hd ⟨62, .guard⟩ (by simp) rfl
                      clear hd ho
                      refine step_yes G rfl rfl (by decide) d62 ?_
                      clear G
                      exact step_run (v := (.pointer (some ⟨xb, 3, none⟩))) (by go_simp) rfl
                    | 67 =>
                      intro ho hd
                      obtain rfl := (Option.some.inj ho).symm
                      have d66 : vs 66 = (.pointer (some ⟨xb, 3, none⟩)) := hd ⟨66, .data⟩ (by simp) rfl
                      have d62 : vs 62 = (.bool false) := hd ⟨62, .guard⟩ (by simp) rfl
                      clear hd ho
                      have h307 := G.h (j := 66) (d := 307) rfl (by decide) d66
                      refine step_yes G rfl rfl (by decide) d62 ?_
                      clear G
                      exact step_run (v := (.int .i64 x.comp)) (by go_simp) rfl
                    | 68 =>
                      intro ho hd
                      obtain rfl := (Option.some.inj ho).symm
                      have d62 : vs 62 = (.bool false) := hd ⟨62, .guard⟩ (by simp) rfl
                      clear hd ho
                      refine step_yes G rfl rfl (by decide) d62 ?_
                      clear G
                      exact step_run (v := (.pointer (some ⟨xb, 4, none⟩))) (by go_simp) rfl
                    | 69 =>
                      intro ho hd
                      obtain rfl := (Option.some.inj ho).symm
                      have d68 : vs 68 = (.pointer (some ⟨xb, 4, none⟩)) := hd ⟨68, .data⟩ (by simp) rfl
                      have d62 : vs 62 = (.bool false) := hd ⟨62, .guard⟩ (by simp) rfl
                      clear hd ho
                      have h309 := G.h (j := 68) (d := 309) rfl (by decide) d68
                      refine step_yes G rfl rfl (by decide) d62 ?_
                      clear G
                      exact step_run (v := (.bool x.add)) (by go_simp) rfl
                    | 70 =>
                      intro ho hd
                      obtain rfl := (Option.some.inj ho).symm
                      have d63 : vs 63 = (.pointer (some ⟨gb3, 0, none⟩)) := hd ⟨63, .data⟩ (by simp) rfl
                      have d65 : vs 65 = (.int .i64 x.i) := hd ⟨65, .data⟩ (by simp) rfl
                      have d67 : vs 67 = (.int .i64 x.comp) := hd ⟨67, .data⟩ (by simp) rfl
                      have d69 : vs 69 = (.bool x.add) := hd ⟨69, .data⟩ (by simp) rfl
                      have d62 : vs 62 = (.bool false) := hd ⟨62, .guard⟩ (by simp) rfl
                      clear hd ho
                      have h304 := G.h (j := 63) (d := 304) rfl (by decide) d63
                      have h306 := G.h (j := 65) (d := 306) rfl (by decide) d65
                      have h308 := G.h (j := 67) (d := 308) rfl (by decide) d67
                      have h310 := G.h (j := 69) (d := 310) rfl (by decide) d69
                      refine step_yes G rfl rfl (by decide) d62 ?_
                      clear G
                      go_simp
                      refine (knows_any _ _ _ _ _ _ _ HSW.out.G HI.out.1 HI.out.2).mono ?_
                      rintro e w2 ⟨rfl, rfl⟩
                      rw [← HQ.out.2.2.2.2]
                      exact ⟨_, rfl, rfl, Below.refl _ _⟩
                    | 71 =>
                      intro ho hd
                      obtain rfl := (Option.some.inj ho).symm
                      have d62 : vs 62 = (.bool false) := hd ⟨62, .guard⟩ (by simp) rfl
                      clear hd ho
                      refine step_yes G rfl rfl (by decide) d62 ?_
                      clear G
                      exact step_run (v := (.pointer (some ⟨ub, 0, none⟩))) (by go_simp) rfl
                    | 72 =>
                      intro ho hd
                      obtain rfl := (Option.some.inj ho).symm
                      have d62 : vs 62 = (.bool false) := hd ⟨62, .guard⟩ (by simp) rfl
                      clear hd ho
                      refine step_yes G rfl rfl (by decide) d62 ?_
                      clear G
                      exact step_run (v := (.pointer (some ⟨xb, 2, none⟩))) (by go_simp) rfl
                    | 73 =>
                      intro ho hd
                      obtain rfl := (Option.some.inj ho).symm
                      have d72 : vs 72 = (.pointer (some ⟨xb, 2, none⟩)) := hd ⟨72, .data⟩ (by simp) rfl
                      have d62 : vs 62 = (.bool false) := hd ⟨62, .guard⟩ (by simp) rfl
                      clear hd ho
                      have h313 := G.h (j := 72) (d := 313) rfl (by decide) d72
                      refine step_yes G rfl rfl (by decide) d62 ?_
                      clear G
                      exact step_run (v := (.int .i64 x.i)) (by go_simp) rfl
                    | 74 =>
                      intro ho hd
                      obtain rfl := (Option.some.inj ho).symm
                      have d62 : vs 62 = (.bool false) := hd ⟨62, .guard⟩ (by simp) rfl
                      clear hd ho
                      refine step_yes G rfl rfl (by decide) d62 ?_
                      clear G
                      exact step_run (v := (.pointer (some ⟨xb, 3, none⟩))) (by go_simp) rfl
                    | 75 =>
                      intro ho hd
                      obtain rfl := (Option.some.inj ho).symm
                      have d74 : vs 74 = (.pointer (some ⟨xb, 3, none⟩)) := hd ⟨74, .data⟩ (by simp) rfl
                      have d62 : vs 62 = (.bool false) := hd ⟨62, .guard⟩ (by simp) rfl
                      clear hd ho
                      have h315 := G.h (j := 74) (d := 315) rfl (by decide) d74
                      refine step_yes G rfl rfl (by decide) d62 ?_
                      clear G
                      exact step_run (v := (.int .i64 x.comp)) (by go_simp) rfl
                    | 76 =>
                      intro ho hd
                      obtain rfl := (Option.some.inj ho).symm
                      have d62 : vs 62 = (.bool false) := hd ⟨62, .guard⟩ (by simp) rfl
                      clear hd ho
                      refine step_yes G rfl rfl (by decide) d62 ?_
                      clear G
                      exact step_run (v := (.pointer (some ⟨xb, 4, none⟩))) (by go_simp) rfl
                    | 77 =>
                      intro ho hd
                      obtain rfl := (Option.some.inj ho).symm
                      have d76 : vs 76 = (.pointer (some ⟨xb, 4, none⟩)) := hd ⟨76, .data⟩ (by simp) rfl
                      have d62 : vs 62 = (.bool false) := hd ⟨62, .guard⟩ (by simp) rfl
                      clear hd ho
                      have h317 := G.h (j := 76) (d := 317) rfl (by decide) d76
                      refine step_yes G rfl rfl (by decide) d62 ?_
                      clear G
                      exact step_run (v := (.bool x.add)) (by go_simp) rfl
                    | 78 =>
                      intro ho hd
                      obtain rfl := (Option.some.inj ho).symm
                      have d73 : vs 73 = (.int .i64 x.i) := hd ⟨73, .data⟩ (by simp) rfl
                      have d75 : vs 75 = (.int .i64 x.comp) := hd ⟨75, .data⟩ (by simp) rfl
                      have d77 : vs 77 = (.bool x.add) := hd ⟨77, .data⟩ (by simp) rfl
                      have d62 : vs 62 = (.bool false) := hd ⟨62, .guard⟩ (by simp) rfl
                      clear hd ho
                      have h314 := G.h (j := 73) (d := 314) rfl (by decide) d73
                      have h316 := G.h (j := 75) (d := 316) rfl (by decide) d75
                      have h318 := G.h (j := 77) (d := 318) rfl (by decide) d77
                      refine step_yes G rfl rfl (by decide) d62 ?_
                      clear G
                      exact step_run (v := (.agg #[.int .i64 x.i, .int .i64 x.comp, .bool x.add])) (by go_simp) rfl
                    | 79 =>
                      intro ho hd
                      obtain rfl := (Option.some.inj ho).symm
                      have d71 : vs 71 = (.pointer (some ⟨ub, 0, none⟩)) := hd ⟨71, .data⟩ (by simp) rfl
                      have d78 : vs 78 = (.agg #[.int .i64 x.i, .int .i64 x.comp, .bool x.add]) := hd ⟨78, .data⟩ (by simp) rfl
                      have d62 : vs 62 = (.bool false) := hd ⟨62, .guard⟩ (by simp) rfl
                      clear hd ho
                      have h312 := G.h (j := 71) (d := 312) rfl (by decide) d71
                      have h319 := G.h (j := 78) (d := 319) rfl (by decide) d78
                      refine step_yes G rfl rfl (by decide) d62 ?_
                      clear G
                      go_simp
                      refine (knows17_any _ _ _ (x.i, x.comp, x.add) _ HSW.out.R).mono ?_
                      rintro e w2 ⟨rfl, hb2⟩
                      exact ⟨_, rfl, rfl, hb2⟩
                    | 80 =>
                      intro ho hd
                      obtain rfl := (Option.some.inj ho).symm
                      have d70 : vs 70 = (.bool (knowsB r3.W (x.i, x.comp, x.add))) := hd ⟨70, .data⟩ (by simp) rfl
                      have d79 : vs 79 = (.bool (knowsB r3.W (x.i, x.comp, x.add))) := hd ⟨79, .data⟩ (by simp) rfl
                      have d62 : vs 62 = (.bool false) := hd ⟨62, .guard⟩ (by simp) rfl
                      clear hd ho
                      have h311 := G.h (j := 70) (d := 311) rfl (by decide) d70
                      have h320 := G.h (j := 79) (d := 320) rfl (by decide) d79
                      refine step_yes G rfl rfl (by decide) d62 ?_
                      clear G
                      exact step_run (v := (.bool false)) (by go_simp) rfl
                    | 81 =>
                      intro ho hd
                      obtain rfl := (Option.some.inj ho).symm
                      have d62 : vs 62 = (.bool false) := hd ⟨62, .data⟩ (by simp) rfl
                      have d80 : vs 80 = (.bool false) := hd ⟨80, .data⟩ (by simp) rfl
                      clear hd ho
                      have h303 := G.h (j := 62) (d := 303) rfl (by decide) d62
                      have h321 := G.h (j := 80) (d := 321) rfl (by decide) d80
                      refine step_open rfl ?_
                      clear G
                      exact step_run (v := (.bool false)) (by go_simp) rfl
                    | n + 82 =>
                      intro ho hd
                      simp at ho
                  · intro vs w' hb hR
                    have hv : vs 81 = .bool false := hR 81 (by simp)
                    refine hK3 _ _ (Met.intro ?_)
                    exact cut_done (bs := mskQ) (R := fun f wx => f 322 = .bool false ∧ Below w4.heap.size w4 wx) hJ3 _ _ (by kernel_rfl) ⟨Eq.trans (by kernel_rfl) hv, hb⟩ (by kernel_rfl)
                | some i =>
                  have hz : posZ x.set g3.sigs = (i : Int) := by unfold posZ; rw [hp]
                  have hz2 : posI (some i) = (i : Int) := rfl
                  rw [hz, hz2]
                  have HP := Lib.hid hp
                  have e5 := ne_self_i (i : Int)
                  have e6 : decide ((0 : Int) ≤ (i : Int)) = true := by simp
                  clear hp hz hz2
                  dsimp only [List.append]
                  refine wp_region_frame (by kernel_rfl) (by kernel_rfl) (by kernel_rfl) (byList (askY archs ub xb gb3 g3 r3 x va vc la lc wa wcc i)) (lasts_list (askY_lasts archs ub xb gb3 g3 r3 x va vc la lc wa wcc i)) ?_ ?_
                  · intro vs w' iq o A F hb ho hd
                    have m9 : A.tmps[9]?.getD undef = (.pointer (some ⟨gb3, 0, none⟩)) := F.m (by kernel_rfl) rfl
                    have m16 : A.tmps[16]?.getD undef = (.pointer (some ⟨ub, 0, none⟩)) := F.m (by kernel_rfl) rfl
                    have m18 : A.tmps[18]?.getD undef = (.pointer (some ⟨xb, 0, none⟩)) := F.m (by kernel_rfl) rfl
                    have m1 : A.tmps[1]?.getD undef = (.int .i64 archs) := F.m (by kernel_rfl) rfl
                    have m28 : A.tmps[28]?.getD undef = (.slice va g3.ts.length vc) := F.m (by kernel_rfl) rfl
                    have m29 : A.tmps[29]?.getD undef = (.int .i64 (i : Int)) := F.m (by kernel_rfl) rfl
                    have m30 : A.tmps[30]?.getD undef = (.bool true) := F.m (by kernel_rfl) rfl
                    have m31 : A.tmps[31]?.getD undef = (.int .i64 (i : Int)) := F.m (by kernel_rfl) rfl
                    have G := F.light (n := 378) (by kernel_rfl)
                    clear F
                    have HSW := Lib.hid (HS4.out.below hb)
                    obtain ⟨k3, k4, k5, k6, k7⟩ := HKP.out w' hb
                    clear hb
                    revert ho hd
                    match iq with
                    | 0 =>
                      intro ho hd
                      obtain rfl := (Option.some.inj ho).symm
                      clear hd ho
                      refine step_open rfl ?_
                      clear G
                      exact step_run (v := (.slice va g3.ts.length vc)) (by go_simp) rfl
                    | 1 =>
                      intro ho hd
                      obtain rfl := (Option.some.inj ho).symm
                      have d0 : vs 0 = (.slice va g3.ts.length vc) := hd ⟨0, .data⟩ (by simp) rfl
                      clear hd ho
                      have h241 := G.h (j := 0) (d := 241) rfl (by decide) d0
                      refine step_open rfl ?_
                      clear G
                      exact step_run (v := (.int .i64 (g3.ts.length : Int))) (by go_simp) rfl
                    | 2 =>
                      intro ho hd
                      obtain rfl := (Option.some.inj ho).symm
                      clear hd ho
                      refine step_open rfl ?_
                      clear G
                      exact step_run (v := (.pointer (some ⟨ub, 0, none⟩))) (by go_simp) rfl
                    | 3 =>
                      intro ho hd
                      obtain rfl := (Option.some.inj ho).symm
                      have d2 : vs 2 = (.pointer (some ⟨ub, 0, none⟩)) := hd ⟨2, .data⟩ (by simp) rfl
                      clear hd ho
                      have h243 := G.h (j := 2) (d := 243) rfl (by decide) d2
                      refine step_open rfl ?_
                      clear G
                      exact step_run (v := (.pointer (some ⟨ub, 0, none⟩))) (by go_simp) rfl
                    | 4 =>
                      intro ho hd
                      obtain rfl := (Option.some.inj ho).symm
                      have d3 : vs 3 = (.pointer (some ⟨ub, 0, none⟩)) := hd ⟨3, .data⟩ (by simp) rfl
                      clear hd ho
                      have h244 := G.h (j := 3) (d := 244) rfl (by decide) d3
                      refine step_open rfl ?_
                      clear G
                      exact step_run (v := (.pointer (some ⟨ub, 3, none⟩))) (by go_simp) rfl
                    | 5 =>
                      intro ho hd
                      obtain rfl := (Option.some.inj ho).symm
                      have d4 : vs 4 = (.pointer (some ⟨ub, 3, none⟩)) := hd ⟨4, .data⟩ (by simp) rfl
                      clear hd ho
                      have h245 := G.h (j := 4) (d := 245) rfl (by decide) d4
                      refine step_open rfl ?_
                      clear G
                      exact step_run (v := (.slice la g3.ts.length lc)) (by go_simp) rfl
                    | 6 =>
                      intro ho hd
                      obtain rfl := (Option.some.inj ho).symm
                      have d5 : vs 5 = (.slice la g3.ts.length lc) := hd ⟨5, .data⟩ (by simp) rfl
                      clear hd ho
                      have h246 := G.h (j := 5) (d := 246) rfl (by decide) d5
                      refine step_open rfl ?_
                      clear G
                      exact step_run (v := (.int .i64 (g3.ts.length : Int))) (by go_simp) rfl
                    | 7 =>
                      intro ho hd
                      obtain rfl := (Option.some.inj ho).symm
                      have d1 : vs 1 = (.int .i64 (g3.ts.length : Int)) := hd ⟨1, .data⟩ (by simp) rfl
                      have d6 : vs 6 = (.int .i64 (g3.ts.length : Int)) := hd ⟨6, .data⟩ (by simp) rfl
                      clear hd ho
                      have h242 := G.h (j := 1) (d := 242) rfl (by decide) d1
                      have h247 := G.h (j := 6) (d := 247) rfl (by decide) d6
                      refine step_open rfl ?_
                      clear G
                      exact step_run (v := (.bool false)) (by go_simp) rfl
                    | 8 =>
                      intro ho hd
                      obtain rfl := (Option.some.inj ho).symm
                      have d7 : vs 7 = (.bool false) := hd ⟨7, .data⟩ (by simp) rfl
                      clear hd ho
                      have h248 := G.h (j := 7) (d := 248) rfl (by decide) d7
                      refine step_open rfl ?_
                      clear G
                      exact step_run (v := (.bool false)) (by go_simp) rfl
                    | 9 =>
                      intro ho hd
                      obtain rfl := (Option.some.inj ho).symm
                      have d8 : vs 8 = (.bool false) := hd ⟨8, .guard⟩ (by simp) rfl
                      clear hd ho
                      refine step_yes G rfl rfl (by decide) d8 ?_
                      clear G
                      exact step_run (v := (.pointer (some ⟨gb3, 0, none⟩))) (by go_simp) rfl
                    | 10 =>
                      intro ho hd
                      obtain rfl := (Option.some.inj ho).symm
                      have d9 : vs 9 = (.pointer (some ⟨gb3, 0, none⟩)) := hd ⟨9, .data⟩ (by simp) rfl
                      have d8 : vs 8 = (.bool false) := hd ⟨8, .guard⟩ (by simp) rfl
                      clear hd ho
                      have h250 := G.h (j := 9) (d := 250) rfl (by decide) d9
                      refine step_yes G rfl rfl (by decide) d8 ?_
                      clear G
                      go_simp
                      refine (len_any _ _ _ _ HSW.out.G).mono ?_
                      rintro e w2 ⟨rfl, rfl⟩
                      exact ⟨_, rfl, rfl, Below.refl _ _⟩
                    | 11 =>
                      intro ho hd
                      obtain rfl := (Option.some.inj ho).symm
                      have d8 : vs 8 = (.bool false) := hd ⟨8, .guard⟩ (by simp) rfl
                      clear hd ho
                      refine step_yes G rfl rfl (by decide) d8 ?_
                      clear G
                      exact step_run (v := (.pointer (some ⟨ub, 0, none⟩))) (by go_simp) rfl
                    | 12 =>
                      intro ho hd
                      obtain rfl := (Option.some.inj ho).symm
                      have d11 : vs 11 = (.pointer (some ⟨ub, 0, none⟩)) := hd ⟨11, .data⟩ (by simp) rfl
                      have d8 : vs 8 = (.bool false) := hd ⟨8, .guard⟩ (by simp) rfl
                      clear hd ho
                      have h252 := G.h (j := 11) (d := 252) rfl (by decide) d11
                      refine step_yes G rfl rfl (by decide) d8 ?_
                      clear G
                      exact step_run (v := (.pointer (some ⟨ub, 0, none⟩))) (by go_simp) rfl
                    | 13 =>
                      intro ho hd
                      obtain rfl := (Option.some.inj ho).symm
                      have d12 : vs 12 = (.pointer (some ⟨ub, 0, none⟩)) := hd ⟨12, .data⟩ (by simp) rfl
                      have d8 : vs 8 = (.bool false) := hd ⟨8, .guard⟩ (by simp) rfl
                      clear hd ho
                      have h253 := G.h (j := 12) (d := 253) rfl (by decide) d12
                      refine step_yes G rfl rfl (by decide) d8 ?_
                      clear G
                      exact step_run (v := (.pointer (some ⟨ub, 3, none⟩))) (by go_simp) rfl
                    | 14 =>
                      intro ho hd
                      obtain rfl := (Option.some.inj ho).symm
                      have d13 : vs 13 = (.pointer (some ⟨ub, 3, none⟩)) := hd ⟨13, .data⟩ (by simp) rfl
                      have d8 : vs 8 = (.bool false) := hd ⟨8, .guard⟩ (by simp) rfl
                      clear hd ho
                      have h254 := G.h (j := 13) (d := 254) rfl (by decide) d13
                      refine step_yes G rfl rfl (by decide) d8 ?_
                      clear G
                      exact step_run (v := (.slice la g3.ts.length lc)) (by go_simp) rfl
                    | 15 =>
                      intro ho hd
                      obtain rfl := (Option.some.inj ho).symm
                      have d14 : vs 14 = (.slice la g3.ts.length lc) := hd ⟨14, .data⟩ (by simp) rfl
                      have d8 : vs 8 = (.bool false) := hd ⟨8, .guard⟩ (by simp) rfl
                      clear hd ho
                      have h255 := G.h (j := 14) (d := 255) rfl (by decide) d14
                      refine step_yes G rfl rfl (by decide) d8 ?_
                      clear G
                      exact step_run (v := (.int .i64 (g3.ts.length : Int))) (by go_simp) rfl
                    | 16 =>
                      intro ho hd
                      obtain rfl := (Option.some.inj ho).symm
                      have d10 : vs 10 = (.int .i64 (g3.ts.length : Int)) := hd ⟨10, .data⟩ (by simp) rfl
                      have d15 : vs 15 = (.int .i64 (g3.ts.length : Int)) := hd ⟨15, .data⟩ (by simp) rfl
                      have d8 : vs 8 = (.bool false) := hd ⟨8, .guard⟩ (by simp) rfl
                      clear hd ho
                      have h251 := G.h (j := 10) (d := 251) rfl (by decide) d10
                      have h256 := G.h (j := 15) (d := 256) rfl (by decide) d15
                      refine step_yes G rfl rfl (by decide) d8 ?_
                      clear G
                      exact step_run (v := (.bool false)) (by go_simp) rfl
                    | 17 =>
                      intro ho hd
                      obtain rfl := (Option.some.inj ho).symm
                      have d8 : vs 8 = (.bool false) := hd ⟨8, .data⟩ (by simp) rfl
                      have d16 : vs 16 = (.bool false) := hd ⟨16, .data⟩ (by simp) rfl
                      clear hd ho
                      have h249 := G.h (j := 8) (d := 249) rfl (by decide) d8
                      have h257 := G.h (j := 16) (d := 257) rfl (by decide) d16
                      refine step_open rfl ?_
                      clear G
                      exact step_run (v := (.bool false)) (by go_simp) rfl
                    | 18 =>
                      intro ho hd
                      obtain rfl := (Option.some.inj ho).symm
                      have d17 : vs 17 = (.bool false) := hd ⟨17, .data⟩ (by simp) rfl
                      clear hd ho
                      have h258 := G.h (j := 17) (d := 258) rfl (by decide) d17
                      refine step_open rfl ?_
                      clear G
                      exact step_run (v := (.bool false)) (by go_simp) rfl
                    | 19 =>
                      intro ho hd
                      obtain rfl := (Option.some.inj ho).symm
                      have d18 : vs 18 = (.bool false) := hd ⟨18, .guard⟩ (by simp) rfl
                      clear hd ho
                      refine step_yes G rfl rfl (by decide) d18 ?_
                      clear G
                      exact step_run (v := (.pointer (some ⟨gb3, 0, none⟩))) (by go_simp) rfl
                    | 20 =>
                      intro ho hd
                      obtain rfl := (Option.some.inj ho).symm
                      have d19 : vs 19 = (.pointer (some ⟨gb3, 0, none⟩)) := hd ⟨19, .data⟩ (by simp) rfl
                      have d18 : vs 18 = (.bool false) := hd ⟨18, .guard⟩ (by simp) rfl
                      clear hd ho
                      have h260 := G.h (j := 19) (d := 260) rfl (by decide) d19
                      refine step_yes G rfl rfl (by decide) d18 ?_
                      clear G
                      go_simp
                      refine (room_any _ _ _ _ HSW.out.G).mono ?_
                      rintro e w2 ⟨rfl, nq, rfl⟩
                      rw [HQ.out.1]
                      exact ⟨_, rfl, rfl, below_drewN (Below.refl _ _) _⟩
                    | 21 =>
                      intro ho hd
                      obtain rfl := (Option.some.inj ho).symm
                      have d18 : vs 18 = (.bool false) := hd ⟨18, .guard⟩ (by simp) rfl
                      clear hd ho
                      refine step_yes G rfl rfl (by decide) d18 ?_
                      clear G
                      exact step_run (v := (.int .i64 archs)) (by go_simp) rfl
                    | 22 =>
                      intro ho hd
                      obtain rfl := (Option.some.inj ho).symm
                      have d18 : vs 18 = (.bool false) := hd ⟨18, .guard⟩ (by simp) rfl
                      clear hd ho
                      refine step_yes G rfl rfl (by decide) d18 ?_
                      clear G
                      exact step_run (v := (.pointer (some ⟨ub, 0, none⟩))) (by go_simp) rfl
                    | 23 =>
                      intro ho hd
                      obtain rfl := (Option.some.inj ho).symm
                      have d22 : vs 22 = (.pointer (some ⟨ub, 0, none⟩)) := hd ⟨22, .data⟩ (by simp) rfl
                      have d18 : vs 18 = (.bool false) := hd ⟨18, .guard⟩ (by simp) rfl
                      clear hd ho
                      have h263 := G.h (j := 22) (d := 263) rfl (by decide) d22
                      refine step_yes G rfl rfl (by decide) d18 ?_
                      clear G
                      exact step_run (v := (.pointer (some ⟨ub, 0, none⟩))) (by go_simp) rfl
                    | 24 =>
                      intro ho hd
                      obtain rfl := (Option.some.inj ho).symm
                      have d23 : vs 23 = (.pointer (some ⟨ub, 0, none⟩)) := hd ⟨23, .data⟩ (by simp) rfl
                      have d18 : vs 18 = (.bool false) := hd ⟨18, .guard⟩ (by simp) rfl
                      clear hd ho
                      have h264 := G.h (j := 23) (d := 264) rfl (by decide) d23
                      refine step_yes G rfl rfl (by decide) d18 ?_
                      clear G
                      exact step_run (v := (.pointer (some ⟨ub, 3, none⟩))) (by go_simp) rfl
                    | 25 =>
                      intro ho hd
                      obtain rfl := (Option.some.inj ho).symm
                      have d24 : vs 24 = (.pointer (some ⟨ub, 3, none⟩)) := hd ⟨24, .data⟩ (by simp) rfl
                      have d18 : vs 18 = (.bool false) := hd ⟨18, .guard⟩ (by simp) rfl
                      clear hd ho
                      have h265 := G.h (j := 24) (d := 265) rfl (by decide) d24
                      refine step_yes G rfl rfl (by decide) d18 ?_
                      clear G
                      exact step_run (v := (.slice la g3.ts.length lc)) (by go_simp) rfl
                    | 26 =>
                      intro ho hd
                      obtain rfl := (Option.some.inj ho).symm
                      have d25 : vs 25 = (.slice la g3.ts.length lc) := hd ⟨25, .data⟩ (by simp) rfl
                      have d18 : vs 18 = (.bool false) := hd ⟨18, .guard⟩ (by simp) rfl
                      clear hd ho
                      have h266 := G.h (j := 25) (d := 266) rfl (by decide) d25
                      refine step_yes G rfl rfl (by decide) d18 ?_
                      clear G
                      exact step_run (v := (.int .i64 (g3.ts.length : Int))) (by go_simp) rfl
                    | 27 =>
                      intro ho hd
                      obtain rfl := (Option.some.inj ho).symm
                      have d21 : vs 21 = (.int .i64 archs) := hd ⟨21, .data⟩ (by simp) rfl
                      have d26 : vs 26 = (.int .i64 (g3.ts.length : Int)) := hd ⟨26, .data⟩ (by simp) rfl
                      have d18 : vs 18 = (.bool false) := hd ⟨18, .guard⟩ (by simp) rfl
                      clear hd ho
                      have h262 := G.h (j := 21) (d := 262) rfl (by decide) d21
                      have h267 := G.h (j := 26) (d := 267) rfl (by decide) d26
                      refine step_yes G rfl rfl (by decide) d18 ?_
                      clear G
                      exact step_run (v := (.int .i64 (archs - (g3.ts.length : Int)))) (by go_simp) rfl
                    | 28 =>
                      intro ho hd
                      obtain rfl := (Option.some.inj ho).symm
                      have d20 : vs 20 = (.int .i64 (archs - (g3.ts.length : Int))) := hd ⟨20, .data⟩ (by simp) rfl
                      have d27 : vs 27 = (.int .i64 (archs - (g3.ts.length : Int))) := hd ⟨27, .data⟩ (by simp) rfl
                      have d18 : vs 18 = (.bool false) := hd ⟨18, .guard⟩ (by simp) rfl
                      clear hd ho
                      have h261 := G.h (j := 20) (d := 261) rfl (by decide) d20
                      have h268 := G.h (j := 27) (d := 268) rfl (by decide) d27
                      refine step_yes G rfl rfl (by decide) d18 ?_
                      clear G
                      exact step_run (v := (.bool false)) (by go_simp) rfl
                    | 29 =>
                      intro ho hd
                      obtain rfl := (Option.some.inj ho).symm
                      have d18 : vs 18 = (.bool false) := hd ⟨18, .data⟩ (by simp) rfl
                      have d28 : vs 28 = (.bool false) := hd ⟨28, .data⟩ (by simp) rfl
                      clear hd ho
                      have h259 := G.h (j := 18) (d := 259) rfl (by decide) d18
                      have h269 := G.h (j := 28) (d := 269) rfl (by decide) d28
                      refine step_open rfl ?_
                      clear G
                      exact step_run (v := (.bool false)) (by go_simp) rfl
                    | 30 =>
                      intro ho hd
                      obtain rfl := (Option.some.inj ho).symm
                      have d29 : vs 29 = (.bool false) := hd ⟨29, .data⟩ (by simp) rfl
                      clear hd ho
                      have h270 := G.h (j := 29) (d := 270) rfl (by decide) d29
                      refine step_open rfl ?_
                      clear G
                      exact step_run (v := (.bool false)) (by go_simp) rfl
                    | 31 =>
                      intro ho hd
                      obtain rfl := (Option.some.inj ho).symm
                      have d30 : vs 30 = (.bool false) := hd ⟨30, .guard⟩ (by simp) rfl
                      clear hd ho
                      refine step_yes G rfl rfl (by decide) d30 ?_
                      clear G
                      exact step_run (v := (.pointer (some ⟨gb3, 0, none⟩))) (by go_simp) rfl
                    | 32 =>
                      intro ho hd
                      obtain rfl := (Option.some.inj ho).symm
                      have d31 : vs 31 = (.pointer (some ⟨gb3, 0, none⟩)) := hd ⟨31, .data⟩ (by simp) rfl
                      have d30 : vs 30 = (.bool false) := hd ⟨30, .guard⟩ (by simp) rfl
                      clear hd ho
                      have h272 := G.h (j := 31) (d := 272) rfl (by decide) d31
                      refine step_yes G rfl rfl (by decide) d30 ?_
                      clear G
                      go_simp
                      refine (ways_any _ _ _ _ HSW.out.G).mono ?_
                      rintro e w2 ⟨rfl, rfl⟩
                      exact ⟨_, rfl, rfl, Below.refl _ _⟩
                    | 33 =>
                      intro ho hd
                      obtain rfl := (Option.some.inj ho).symm
                      have d30 : vs 30 = (.bool false) := hd ⟨30, .guard⟩ (by simp) rfl
                      clear hd ho
                      refine step_yes G rfl rfl (by decide) d30 ?_
                      clear G
                      exact step_run (v := (.pointer (some ⟨ub, 0, none⟩))) (by go_simp) rfl
                    | 34 =>
                      intro ho hd
                      obtain rfl := (Option.some.inj ho).symm
                      have d33 : vs 33 = (.pointer (some ⟨ub, 0, none⟩)) := hd ⟨33, .data⟩ (by simp) rfl
                      have d30 : vs 30 = (.bool false) := hd ⟨30, .guard⟩ (by simp) rfl
                      clear hd ho
                      have h274 := G.h (j := 33) (d := 274) rfl (by decide) d33
                      refine step_yes G rfl rfl (by decide) d30 ?_
                      clear G
                      exact step_run (v := (.pointer (some ⟨ub, 0, none⟩))) (by go_simp) rfl
                    | 35 =>
                      intro ho hd
                      obtain rfl := (Option.some.inj ho).symm
                      have d34 : vs 34 = (.pointer (some ⟨ub, 0, none⟩)) := hd ⟨34, .data⟩ (by simp) rfl
                      have d30 : vs 30 = (.bool false) := hd ⟨30, .guard⟩ (by simp) rfl
                      clear hd ho
                      have h275 := G.h (j := 34) (d := 275) rfl (by decide) d34
                      refine step_yes G rfl rfl (by decide) d30 ?_
                      clear G
                      exact step_run (v := (.pointer (some ⟨ub, 4, none⟩))) (by go_simp) rfl
                    | 36 =>
                      intro ho hd
                      obtain rfl := (Option.some.inj ho).symm
                      have d35 : vs 35 = (.pointer (some ⟨ub, 4, none⟩)) := hd ⟨35, .data⟩ (by simp) rfl
                      have d30 : vs 30 = (.bool false) := hd ⟨30, .guard⟩ (by simp) rfl
                      clear hd ho
                      have h276 := G.h (j := 35) (d := 276) rfl (by decide) d35
                      refine step_yes G rfl rfl (by decide) d30 ?_
                      clear G
                      exact step_run (v := (.slice wa g3.nw wcc)) (by go_simp) rfl
                    | 37 =>
                      intro ho hd
                      obtain rfl := (Option.some.inj ho).symm
                      have d36 : vs 36 = (.slice wa g3.nw wcc) := hd ⟨36, .data⟩ (by simp) rfl
                      have d30 : vs 30 = (.bool false) := hd ⟨30, .guard⟩ (by simp) rfl
                      clear hd ho
                      have h277 := G.h (j := 36) (d := 277) rfl (by decide) d36
                      refine step_yes G rfl rfl (by decide) d30 ?_
                      clear G
                      exact step_run (v := (.int .i64 (g3.nw : Int))) (by go_simp) rfl
                    | 38 =>
                      intro ho hd
                      obtain rfl := (Option.some.inj ho).symm
                      have d32 : vs 32 = (.int .i64 (g3.nw : Int)) := hd ⟨32, .data⟩ (by simp) rfl
                      have d37 : vs 37 = (.int .i64 (g3.nw : Int)) := hd ⟨37, .data⟩ (by simp) rfl
                      have d30 : vs 30 = (.bool false) := hd ⟨30, .guard⟩ (by simp) rfl
                      clear hd ho
                      have h273 := G.h (j := 32) (d := 273) rfl (by decide) d32
                      have h278 := G.h (j := 37) (d := 278) rfl (by decide) d37
                      refine step_yes G rfl rfl (by decide) d30 ?_
                      clear G
                      exact step_run (v := (.bool false)) (by go_simp) rfl
                    | 39 =>
                      intro ho hd
                      obtain rfl := (Option.some.inj ho).symm
                      have d30 : vs 30 = (.bool false) := hd ⟨30, .data⟩ (by simp) rfl
                      have d38 : vs 38 = (.bool false) := hd ⟨38, .data⟩ (by simp) rfl
                      clear hd ho
                      have h271 := G.h (j := 30) (d := 271) rfl (by decide) d30
                      have h279 := G.h (j := 38) (d := 279) rfl (by decide) d38
                      refine step_open rfl ?_
                      clear G
                      exact step_run (v := (.bool false)) (by go_simp) rfl
                    | 40 =>
                      intro ho hd
                      obtain rfl := (Option.some.inj ho).symm
                      have d39 : vs 39 = (.bool false) := hd ⟨39, .data⟩ (by simp) rfl
                      clear hd ho
                      have h280 := G.h (j := 39) (d := 280) rfl (by decide) d39
                      refine step_open rfl ?_
                      clear G
                      exact step_run (v := (.bool false)) (by go_simp) rfl
                    | 41 =>
                      intro ho hd
                      obtain rfl := (Option.some.inj ho).symm
                      have d40 : vs 40 = (.bool false) := hd ⟨40, .guard⟩ (by simp) rfl
                      clear hd ho
                      refine step_yes G rfl rfl (by decide) d40 ?_
                      clear G
                      exact step_run (v := (.bool true)) (by go_simp) rfl
                    | 42 =>
                      intro ho hd
                      obtain rfl := (Option.some.inj ho).symm
                      have d40 : vs 40 = (.bool false) := hd ⟨40, .guard⟩ (by simp) rfl
                      clear hd ho
                      refine step_yes G rfl rfl (by decide) d40 ?_
                      clear G
                      exact step_run (v := (.int .i64 (i : Int))) (by go_simp) rfl
                    | 43 =>
                      intro ho hd
                      obtain rfl := (Option.some.inj ho).symm
                      have d42 : vs 42 = (.int .i64 (i : Int)) := hd ⟨42, .data⟩ (by simp) rfl
                      have d40 : vs 40 = (.bool false) := hd ⟨40, .guard⟩ (by simp) rfl
                      clear hd ho
                      have h283 := G.h (j := 42) (d := 283) rfl (by decide) d42
                      refine step_yes G rfl rfl (by decide) d40 ?_
                      clear G
                      exact step_run (v := (.bool true)) (by go_simp) rfl
                    | 44 =>
                      intro ho hd
                      obtain rfl := (Option.some.inj ho).symm
                      have d41 : vs 41 = (.bool true) := hd ⟨41, .data⟩ (by simp) rfl
                      have d43 : vs 43 = (.bool true) := hd ⟨43, .data⟩ (by simp) rfl
                      have d40 : vs 40 = (.bool false) := hd ⟨40, .guard⟩ (by simp) rfl
                      clear hd ho
                      have h282 := G.h (j := 41) (d := 282) rfl (by decide) d41
                      have h284 := G.h (j := 43) (d := 284) rfl (by decide) d43
                      refine step_yes G rfl rfl (by decide) d40 ?_
                      clear G
                      exact step_run (v := (.bool false)) (by go_simp) rfl
                    | 45 =>
                      intro ho hd
                      obtain rfl := (Option.some.inj ho).symm
                      have d40 : vs 40 = (.bool false) := hd ⟨40, .data⟩ (by simp) rfl
                      have d44 : vs 44 = (.bool false) := hd ⟨44, .data⟩ (by simp) rfl
                      clear hd ho
                      have h281 := G.h (j := 40) (d := 281) rfl (by decide) d40
                      have h285 := G.h (j := 44) (d := 285) rfl (by decide) d44
                      refine step_open rfl ?_
                      clear G
                      exact step_run (v := (.bool false)) (by go_simp) rfl
                    | 46 =>
                      intro ho hd
                      obtain rfl := (Option.some.inj ho).symm
                      have d45 : vs 45 = (.bool false) := hd ⟨45, .data⟩ (by simp) rfl
                      clear hd ho
                      have h286 := G.h (j := 45) (d := 286) rfl (by decide) d45
                      refine step_open rfl ?_
                      clear G
                      exact step_run (v := (.bool false)) (by go_simp) rfl
                    | 47 =>
                      intro ho hd
                      obtain rfl := (Option.some.inj ho).symm
                      have d46 : vs 46 = (.bool false) := hd ⟨46, .guard⟩ (by simp) rfl
                      clear hd ho
                      refine step_yes G rfl rfl (by decide) d46 ?_
                      clear G
                      exact step_run (v := (.bool true)) (by go_simp) rfl
                    | 48 =>
                      intro ho hd
                      obtain rfl := (Option.some.inj ho).symm
                      have d47 : vs 47 = (.bool true) := hd ⟨47, .data⟩ (by simp) rfl
                      have d46 : vs 46 = (.bool false) := hd ⟨46, .guard⟩ (by simp) rfl
                      clear hd ho
                      have h288 := G.h (j := 47) (d := 288) rfl (by decide) d47
                      refine step_yes G rfl rfl (by decide) d46 ?_
                      clear G
                      exact step_run (v := (.bool true)) (by go_simp) rfl
                    | 49 =>
                      intro ho hd
                      obtain rfl := (Option.some.inj ho).symm
                      have d48 : vs 48 = (.bool true) := hd ⟨48, .guard⟩ (by simp) rfl
                      clear hd ho
                      refine step_yes G rfl rfl (by decide) d48 ?_
                      clear G
                      exact step_run (v := (.int .i64 (i : Int))) (by go_simp) rfl
                    | 50 =>
                      intro ho hd
                      obtain rfl := (Option.some.inj ho).symm
                      have d48 : vs 48 = (.bool true) := hd ⟨48, .guard⟩ (by simp) rfl
                      clear hd ho
                      refine step_yes G rfl rfl (by decide) d48 ?_
                      clear G
                      exact step_run (v := (.int .i64 (i : Int))) (by go_simp) rfl
                    | 51 =>
                      intro ho hd
                      obtain rfl := (Option.some.inj ho).symm
                      have d49 : vs 49 = (.int .i64 (i : Int)) := hd ⟨49, .data⟩ (by simp) rfl
                      have d50 : vs 50 = (.int .i64 (i : Int)) := hd ⟨50, .data⟩ (by simp) rfl
                      have d48 : vs 48 = (.bool true) := hd ⟨48, .guard⟩ (by simp) rfl
                      clear hd ho
                      have h290 := G.h (j := 49) (d := 290) rfl (by decide) d49
                      have h291 := G.h (j := 50) (d := 291) rfl (by decide) d50
                      refine step_yes G rfl rfl (by decide) d48 ?_
                      clear G
                      exact step_run (v := (.bool false)) (by go_simp) rfl
                    | 52 =>
                      intro ho hd
                      obtain rfl := (Option.some.inj ho).symm
                      have d48 : vs 48 = (.bool true) := hd ⟨48, .data⟩ (by simp) rfl
                      have d51 : vs 51 = (.bool false) := hd ⟨51, .data⟩ (by simp) rfl
                      have d46 : vs 46 = (.bool false) := hd ⟨46, .guard⟩ (by simp) rfl
                      clear hd ho
                      have h289 := G.h (j := 48) (d := 289) rfl (by decide) d48
                      have h292 := G.h (j := 51) (d := 292) rfl (by decide) d51
                      refine step_yes G rfl rfl (by decide) d46 ?_
                      clear G
                      exact step_run (v := (.bool false)) (by go_simp) rfl
                    | 53 =>
                      intro ho hd
                      obtain rfl := (Option.some.inj ho).symm
                      have d46 : vs 46 = (.bool false) := hd ⟨46, .data⟩ (by simp) rfl
                      have d52 : vs 52 = (.bool false) := hd ⟨52, .data⟩ (by simp) rfl
                      clear hd ho
                      have h287 := G.h (j := 46) (d := 287) rfl (by decide) d46
                      have h293 := G.h (j := 52) (d := 293) rfl (by decide) d52
                      refine step_open rfl ?_
                      clear G
                      exact step_run (v := (.bool false)) (by go_simp) rfl
                    | 54 =>
                      intro ho hd
                      obtain rfl := (Option.some.inj ho).symm
                      have d53 : vs 53 = (.bool false) := hd ⟨53, .data⟩ (by simp) rfl
                      clear hd ho
                      have h294 := G.h (j := 53) (d := 294) rfl (by decide) d53
                      refine step_open rfl ?_
                      clear G
                      exact step_run (v := (.bool false)) (by go_simp) rfl
                    | 55 =>
                      intro ho hd
                      obtain rfl := (Option.some.inj ho).symm
                      have d54 : vs 54 = (.bool false) := hd ⟨54, .guard⟩ (by simp) rfl
                      clear hd ho
                      refine step_yes G rfl rfl (by decide) d54 ?_
                      clear G
                      exact step_run (v := (.bool true)) (by go_simp) rfl
                    | 56 =>
                      intro ho hd
                      obtain rfl := (Option.some.inj ho).symm
                      have d55 : vs 55 = (.bool true) := hd ⟨55, .data⟩ (by simp) rfl
                      have d54 : vs 54 = (.bool false) := hd ⟨54, .guard⟩ (by simp) rfl
                      clear hd ho
                      have h296 := G.h (j := 55) (d := 296) rfl (by decide) d55
                      refine step_yes G rfl rfl (by decide) d54 ?_
                      clear G
                      exact step_run (v := (.bool false)) (by go_simp) rfl
                    | 57 =>
                      intro ho hd
                      obtain rfl := (Option.some.inj ho).symm
                      have d56 : vs 56 = (.bool false) := hd ⟨56, .data⟩ (by simp) rfl
                      have d54 : vs 54 = (.bool false) := hd ⟨54, .guard⟩ (by simp) rfl
                      clear hd ho
                      have h297 := G.h (j := 56) (d := 297) rfl (by decide) d56
                      refine step_yes G rfl rfl (by decide) d54 ?_
                      clear G
                      exact step_run (v := (.bool false)) (by go_simp) rfl
                    | 58 =>
                      intro ho hd
                      obtain rfl := (Option.some.inj ho).symm
                      have d57 : vs 57 = (.bool false) := hd ⟨57, .guard⟩ (by simp) rfl
                      clear hd ho
                      exact step_not G rfl rfl (by decide) d57 rfl
                    | 59 =>
                      intro ho hd
                      obtain rfl := (Option.some.inj ho).symm
                      have d57 : vs 57 = (.bool false) := hd ⟨57, .guard⟩ (by simp) rfl
                      clear hd ho
                      exact step_not G rfl rfl (by decide) d57 rfl
                    | 60 =>
                      intro ho hd
                      obtain rfl := (Option.some.inj ho).symm
                      have d57 : vs 57 = (.bool false) := hd ⟨57, .data⟩ (by simp) rfl
                      have d59 : vs 59 = undef := hd ⟨59, .data⟩ (by simp) rfl
                      have d54 : vs 54 = (.bool false) := hd ⟨54, .guard⟩ (by simp) rfl
                      clear hd ho
                      have h298 := G.h (j := 57) (d := 298) rfl (by decide) d57
                      have h300 := G.h (j := 59) (d := 300) rfl (by decide) d59
                      refine step_yes G rfl rfl (by decide) d54 ?_
                      clear G
                      exact step_run (v := (.bool false)) (by go_simp) rfl
                    | 61 =>
                      intro ho hd
                      obtain rfl := (Option.some.inj ho).symm
                      have d54 : vs 54 = (.bool false) := hd ⟨54, .data⟩ (by simp) rfl
                      have d60 : vs 60 = (.bool false) := hd ⟨60, .data⟩ (by simp) rfl
                      clear hd ho
                      have h295 := G.h (j := 54) (d := 295) rfl (by decide) d54
                      have h301 := G.h (j := 60) (d := 301) rfl (by decide) d60
                      refine step_open rfl ?_
                      clear G
                      exact step_run (v := (.bool false)) (by go_simp) rfl
                    | 62 =>
                      intro ho hd
                      obtain rfl := (Option.some.inj ho).symm
                      have d61 : vs 61 = (.bool false) := hd ⟨61, .data⟩ (by simp) rfl
                      clear hd ho
                      have h302 := G.h (j := 61) (d := 302) rfl (by decide) d61
                      refine step_open rfl ?_
                      clear G
                      exact step_run (v := (.bool false)) (by go_simp) rfl
                    | 63 =>
                      intro ho hd
                      obtain rfl := (Option.some.inj ho).symm
                      have d62 : vs 62 = (.bool false) := hd ⟨62, .guard⟩ (by simp) rfl
                      clear hd ho
                      refine step_yes G rfl rfl (by decide) d62 ?_
                      clear G
                      exact step_run (v := (.pointer (some ⟨gb3, 0, none⟩))) (by go_simp) rfl
                    | 64 =>
                      intro ho hd
                      obtain rfl := (Option.some.inj ho).symm
                      have d62 : vs 62 = (.bool false) := hd ⟨62, .guard⟩ (by simp) rfl
                      clear hd ho
                      refine step_yes G rfl rfl (by decide) d62 ?_
                      clear G
                      exact step_run (v := (.pointer (some ⟨xb, 2, none⟩))) (by go_simp) rfl
                    | 65 =>
                      intro ho hd
                      obtain rfl := (Option.some.inj ho).symm
                      have d64 : vs 64 = (.pointer (some ⟨xb, 2, none⟩)) := hd ⟨64, .data⟩ (by simp) rfl
                      have d62 : vs 62 = (.bool false) := hd ⟨62, .guard⟩ (by simp) rfl
                      clear hd ho
                      have h305 := G.h (j := 64) (d := 305) rfl (by decide) d64
                      refine step_yes G rfl rfl (by decide) d62 ?_
                      clear G
                      exact step_run (v := (.int .i64 x.i)) (by go_simp) rfl
                    | 66 =>
                      intro ho hd
                      obtain rfl := (Option.some.inj ho).symm
                      have d62 : vs 62 = (.bool false) := hd ⟨62, .guard⟩ (by simp) rfl
                      clear hd ho
                      refine step_yes G rfl rfl (by decide) d62 ?_
                      clear G
                      exact step_run (v := (.pointer (some ⟨xb, 3, none⟩))) (by go_simp) rfl
                    | 67 =>
                      intro ho hd
                      obtain rfl := (Option.some.inj ho).symm
                      have d66 : vs 66 = (.pointer (some ⟨xb, 3, none⟩)) := hd ⟨66, .data⟩ (by simp) rfl
                      have d62 : vs 62 = (.bool false) := hd ⟨62, .guard⟩ (by simp) rfl
                      clear hd ho
                      have h307 := G.h (j := 66) (d := 307) rfl (by decide) d66
                      refine step_yes G rfl rfl (by decide) d62 ?_
                      clear G
                      exact step_run (v := (.int .i64 x.comp)) (by go_simp) rfl
                    | 68 =>
                      intro ho hd
                      obtain rfl := (Option.some.inj ho).symm
                      have d62 : vs 62 = (.bool false) := hd ⟨62, .guard⟩ (by simp) rfl
                      clear hd ho
                      refine step_yes G rfl rfl (by decide) d62 ?_
                      clear G
                      exact step_run (v := (.pointer (some ⟨xb, 4, none⟩))) (by go_simp) rfl
                    | 69 =>
                      intro ho hd
                      obtain rfl := (Option.some.inj ho).symm
                      have d68 : vs 68 = (.pointer (some ⟨xb, 4, none⟩)) := hd ⟨68, .data⟩ (by simp) rfl
                      have d62 : vs 62 = (.bool false) := hd ⟨62, .guard⟩ (by simp) rfl
                      clear hd ho
                      have h309 := G.h (j := 68) (d := 309) rfl (by decide) d68
                      refine step_yes G rfl rfl (by decide) d62 ?_
                      clear G
                      exact step_run (v := (.bool x.add)) (by go_simp) rfl
                    | 70 =>
                      intro ho hd
                      obtain rfl := (Option.some.inj ho).symm
                      have d63 : vs 63 = (.pointer (some ⟨gb3, 0, none⟩)) := hd ⟨63, .data⟩ (by simp) rfl
                      have d65 : vs 65 = (.int .i64 x.i) := hd ⟨65, .data⟩ (by simp) rfl
                      have d67 : vs 67 = (.int .i64 x.comp) := hd ⟨67, .data⟩ (by simp) rfl
                      have d69 : vs 69 = (.bool x.add) := hd ⟨69, .data⟩ (by simp) rfl
                      have d62 : vs 62 = (.bool false) := hd ⟨62, .guard⟩ (by simp) rfl
                      clear hd ho
                      have h304 := G.h (j := 63) (d := 304) rfl (by decide) d63
                      have h306 := G.h (j := 65) (d := 306) rfl (by decide) d65
                      have h308 := G.h (j := 67) (d := 308) rfl (by decide) d67
                      have h310 := G.h (j := 69) (d := 310) rfl (by decide) d69
                      refine step_yes G rfl rfl (by decide) d62 ?_
                      clear G
                      go_simp
                      refine (knows_any _ _ _ _ _ _ _ HSW.out.G HI.out.1 HI.out.2).mono ?_
                      rintro e w2 ⟨rfl, rfl⟩
                      rw [← HQ.out.2.2.2.2]
                      exact ⟨_, rfl, rfl, Below.refl _ _⟩
                    | 71 =>
                      intro ho hd
                      obtain rfl := (Option.some.inj ho).symm
                      have d62 : vs 62 = (.bool false) := hd ⟨62, .guard⟩ (by simp) rfl
                      clear hd ho
                      refine step_yes G rfl rfl (by decide) d62 ?_
                      clear G
                      exact step_run (v := (.pointer (some ⟨ub, 0, none⟩))) (by go_simp) rfl
                    | 72 =>
                      intro ho hd
                      obtain rfl := (Option.some.inj ho).symm
                      have d62 : vs 62 = (.bool false) := hd ⟨62, .guard⟩ (by simp) rfl
                      clear hd ho
                      refine step_yes G rfl rfl (by decide) d62 ?_
                      clear G
                      exact step_run (v := (.pointer (some ⟨xb, 2, none⟩))) (by go_simp) rfl
                    | 73 =>
                      intro ho hd
                      obtain rfl := (Option.some.inj ho).symm
                      have d72 : vs 72 = (.pointer (some ⟨xb, 2, none⟩)) := hd ⟨72, .data⟩ (by simp) rfl
                      have d62 : vs 62 = (.bool false) := hd ⟨62, .guard⟩ (by simp) rfl
                      clear hd ho
                      have h313 := G.h (j := 72) (d := 313) rfl (by decide) d72
                      refine step_yes G rfl rfl (by decide) d62 ?_
                      clear G
                      exact step_run (v := (.int .i64 x.i)) (by go_simp) rfl
                    | 74 =>
                      intro ho hd
                      obtain rfl := (Option.some.inj ho).symm
                      have d62 : vs 62 = (.bool false) := hd ⟨62, .guard⟩ (by simp) rfl
                      clear hd ho
                      refine step_yes G rfl rfl (by decide) d62 ?_
                      clear G
                      exact step_run (v := (.pointer (some ⟨xb, 3, none⟩))) (by go_simp) rfl
                    | 75 =>
                      intro ho hd
                      obtain rfl := (Option.some.inj ho).symm
                      have d74 : vs 74 = (.pointer (some ⟨xb, 3, none⟩)) := hd ⟨74, .data⟩ (by simp) rfl
                      have d62 : vs 62 = (.bool false) := hd ⟨62, .guard⟩ (by simp) rfl
                      clear hd ho
                      have h315 := G.h (j := 74) (d := 315) rfl (by decide) d74
                      refine step_yes G rfl rfl (by decide) d62 ?_
                      clear G
                      exact step_run (v := (.int .i64 x.comp)) (by go_simp) rfl
                    | 76 =>
                      intro ho hd
                      obtain rfl := (Option.some.inj ho).symm
                      have d62 : vs 62 = (.bool false) := hd ⟨62, .guard⟩ (by simp) rfl
                      clear hd ho
                      refine step_yes G rfl rfl (by decide) d62 ?_
                      clear G
                      exact step_run (v := (.pointer (some ⟨xb, 4, none⟩))) (by go_simp) rfl
                    | 77 =>
                      intro ho hd
                      obtain rfl := (Option.some.inj ho).symm
                      have d76 : vs 76 = (.pointer (some ⟨xb, 4, none⟩)) := hd ⟨76, .data⟩ (by simp) rfl
                      have d62 : vs 62 = (.bool false) := hd ⟨62, .guard⟩ (by simp) rfl
                      clear hd ho
                      have h317 := G.h (j := 76) (d := 317) rfl (by decide) d76
                      refine step_yes G rfl rfl (by decide) d62 ?_
                      clear G
                      exact step_run (v := (.bool x.add)) (by go_simp) rfl
                    | 78 =>
                      intro ho hd
                      obtain rfl := (Option.some.inj ho).symm
                      have d73 : vs 73 = (.int .i64 x.i) := hd ⟨73, .data⟩ (by simp) rfl
                      have d75 : vs 75 = (.int .i64 x.comp) := hd ⟨75, .data⟩ (by simp) rfl
                      have d77 : vs 77 = (.bool x.add) := hd ⟨77, .data⟩ (by simp) rfl
                      have d62 : vs 62 = (.bool false) := hd ⟨62, .guard⟩ (by simp) rfl
                      clear hd ho
                      have h314 := G.h (j := 73) (d := 314) rfl (by decide) d73
                      have h316 := G.h (j := 75) (d := 316) rfl (by decide) d75
                      have h318 := G.h (j := 77) (d := 318) rfl (by decide) d77
                      refine step_yes G rfl rfl (by decide) d62 ?_
                      clear G
                      exact step_run (v := (.agg #[.int .i64 x.i, .int .i64 x.comp, .bool x.add])) (by go_simp) rfl
                    | 79 =>
                      intro ho hd
                      obtain rfl := (Option.some.inj ho).symm
                      have d71 : vs 71 = (.pointer (some ⟨ub, 0, none⟩)) := hd ⟨71, .data⟩ (by simp) rfl
                      have d78 : vs 78 = (.agg #[.int .i64 x.i, .int .i64 x.comp, .bool x.add]) := hd ⟨78, .data⟩ (by simp) rfl
                      have d62 : vs 62 = (.bool false) := hd ⟨62, .guard⟩ (by simp) rfl
                      clear hd ho
                      have h312 := G.h (j := 71) (d := 312) rfl (by decide) d71
                      have h319 := G.h (j := 78) (d := 319) rfl (by decide) d78
                      refine step_yes G rfl rfl (by decide) d62 ?_
                      clear G
                      go_simp
                      refine (knows17_any _ _ _ (x.i, x.comp, x.add) _ HSW.out.R).mono ?_
                      rintro e w2 ⟨rfl, hb2⟩
                      exact ⟨_, rfl, rfl, hb2⟩
                    | 80 =>
                      intro ho hd
                      obtain rfl := (Option.some.inj ho).symm
                      have d70 : vs 70 = (.bool (knowsB r3.W (x.i, x.comp, x.add))) := hd ⟨70, .data⟩ (by simp) rfl
                      have d79 : vs 79 = (.bool (knowsB r3.W (x.i, x.comp, x.add))) := hd ⟨79, .data⟩ (by simp) rfl
                      have d62 : vs 62 = (.bool false) := hd ⟨62, .guard⟩ (by simp) rfl
                      clear hd ho
                      have h311 := G.h (j := 70) (d := 311) rfl (by decide) d70
                      have h320 := G.h (j := 79) (d := 320) rfl (by decide) d79
                      refine step_yes G rfl rfl (by decide) d62 ?_
                      clear G
                      exact step_run (v := (.bool false)) (by go_simp) rfl
                    | 81 =>
                      intro ho hd
                      obtain rfl := (Option.some.inj ho).symm
                      have d62 : vs 62 = (.bool false) := hd ⟨62, .data⟩ (by simp) rfl
                      have d80 : vs 80 = (.bool false) := hd ⟨80, .data⟩ (by simp) rfl
                      clear hd ho
                      have h303 := G.h (j := 62) (d := 303) rfl (by decide) d62
                      have h321 := G.h (j := 80) (d := 321) rfl (by decide) d80
                      refine step_open rfl ?_
                      clear G
                      exact step_run (v := (.bool false)) (by go_simp) rfl
                    | n + 82 =>
                      intro ho hd
                      simp at ho
                  · intro vs w' hb hR
                    have hv : vs 81 = .bool false := hR 81 (by simp)
                    refine hK3 _ _ (Met.intro ?_)
                    exact cut_done (bs := mskQ) (R := fun f wx => f 322 = .bool false ∧ Below w4.heap.size w4 wx) hJ3 _ _ (by kernel_rfl) ⟨Eq.trans (by kernel_rfl) hv, hb⟩ (by kernel_rfl)
            · intro J2 K2 hJ2 hK2
              rcases (by omega : x.kind = 1 ∨ (x.kind = 2 ∨ x.kind = 3 ∨ x.kind = 4) ∨ x.kind = 5 ∨ x.kind = 6 ∨ (x.kind ≠ 1 ∧ x.kind ≠ 2 ∧ x.kind ≠ 3 ∧ x.kind ≠ 4 ∧ x.kind ≠ 5 ∧ x.kind ≠ 6)) with h | h | h | h | h
              · have f1 : (x.kind == 1) = true := by simp [h]
                clear h
                go_wp2_with fail
                refine (make_any _ _ _ _ _ HSX.out.1.G hxs0 hxs1).mono ?_
                rintro e w5 ⟨tb, rfl, hG5, hT5⟩
                have HE := Lib.hid (HSX.out.1.E.make hg1 hxs0 hxs1 tb)
                have hX5 := hT5.2 _ _ _ _ HSX.out.2 (by decide) (by decide)
                have y1 := cell_at hX5 1
                simp at y1
                have HT := Lib.hid (And.intro hG5 (And.intro hT5 (makeG_grow g x.set tb)))
                rw [HE.out.1]
                clear hG5 hT5 hX5 x0 x1 x2 x3 x4
                go_wp2_with fail
                refine (make17_any _ _ _ _ _ (HSX.out.1.R.turned HT.out.2.1 HSX.out.1.B) hxs0 hxs1 (by omega)).mono ?_
                rintro e w6 ⟨rfl, hR6, hg6⟩
                have HF := Lib.hid (And.intro (HSX.out.1.deed HT.out.2.1 HT.out.1 hg6 hR6 HE.out.2 GS.turn_cs) (act_keep HSX.out.1 HSX.out.2 HT.out.2.1 hg6))
                have d1 := ne_self_i (makeR r x.set).2.1
                have d2 := ne_self_i (makeR r x.set).2.2
                clear hR6 hg6 y1
                go_wp2_with fail
                refine Met.intro (hJ2 _ _ ?_ (by kernel_rfl))
                exact ⟨_, _, _, _, rfl, HF.out.1, by have := HT.out.2.2.2.2; omega, HF.out.2⟩
              · rcases h with h | h | h
                all_goals
                  go_wp2_with fail
                  refine (step_any _ _ _ _ _ _ _ HSX.out.1.G HI.out.1 HI.out.2 (by omega)).mono ?_
                  rintro e w5 ⟨tb, rfl, hG5, hT5⟩
                  have HE := Lib.hid (HSX.out.1.E.step hg1 x.i x.comp x.add tb)
                  have hX5 := hT5.2 _ _ _ _ HSX.out.2 (by decide) (by decide)
                  have y2 := cell_at hX5 2
                  have y3 := cell_at hX5 3
                  have y4 := cell_at hX5 4
                  simp at y2 y3 y4
                  have HT := Lib.hid (And.intro hG5 (And.intro hT5 (stepG_grow g x.i x.comp x.add tb)))
                  rw [HE.out.1]
                  clear hG5 hT5 hX5 x0 x1 x2 x3 x4
                  go_wp2_with fail
                  refine (step17_any _ _ _ (x.i, x.comp, x.add) _ (HSX.out.1.R.turned HT.out.2.1 HSX.out.1.B) HSX.out.1.E.ids HSX.out.1.E.sets (by omega) (by omega)).mono ?_
                  rintro e w6 ⟨rfl, hR6, hg6⟩
                  have HF := Lib.hid (And.intro (HSX.out.1.deed HT.out.2.1 HT.out.1 hg6 hR6 HE.out.2 stepG_cs) (act_keep HSX.out.1 HSX.out.2 HT.out.2.1 hg6))
                  have d1 := ne_self_i (stepR r (x.i, x.comp, x.add)).2.1
                  have d2 := ne_self_i (stepR r (x.i, x.comp, x.add)).2.2
                  clear hR6 hg6 y2 y3 y4
                  go_wp2_with fail
                  refine Met.intro (hJ2 _ _ ?_ (by kernel_rfl))
                  exact ⟨_, _, _, _, rfl, HF.out.1, by have := HT.out.2.2.2.2; omega, HF.out.2⟩
              · go_wp2_with fail
                refine (gclone_any _ _ _ _ HSX.out.1.G).mono ?_
                rintro e w5 ⟨ts', rfl, hts, hG5, hb5⟩
                have HF := Lib.hid (And.intro (HSX.out.1.clone hts hG5 hb5) (keep hb5 HSX.out.2))
                clear hts hG5 hb5 x0 x1 x2 x3 x4
                go_wp2_with fail
                refine Met.intro (hJ2 _ _ ?_ (by kernel_rfl))
                exact ⟨_, _, _, _, rfl, HF.out.1, by show g.nw ≤ _; omega, HF.out.2⟩
              · go_wp2_with fail
                refine (gclone_any _ _ _ _ HSX.out.1.G).mono ?_
                rintro e w5 ⟨ts', rfl, hts, hG5, hb5⟩
                have hX5 := keep hb5 HSX.out.2
                have y1 := cell_at hX5 1
                simp at y1
                have HT5 := Lib.hid (And.intro hG5 (And.intro hb5 hX5))
                clear hts hG5 hb5 hX5 x0 x1 x2 x3 x4
                go_wp2_with fail
                refine (make_any _ _ _ _ _ HT5.out.1 hxs0 hxs1).mono ?_
                rintro e w6 ⟨tb, rfl, hG6, hT6⟩
                have hX6 := hT6.2 _ _ _ _ HT5.out.2.2 (by decide) (by decide)
                have y3 := cell_at hX6 3
                have y4 := cell_at hX6 4
                simp at y3 y4
                have HT6 := Lib.hid (And.intro hG6 (And.intro (HT5.out.2.1.trans hT6.1) (makeG_grow { g with ts := ts' } x.set tb)))
                have hrow6 : (makeG { g with ts := ts' } x.set tb).1.rows = g.rows := GS.turn_cs.2.2.1
                have HR6 := Lib.hid hrow6
                clear hG6 hT6 hX6 y1 hrow6
                go_wp2_with fail
                refine (step_any _ _ _ _ _ _ _ HT6.out.1 ⟨by omega, by omega⟩ HI.out.2 (by have := HT6.out.2.2.2.2; simp only at this; omega)).mono ?_
                rintro e w7 ⟨tb7, rfl, hG7, hT7⟩
                have HT7 := Lib.hid (And.intro hG7 (HT6.out.2.1.trans hT7.1))
                have HR7 := Lib.hid (stepG_cs.2.2.1.trans HR6.out : (stepG (makeG { g with ts := ts' } x.set tb).1 0 x.comp x.add tb7).1.rows = g.rows)
                clear hG7 hT7 y3 y4
                go_wp2_with fail
                refine (table_any _ _ _ _ _ HT7.out.1).mono ?_
                rintro e w' ⟨rfl, rfl⟩
                go_wp2_with fail
                refine (tadd_tab _ _ _ _ _ HT7.out.1 (by rw [HR7.out]; exact HSX.out.1.E.ok.2)).mono ?_
                rintro e w8 ⟨⟨v8, rfl⟩, hb8⟩
                have hb9 : Below V.heap.size V w8 := HT7.out.2.trans hb8
                have HF := Lib.hid (And.intro (HSX.out.1.below hb9) (keep hb9 HSX.out.2))
                clear hb8 hb9
                go_wp2_with fail
                refine Met.intro (hJ2 _ _ ?_ (by kernel_rfl))
                exact ⟨_, _, _, _, rfl, HF.out.1, by omega, HF.out.2⟩
              · obtain ⟨h1, h2, h3, h4, h5, h6⟩ := h
                have f1 : (x.kind == 1) = false := by simp [h1]
                have f2 : (x.kind == 2) = false := by simp [h2]
                have f3 : (x.kind == 3) = false := by simp [h3]
                have f4 : (x.kind == 4) = false := by simp [h4]
                have f5 : (x.kind == 5) = false := by simp [h5]
                have f6 : (x.kind == 6) = false := by simp [h6]
                clear h1 h2 h3 h4 h5 h6
                go_wp2_with fail
                refine Met.intro (hJ2 _ _ ?_ (by kernel_rfl))
                exact ⟨_, _, _, _, rfl, HSX.out.1, by omega, HSX.out.2⟩
          · have hke : k = len2 := by have := HN.out; omega
            subst hke
            have HK := Lib.hid (show g.cs = cs ∧ g.ver = ver ∧ cs.length = len from ⟨hS.k.1, hS.k.2.2.2, hcs.1⟩)
            have HSF := Lib.hid hS
            clear hS hlt
            go_upto_region 49 with (fail)
            refine wp_region_grow (by kernel_rfl) (by kernel_rfl) (by kernel_rfl) (byList (finR gb2 ver cs a len cap)) (lasts_list (finR_lasts gb2 ver cs a len cap)) ?_ ?_
            · intro vs w1' i o hb ho hd
              simp only [putAll, Act.put, List.setIfInBounds_toArray, List.set_cons_succ, List.set_cons_zero]
              have HS1 := Lib.hid (HSF.out.below hb)
              have s0 := cell_at HS1.out.s 0
              have s1 := cell_at HS1.out.s 1
              simp at s0 s1
              clear hb
              revert ho hd
              match i with
              | 0 =>
                intro ho hd
                obtain rfl := (Option.some.inj ho).symm
                clear hd ho
                refine step_open rfl ?_
                go_simp
                exact ⟨rfl, Below.refl _ _⟩
              | 1 =>
                intro ho hd
                obtain rfl := (Option.some.inj ho).symm
                have d0 : vs 0 = (.pointer (some ⟨gb2, 0, none⟩)) := hd ⟨0, .data⟩ (by simp) rfl
                clear hd ho
                rw [d0]
                refine step_open rfl ?_
                go_simp
                refine (gschema_any _ _ _ _ HS1.out.G).mono ?_
                rintro e w2 ⟨va, vc, rfl, hc, hb2⟩
                rw [HK.out.1, HK.out.2.1, HK.out.2.2] at *
                exact ⟨⟨va, vc, rfl, hc⟩, hb2⟩
              | 2 =>
                intro ho hd
                obtain rfl := (Option.some.inj ho).symm
                clear hd ho
                refine step_open rfl ?_
                go_simp
                exact ⟨rfl, Below.refl _ _⟩
              | 3 =>
                intro ho hd
                obtain rfl := (Option.some.inj ho).symm
                obtain ⟨va, vc, d1, hc⟩ : IsSch ver cs len (vs 1) w1' := hd ⟨1, .data⟩ (by simp) rfl
                have d2 : vs 2 = (.agg #[.int .i64 ver, .slice a len cap]) := hd ⟨2, .data⟩ (by simp) rfl
                clear hd ho
                rw [d1, d2]
                refine step_open rfl ?_
                go_simp
                refine (same07_eq _ _ _ _ _ _ _ _ hc ((hcs.below HS1.out.b).mono HS1.out.b.size)).mono ?_
                rintro e w2 ⟨rfl, hb2⟩
                exact ⟨rfl, hb2⟩
              | 4 =>
                intro ho hd
                obtain rfl := (Option.some.inj ho).symm
                have d3 : vs 3 = (.bool true) := hd ⟨3, .data⟩ (by simp) rfl
                clear hd ho
                rw [d3]
                refine step_open rfl ?_
                go_simp
                exact ⟨rfl, Below.refl _ _⟩
              | n + 5 =>
                intro ho hd
                simp at ho
            · intro vs w1' hb hR
              have hv : vs 4 = .bool true := hR 4 (by simp)
              have HB1 := Lib.hid (HSF.out.below hb).b
              simp only [putAll, Act.put, List.setIfInBounds_toArray, List.set_cons_succ, List.set_cons_zero]
              rw [hv]
              clear hR hb hv
              go_wp2_with fail
              go_returns
              exact ⟨rfl, HB1.out⟩
  · clear hg
    go_wp2_with fail
    go_returns
    exact ⟨rfl, hbel2⟩
end Go.Proofs.YtoadihebdaooaaaGreat
