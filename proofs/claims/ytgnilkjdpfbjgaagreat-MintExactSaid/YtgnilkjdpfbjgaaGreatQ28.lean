/- The law's comparison of systems. · What the law's awake says: mint's answers at a few numbers. -/
import Derived.Test.YtgnilkjdpfbjgaaGreatQ17
import Derived.Test.YtgnilkjdpfbjgaaGreatQ25
import Derived.Test.YtgnilkjdpfbjgaaGreatQ3
import Derived.Test.YtgnilkjdpfbjgaaGreatQ11
import Derived.Test.YtgnilkjdpfbjgaaGreatQ14
import Derived.Test.YtgnilkjdpfbjgaaGreatQ16
import Derived.Test.YtgnilkjdpfbjgaaGreatQ27
namespace Go.Proofs.YtgnilkjdpfbjgaaGreat
open Go.RowKit
set_option linter.unusedVariables false
/-- A system that is made anew. -/
def sysC (s : SysT) (ua : Value) (x : Value) : Array Value := #[.string s.name, .int .i64 s.stage, ua, .int .u32 s.al, .int .u32 s.no, x]
def sysZ : Array Value := #[.string ByteArray.empty, .int .i64 0, .slice none 0 0, .int .u32 0, .int .u32 0, .slice none 0 0]
/-- A block that is new. -/
def IsNew (b : Nat) (cs : Array Value) (t : TypeId) (v : Value) (w : World) : Prop := ∃ q, b ≤ q ∧ v = .pointer (some ⟨q, 0, none⟩) ∧ w.heap[q]? = some (.cells cs t (0, 0))
theorem lasts_new (b : Nat) (cs : Array Value) (t : TypeId) : Lasts (IsNew b cs t) := fun v w w' ⟨q, h1, h2, h3⟩ hb => ⟨q, h1, h2, keep hb h3⟩
def s34a_list (q0 q off n c k na ac : Nat) (aa : Option Addr) (x : SysT) : List (Value → World → Prop) :=
  [IsV (.slice (some ⟨q, off, none⟩) n c),
   IsV (.int .i64 (k : Int)),
   IsV (.pointer (some ⟨q, off + k * 6, none⟩)),
   IsV (.pointer (some ⟨q, off + k * 6, none⟩)),
   IsV (.string x.name),
   IsV (.slice (some ⟨q, off, none⟩) n c),
   IsV (.int .i64 (k : Int)),
   IsV (.pointer (some ⟨q, off + k * 6, none⟩)),
   IsV (.pointer (some ⟨q, off + k * 6 + 1, none⟩)),
   IsV (.int .i64 x.stage),
   IsV (.slice (some ⟨q, off, none⟩) n c),
   IsV (.int .i64 (k : Int)),
   IsV (.pointer (some ⟨q, off + k * 6, none⟩)),
   IsV (.pointer (some ⟨q, off + k * 6 + 2, none⟩)),
   IsV (.slice aa na ac),
   IsV (.slice (some ⟨q, off, none⟩) n c),
   IsV (.int .i64 (k : Int)),
   IsV (.pointer (some ⟨q, off + k * 6, none⟩)),
   IsV (.pointer (some ⟨q, off + k * 6 + 3, none⟩)),
   IsV (.int .u32 x.al),
   IsV (.slice (some ⟨q, off, none⟩) n c),
   IsV (.int .i64 (k : Int)),
   IsV (.pointer (some ⟨q, off + k * 6, none⟩)),
   IsV (.pointer (some ⟨q, off + k * 6 + 4, none⟩)),
   IsV (.int .u32 x.no),
   IsV (.agg (sysC x (.slice aa na ac) (.slice none 0 0))),
   IsNew q0 sysZ 81]
theorem s34a_list_lasts (q0 q off n c k na ac : Nat) (aa : Option Addr) (x : SysT) : ∀ p ∈ s34a_list q0 q off n c k na ac  aa  x , Lasts p := by
  simp only [s34a_list, List.mem_cons, List.not_mem_nil, or_false]
  rintro p hp
  repeat (rcases hp with rfl | hp; first | exact lasts_v _ | exact lasts_new _ _ _)
def s34b_list (q' off' n vc k na nc ac xc ac' bc' : Nat) (aa xa aa' ba' : Option Addr) (x : SysT) : List (Value → World → Prop) :=
  [IsV (.agg (sysC x (.slice aa na ac) (.slice xa nc xc))),
   IsV (.string (ByteArray.mk (sysBytes x).toArray)),
   IsV (.slice (some ⟨q', off', none⟩) n vc),
   IsV (.int .i64 (k : Int)),
   IsV (.pointer (some ⟨q', off' + k * 6, none⟩)),
   IsV (.agg (sysC x (.slice aa' na ac') (.slice ba' nc bc'))),
   IsV (.string (ByteArray.mk (sysBytes x).toArray)),
   IsV (.bool false)]
theorem s34b_list_lasts (q' off' n vc k na nc ac xc ac' bc' : Nat) (aa xa aa' ba' : Option Addr) (x : SysT) : ∀ p ∈ s34b_list q' off' n vc k na nc ac xc ac' bc'  aa xa aa' ba'  x , Lasts p := by
  simp only [s34b_list, List.mem_cons, List.not_mem_nil, or_false]
  rintro p hp
  repeat (rcases hp with rfl | hp; exact lasts_v _)
theorem Tryz.infoRS2 : (Tryz.prog.info? 81).map (·.size) = some 6 := by kernel_rfl
theorem Tryz.infoRO22 : (Tryz.prog.info? 85).map (fun i => (i.zero, i.size, i.bytes)) = some (some (.agg #[.int .i64 0, .int .i64 0, .int .i64 0, .int .i64 0, .int .i64 0]), 5, 40) := by kernel_rfl
def TT : Nat → TypeId → Prop := fun _ _ => True
theorem At.tt {w : World} {T : Nat → TypeId → Prop} {d : Dat} {u : Value} (h : At w T d u) : At w TT d u := h.types fun _ _ _ _ _ _ => trivial
set_option maxRecDepth 100000 in
set_option maxHeartbeats 2000000 in
theorem sys34_any (l : List SysT) (w : World) (T1 T2 : Nat → TypeId → Prop) (u v : Value) (h1 : At w T1 (syssD l) u) (h2 : At w T2 (syssD l) v) (ok : l.all sysOk = true) (hl : l.length ≤ 16) :
    Calls Tryz.prog 10 #[u, v] w fun e w' => e = .returned (.bool true) ∧ Below w.heap.size w w' := by
  obtain ⟨i0, hiI, hzA, hzB, hzC⟩ := info_parts Tryz.infoRO22
  obtain ⟨ra, rc, rfl, _, _, hrow1⟩ := row_at sysD 6 (fun _ => rfl) (by decide) h1
  obtain ⟨va, vc, rfl, _, _, hrow2⟩ := row_at sysD 6 (fun _ => rfl) (by decide) h2
  have HR1 := Lib.hid hrow1
  have HR2 := Lib.hid hrow2
  have HOK := Lib.hid ok
  clear hrow1 hrow2 h1 h2 ok
  go_enter Tryz.func10, Tryz.ntmps10
  go_wp2_with fail
  go_loopw [5] (fun i wr => ∃ (k : Nat), k ≤ l.length ∧ i = .int .i64 k ∧ Below w.heap.size w wr) (fun i _ => l.length - (intOf i).toNat)
  case atStart => exact ⟨0, Nat.zero_le _, rfl, by go_grown⟩
  case round =>
  obtain ⟨k, hk, rfl, hbw⟩ := hrel
  obtain ⟨W, rfl⟩ : ∃ W, W = wr := ⟨wr, rfl⟩
  by_cases hlt : k < l.length
  · have hx := List.getElem?_eq_getElem hlt
    generalize l[k] = x at *
    obtain ⟨q, off, rfl, hqb, hcell⟩ := HR1.out k x hx
    obtain ⟨y0, c0, e0⟩ := hcell 0 _ rfl
    obtain rfl := at_v e0
    obtain ⟨y1, c1, e1⟩ := hcell 1 _ rfl
    obtain rfl := at_v e1
    obtain ⟨y2, c2, e2⟩ := hcell 2 _ rfl
    obtain ⟨y3, c3, e3⟩ := hcell 3 _ rfl
    obtain rfl := at_v e3
    obtain ⟨y4, c4, e4⟩ := hcell 4 _ rfl
    obtain rfl := at_v e4
    obtain ⟨y5, c5, e5⟩ := hcell 5 _ rfl
    have hxo := all_mem HOK.out hx
    have HX := Lib.hid hx
    have HXO := Lib.hid hxo
    have hcl : x.code.length ≤ 64 := (sysOk_is hxo).2.2.2.2.2.2.1
    obtain ⟨aa, ac, ba, bc, rfl, rfl⟩ := sys_slices e2 e5
    have d := fun o => hbw.cell (p := ⟨q, o, none⟩) hqb
    have d0 := (d _).trans c0
    have d1 := (d _).trans c1
    have d2 := (d _).trans c2
    have d3 := (d _).trans c3
    have d4 := (d _).trans c4
    have d5 := (d _).trans c5
    rw [Nat.add_zero] at d0
    have hqW : q < W.heap.size := by have := hbw.size; omega
    have HD := Lib.hid (And.intro d0 (And.intro d1 (And.intro d2 (And.intro d3 (And.intro d4 d5)))))
    have HA2 := Lib.hid (e2.below hbw).tt
    have HA5 := Lib.hid (e5.below hbw).tt
    have HBW := Lib.hid hbw
    clear c0 c1 c2 c3 c4 c5 d d0 d1 d2 d3 d4 d5 hcell e0 e1 e2 e3 e4 e5 hx hxo hbw
    go_upto_region 6 with (fail)
    refine wp_region_tail 27 (by kernel_rfl) (by kernel_rfl) (by kernel_rfl) (by decide) (by kernel_rfl) (byList (s34a_list W.heap.size q off l.length rc k x.after.length ac aa x)) (lasts_list (s34a_list_lasts W.heap.size q off l.length rc k x.after.length ac aa x)) ?_ ?_
    · intro vs w' iq o A hi F hb ho hd
      have m0 : A.tmps[0]?.getD undef = (.slice (some ⟨q, off, none⟩) l.length rc) := F.m (by kernel_rfl) rfl
      have m5 : A.tmps[5]?.getD undef = (.int .i64 (k : Int)) := F.m (by kernel_rfl) rfl
      have G := F.light (n := 88) (by kernel_rfl)
      clear F
      obtain ⟨c0, c1, c2, c3, c4, c5⟩ := HD.out
      have d := fun o => hb.cell (p := ⟨q, o, none⟩) hqW
      have d0 := (d _).trans c0
      have d1 := (d _).trans c1
      have d2 := (d _).trans c2
      have d3 := (d _).trans c3
      have d4 := (d _).trans c4
      have hwz := hb.size
      clear hb d c0 c1 c2 c3 c4 c5
      revert hi ho hd
      match iq with
      | 0 => intro _ ho hd; obtain rfl := (Option.some.inj ho).symm; clear hd ho; refine step_open rfl ?_; clear G; exact step_run (v := (.slice (some ⟨q, off, none⟩) l.length rc)) (by go_simp) rfl
      | 1 => intro _ ho hd; obtain rfl := (Option.some.inj ho).symm; clear hd ho; refine step_open rfl ?_; clear G; exact step_run (v := (.int .i64 (k : Int))) (by go_simp) rfl
      | 2 => intro _ ho hd; obtain rfl := (Option.some.inj ho).symm; have d0 : vs 0 = (.slice (some ⟨q, off, none⟩) l.length rc) := hd ⟨0, .data⟩ (by simp) rfl; have d1 : vs 1 = (.int .i64 (k : Int)) := hd ⟨1, .data⟩ (by simp) rfl; clear hd ho; have h20 := G.h (j := 0) (d := 20) rfl (by decide) d0; have h21 := G.h (j := 1) (d := 21) rfl (by decide) d1; refine step_open rfl ?_; clear G; exact step_run (v := (.pointer (some ⟨q, off + k * 6, none⟩))) (by go_simp) rfl
      | 3 => intro _ ho hd; obtain rfl := (Option.some.inj ho).symm; have d2 : vs 2 = (.pointer (some ⟨q, off + k * 6, none⟩)) := hd ⟨2, .data⟩ (by simp) rfl; clear hd ho; have h22 := G.h (j := 2) (d := 22) rfl (by decide) d2; refine step_open rfl ?_; clear G; exact step_run (v := (.pointer (some ⟨q, off + k * 6, none⟩))) (by go_simp) rfl
      | 4 => intro _ ho hd; obtain rfl := (Option.some.inj ho).symm; have d3 : vs 3 = (.pointer (some ⟨q, off + k * 6, none⟩)) := hd ⟨3, .data⟩ (by simp) rfl; clear hd ho; have h23 := G.h (j := 3) (d := 23) rfl (by decide) d3; refine step_open rfl ?_; clear G; exact step_run (v := (.string x.name)) (by go_simp) rfl
      | 5 => intro _ ho hd; obtain rfl := (Option.some.inj ho).symm; clear hd ho; refine step_open rfl ?_; clear G; exact step_run (v := (.slice (some ⟨q, off, none⟩) l.length rc)) (by go_simp) rfl
      | 6 => intro _ ho hd; obtain rfl := (Option.some.inj ho).symm; clear hd ho; refine step_open rfl ?_; clear G; exact step_run (v := (.int .i64 (k : Int))) (by go_simp) rfl
      | 7 => intro _ ho hd; obtain rfl := (Option.some.inj ho).symm; have d5 : vs 5 = (.slice (some ⟨q, off, none⟩) l.length rc) := hd ⟨5, .data⟩ (by simp) rfl; have d6 : vs 6 = (.int .i64 (k : Int)) := hd ⟨6, .data⟩ (by simp) rfl; clear hd ho; have h25 := G.h (j := 5) (d := 25) rfl (by decide) d5; have h26 := G.h (j := 6) (d := 26) rfl (by decide) d6; refine step_open rfl ?_; clear G; exact step_run (v := (.pointer (some ⟨q, off + k * 6, none⟩))) (by go_simp) rfl
      | 8 => intro _ ho hd; obtain rfl := (Option.some.inj ho).symm; have d7 : vs 7 = (.pointer (some ⟨q, off + k * 6, none⟩)) := hd ⟨7, .data⟩ (by simp) rfl; clear hd ho; have h27 := G.h (j := 7) (d := 27) rfl (by decide) d7; refine step_open rfl ?_; clear G; exact step_run (v := (.pointer (some ⟨q, off + k * 6 + 1, none⟩))) (by go_simp) rfl
      | 9 => intro _ ho hd; obtain rfl := (Option.some.inj ho).symm; have d8 : vs 8 = (.pointer (some ⟨q, off + k * 6 + 1, none⟩)) := hd ⟨8, .data⟩ (by simp) rfl; clear hd ho; have h28 := G.h (j := 8) (d := 28) rfl (by decide) d8; refine step_open rfl ?_; clear G; exact step_run (v := (.int .i64 x.stage)) (by go_simp) rfl
      | 10 => intro _ ho hd; obtain rfl := (Option.some.inj ho).symm; clear hd ho; refine step_open rfl ?_; clear G; exact step_run (v := (.slice (some ⟨q, off, none⟩) l.length rc)) (by go_simp) rfl
      | 11 => intro _ ho hd; obtain rfl := (Option.some.inj ho).symm; clear hd ho; refine step_open rfl ?_; clear G; exact step_run (v := (.int .i64 (k : Int))) (by go_simp) rfl
      | 12 => intro _ ho hd; obtain rfl := (Option.some.inj ho).symm; have d10 : vs 10 = (.slice (some ⟨q, off, none⟩) l.length rc) := hd ⟨10, .data⟩ (by simp) rfl; have d11 : vs 11 = (.int .i64 (k : Int)) := hd ⟨11, .data⟩ (by simp) rfl; clear hd ho; have h30 := G.h (j := 10) (d := 30) rfl (by decide) d10; have h31 := G.h (j := 11) (d := 31) rfl (by decide) d11; refine step_open rfl ?_; clear G; exact step_run (v := (.pointer (some ⟨q, off + k * 6, none⟩))) (by go_simp) rfl
      | 13 => intro _ ho hd; obtain rfl := (Option.some.inj ho).symm; have d12 : vs 12 = (.pointer (some ⟨q, off + k * 6, none⟩)) := hd ⟨12, .data⟩ (by simp) rfl; clear hd ho; have h32 := G.h (j := 12) (d := 32) rfl (by decide) d12; refine step_open rfl ?_; clear G; exact step_run (v := (.pointer (some ⟨q, off + k * 6 + 2, none⟩))) (by go_simp) rfl
      | 14 => intro _ ho hd; obtain rfl := (Option.some.inj ho).symm; have d13 : vs 13 = (.pointer (some ⟨q, off + k * 6 + 2, none⟩)) := hd ⟨13, .data⟩ (by simp) rfl; clear hd ho; have h33 := G.h (j := 13) (d := 33) rfl (by decide) d13; refine step_open rfl ?_; clear G; exact step_run (v := (.slice aa x.after.length ac)) (by go_simp) rfl
      | 15 => intro _ ho hd; obtain rfl := (Option.some.inj ho).symm; clear hd ho; refine step_open rfl ?_; clear G; exact step_run (v := (.slice (some ⟨q, off, none⟩) l.length rc)) (by go_simp) rfl
      | 16 => intro _ ho hd; obtain rfl := (Option.some.inj ho).symm; clear hd ho; refine step_open rfl ?_; clear G; exact step_run (v := (.int .i64 (k : Int))) (by go_simp) rfl
      | 17 => intro _ ho hd; obtain rfl := (Option.some.inj ho).symm; have d15 : vs 15 = (.slice (some ⟨q, off, none⟩) l.length rc) := hd ⟨15, .data⟩ (by simp) rfl; have d16 : vs 16 = (.int .i64 (k : Int)) := hd ⟨16, .data⟩ (by simp) rfl; clear hd ho; have h35 := G.h (j := 15) (d := 35) rfl (by decide) d15; have h36 := G.h (j := 16) (d := 36) rfl (by decide) d16; refine step_open rfl ?_; clear G; exact step_run (v := (.pointer (some ⟨q, off + k * 6, none⟩))) (by go_simp) rfl
      | 18 => intro _ ho hd; obtain rfl := (Option.some.inj ho).symm; have d17 : vs 17 = (.pointer (some ⟨q, off + k * 6, none⟩)) := hd ⟨17, .data⟩ (by simp) rfl; clear hd ho; have h37 := G.h (j := 17) (d := 37) rfl (by decide) d17; refine step_open rfl ?_; clear G; exact step_run (v := (.pointer (some ⟨q, off + k * 6 + 3, none⟩))) (by go_simp) rfl
      | 19 => intro _ ho hd; obtain rfl := (Option.some.inj ho).symm; have d18 : vs 18 = (.pointer (some ⟨q, off + k * 6 + 3, none⟩)) := hd ⟨18, .data⟩ (by simp) rfl; clear hd ho; have h38 := G.h (j := 18) (d := 38) rfl (by decide) d18; refine step_open rfl ?_; clear G; exact step_run (v := (.int .u32 x.al)) (by go_simp) rfl
      | 20 => intro _ ho hd; obtain rfl := (Option.some.inj ho).symm; clear hd ho; refine step_open rfl ?_; clear G; exact step_run (v := (.slice (some ⟨q, off, none⟩) l.length rc)) (by go_simp) rfl
      | 21 => intro _ ho hd; obtain rfl := (Option.some.inj ho).symm; clear hd ho; refine step_open rfl ?_; clear G; exact step_run (v := (.int .i64 (k : Int))) (by go_simp) rfl
      | 22 => intro _ ho hd; obtain rfl := (Option.some.inj ho).symm; have d20 : vs 20 = (.slice (some ⟨q, off, none⟩) l.length rc) := hd ⟨20, .data⟩ (by simp) rfl; have d21 : vs 21 = (.int .i64 (k : Int)) := hd ⟨21, .data⟩ (by simp) rfl; clear hd ho; have h40 := G.h (j := 20) (d := 40) rfl (by decide) d20; have h41 := G.h (j := 21) (d := 41) rfl (by decide) d21; refine step_open rfl ?_; clear G; exact step_run (v := (.pointer (some ⟨q, off + k * 6, none⟩))) (by go_simp) rfl
      | 23 => intro _ ho hd; obtain rfl := (Option.some.inj ho).symm; have d22 : vs 22 = (.pointer (some ⟨q, off + k * 6, none⟩)) := hd ⟨22, .data⟩ (by simp) rfl; clear hd ho; have h42 := G.h (j := 22) (d := 42) rfl (by decide) d22; refine step_open rfl ?_; clear G; exact step_run (v := (.pointer (some ⟨q, off + k * 6 + 4, none⟩))) (by go_simp) rfl
      | 24 => intro _ ho hd; obtain rfl := (Option.some.inj ho).symm; have d23 : vs 23 = (.pointer (some ⟨q, off + k * 6 + 4, none⟩)) := hd ⟨23, .data⟩ (by simp) rfl; clear hd ho; have h43 := G.h (j := 23) (d := 43) rfl (by decide) d23; refine step_open rfl ?_; clear G; exact step_run (v := (.int .u32 x.no)) (by go_simp) rfl
      | 25 => intro _ ho hd; obtain rfl := (Option.some.inj ho).symm; have d4 : vs 4 = (.string x.name) := hd ⟨4, .data⟩ (by simp) rfl; have d9 : vs 9 = (.int .i64 x.stage) := hd ⟨9, .data⟩ (by simp) rfl; have d14 : vs 14 = (.slice aa x.after.length ac) := hd ⟨14, .data⟩ (by simp) rfl; have d19 : vs 19 = (.int .u32 x.al) := hd ⟨19, .data⟩ (by simp) rfl; have d24 : vs 24 = (.int .u32 x.no) := hd ⟨24, .data⟩ (by simp) rfl; clear hd ho; have h24 := G.h (j := 4) (d := 24) rfl (by decide) d4; have h29 := G.h (j := 9) (d := 29) rfl (by decide) d9; have h34 := G.h (j := 14) (d := 34) rfl (by decide) d14; have h39 := G.h (j := 19) (d := 39) rfl (by decide) d19; have h44 := G.h (j := 24) (d := 44) rfl (by decide) d24; refine step_open rfl ?_; clear G; exact step_run (v := (.agg (sysC x (.slice aa x.after.length ac) (.slice none 0 0)))) (by unfold sysC; go_simp) rfl
      | 26 => intro _ ho hd; obtain rfl := (Option.some.inj ho).symm; clear hd ho; refine step_open rfl ?_; clear G; go_simp; exact ⟨_, rfl, (show IsNew _ _ _ _ _ from ⟨_, hwz, rfl, heap_alloc_new _ _⟩), by go_grown⟩
      | n + 27 =>
        intro hi
        exfalso
        omega
    · intro vs w5 A hA F hb hR
      have hv : vs 25 = .agg (sysC x (.slice aa x.after.length ac) (.slice none 0 0)) := hR 25 (by decide)
      obtain ⟨q6, hq6, h6, hz6⟩ : IsNew W.heap.size sysZ 81 (vs 26) w5 := hR 26 (by decide)
      have ho := setRow_only w5 q6 (sysC x (.slice aa x.after.length ac) (.slice none 0 0))
      have hg := setRow_get w5 q6 _ (sysC x (.slice aa x.after.length ac) (.slice none 0 0)) _ _ hz6
      have hbb : Below W.heap.size W (w5.setRow q6 (sysC x (.slice aa x.after.length ac) (.slice none 0 0))) := hb.trans (ho.below hq6)
      have HZ := Lib.hid hz6
      clear F hR hb ho hz6
      subst hA
      simp only [List.drop_succ_cons, List.drop_zero, wpTail, putAll, Act.put, List.setIfInBounds_toArray, List.set_cons_succ, List.set_cons_zero]
      simp only [hv, h6]
      clear hv h6
      refine wp_store_row 81 (.tmp 6) (.tmp 45) rfl q6 (sysC x (.slice aa x.after.length ac) (.slice none 0 0)) rfl rfl 81 _ HZ.out Tryz.infoRS2 rfl (by simp [sysC, Value.oneCell']) ?_
      generalize w5.setRow q6 (sysC x (.slice aa x.after.length ac) (.slice none 0 0)) = W6 at *
      have HG := Lib.hid (And.intro hg hbb)
      have hq6z := lt_some hg
      clear hg hbb HZ
      go_wp2_with fail
      go_loopw [7] (fun i wr => ∃ (m : Nat) (xa : Option Addr) (xc : Nat), m ≤ x.code.length ∧ i = .int .i64 m ∧ wr.heap[q6]? = some (.cells (sysC x (.slice aa x.after.length ac) (.slice xa m xc)) 81 (0, 0)) ∧ wr.ownsRow (q6 + 1) 85 5 (.slice xa m xc) m ((x.code.take m).flatMap opL) ∧ Below W.heap.size W wr) (fun i _ => x.code.length - (intOf i).toNat)
      case atStart => exact ⟨0, none, 0, Nat.zero_le _, rfl, HG.out.1, ⟨by simp, .inl ⟨rfl, rfl⟩⟩, HG.out.2⟩
      case round =>
      obtain ⟨m, xa, xc, hm, rfl, hr6, hown, hbi⟩ := hrel
      obtain ⟨V, rfl⟩ : ∃ V, V = wr := ⟨wr, rfl⟩
      have hlq := lt_some hr6
      by_cases hlm : m < x.code.length
      · have hy := List.getElem?_eq_getElem hlm
        generalize x.code[m] = y at *
        obtain ⟨a', c', hs', _, _, hrow⟩ := ops_at HA5.out
        cases hs'
        obtain ⟨bq, boff, rfl, hbq, k0, k1, k2, k3, k4⟩ := hrow m y hy
        have d := fun o => hbi.cell (p := ⟨bq, o, none⟩) hbq
        have o0 := (d _).trans k0
        have o1 := (d _).trans k1
        have o2 := (d _).trans k2
        have o3 := (d _).trans k3
        have o4 := (d _).trans k4
        have dd := fun o => hbi.cell (p := ⟨q, o, none⟩) hqW
        have s5 := (dd _).trans HD.out.2.2.2.2.2
        unfold sysC at hr6
        have x5 := cell_at hr6 5
        simp at x5
        have hqV : q < V.heap.size := by have := hbi.size; omega
        have hbqV : bq < V.heap.size := by have := hbi.size; omega
        have HR6 := Lib.hid hr6
        have HOW := Lib.hid ((hown.alloc (.cells #[.int .i64 y.code, .int .i64 y.a, .int .i64 y.b, .int .i64 y.c, .int .i64 y.k] 83)).alloc (.cells #[.int .i64 y.code, .int .i64 y.a, .int .i64 y.b, .int .i64 y.c, .int .i64 y.k] 85))
        have HBI := Lib.hid hbi
        have HY := Lib.hid (take_snoc hy)
        have hra : ∀ x, (Value.slice xa m xc).ownBlock = some x → q6 + 1 ≤ x := fun x hx => (hown.lt x hx).1
        have HRA := Lib.hid hra
        clear d dd k0 k1 k2 k3 k4 hrow hy hr6 hown hbi hra
        go_wp2_with (at_builtin; go_loud (refine wpList_append_own _ rfl (.tmp 65) (.tmp 77) 79 rfl (q6 + 1) 85 i0 (.agg #[.int .i64 0, .int .i64 0, .int .i64 0, .int .i64 0, .int .i64 0]) 5 40 Tryz.underlying79 hiI hzA hzB hzC rfl (by decide) (.slice xa m xc) m _ rfl HOW.out ⟨V.heap.size + 1, 0, none⟩ 1 1 (opL y) rfl rfl ?c1 ?c2 ?c3 ?c4 ?c5 ?_))
        case c1 =>
          intro j u hu
          have := World.news_of_block (cs := (opL y).toArray) (t := 85) (fr := (0, 0)) (heap_alloc_new (V.alloc (.cells #[.int .i64 y.code, .int .i64 y.a, .int .i64 y.b, .int .i64 y.c, .int .i64 y.k] 83)) (.cells (opL y).toArray 85)) j u hu
          simpa [opL] using this
        case c2 => intro u hu; simp [opL] at hu; rcases hu with rfl | rfl | rfl | rfl | rfl <;> rfl
        case c3 => unfold maxLen; omega
        case c4 => omega
        case c5 => simp; omega
        intro v' wA hownA hgA _
        obtain ⟨va', vc', hv'⟩ := ownsRow_slice hownA
        rw [hv'] at hownA ⊢
        clear hv'
        have hr2 := keepA (.cells #[.int .i64 y.code, .int .i64 y.a, .int .i64 y.b, .int .i64 y.c, .int .i64 y.k] 85) (keepA (.cells #[.int .i64 y.code, .int .i64 y.a, .int .i64 y.b, .int .i64 y.c, .int .i64 y.k] 83) HR6.out)
        have a6 := keepG hgA hr2 (ownsRow_ne_block3 HOW.out hr2 (fun cur he => by cases he))
        have hb2 : Below W.heap.size W ((V.alloc (.cells #[.int .i64 y.code, .int .i64 y.a, .int .i64 y.b, .int .i64 y.c, .int .i64 y.k] 83)).alloc (.cells #[.int .i64 y.code, .int .i64 y.a, .int .i64 y.b, .int .i64 y.c, .int .i64 y.k] 85)) := (HBI.out.alloc HBI.out.size _).alloc (by have := HBI.out.size; simp; omega) _
        have hbA : Below W.heap.size W wA := hb2.grown hgA hb2.size (fun x hx => by have := HRA.out x hx; omega)
        have t6 := hset wA q6 5 (.slice va' (m + 1) vc') _ _ _ a6
        have hnb : (Value.slice va' (m + 1) vc').ownBlock ≠ some q6 := fun e => by have := (hownA.lt _ e).1; omega
        have tq := ownsRow_setCell_other (a := ⟨q6, 5, none⟩) hownA hnb (.slice va' (m + 1) vc')
        have tb : Below W.heap.size W (wA.setCell ⟨q6, 5, none⟩ (.slice va' (m + 1) vc')) := hbA.setCell (by simp; omega) _
        have HF1 := Lib.hid (And.intro t6 (And.intro tq tb))
        have f5 := free_at a6 5
        have x5' := cell_at a6 5
        have hlA := lt_some a6
        simp at x5'
        clear hr2 a6 hb2 hbA t6 tq tb hnb hownA hgA x5 s5 o0 o1 o2 o3 o4
        go_wp2
        go_roundw
        case rel =>
          refine ⟨m + 1, va', vc', by omega, by go_num, HF1.out.1, ?_, HF1.out.2.2⟩
          rw [HY.out, List.flatMap_append]
          simpa using HF1.out.2.1
        case measure => simp [intOf] <;> omega
      · obtain rfl : m = x.code.length := by omega
        have hAC : At V TT (opsD x.code) (.slice xa x.code.length xc) := by
          rw [ops_vals]
          rw [List.take_length] at hown
          exact at_vals hown fun _ => trivial
        have hbwV := HBW.out.trans (hbi.mono HBW.out.size)
        have KC1 := Lib.hid (fun (W' : World) (hb : Below V.heap.size V W') => enc22_any x W' TT _ _ ((HA2.out.below hbi).below hb) (hAC.below hb) HXO.out)
        obtain ⟨q', off', rfl, hqb', hcell'⟩ := HR2.out k x HX.out
        obtain ⟨y0, c0, e0⟩ := hcell' 0 _ rfl
        obtain rfl := at_v e0
        obtain ⟨y1, c1, e1⟩ := hcell' 1 _ rfl
        obtain rfl := at_v e1
        obtain ⟨y2, c2, e2⟩ := hcell' 2 _ rfl
        obtain ⟨y3, c3, e3⟩ := hcell' 3 _ rfl
        obtain rfl := at_v e3
        obtain ⟨y4, c4, e4⟩ := hcell' 4 _ rfl
        obtain rfl := at_v e4
        obtain ⟨y5, c5, e5⟩ := hcell' 5 _ rfl
        obtain ⟨aa', ac', ba', bc', rfl, rfl⟩ := sys_slices e2 e5
        have KC2 := Lib.hid (fun (W' : World) (hb : Below w.heap.size w W') => enc22_any x W' T2 _ _ (e2.below hb) (e5.below hb) HXO.out)
        have d := fun o => hbwV.cell (p := ⟨q', o, none⟩) hqb'
        have HD2 := Lib.hid (And.intro ((d _).trans c0) (And.intro ((d _).trans c1) (And.intro ((d _).trans c2) (And.intro ((d _).trans c3) (And.intro ((d _).trans c4) ((d _).trans c5))))))
        have hqV' : q' < V.heap.size := by have := hbwV.size; omega
        have HW := Lib.hid hbwV
        have HR6 := Lib.hid hr6
        have S5 := Lib.hid ((hbi.cell (p := ⟨q, off + k * 6 + 5, none⟩) hqW).trans HD.out.2.2.2.2.2)
        have s5 := S5.out
        have hqV : q < V.heap.size := by have := hbi.size; omega
        clear c0 c1 c2 c3 c4 c5 d e0 e1 e2 e3 e4 e5 hcell' hAC hown hr6 hbi hbwV
        go_upto_region 12 with (fail)
        clear s5
        refine wp_region_frame (by kernel_rfl) (by kernel_rfl) (by kernel_rfl) (byList (s34b_list q' off' l.length vc k x.after.length x.code.length ac xc ac' bc' aa xa aa' ba' x)) (lasts_list (s34b_list_lasts q' off' l.length vc k x.after.length x.code.length ac xc ac' bc' aa xa aa' ba' x)) ?_ ?_
        · intro vs w' iq o A F hb ho hd
          have m1 : A.tmps[1]?.getD undef = (.slice (some ⟨q', off', none⟩) l.length vc) := F.m (by kernel_rfl) rfl
          have m5 : A.tmps[5]?.getD undef = (.int .i64 (k : Int)) := F.m (by kernel_rfl) rfl
          have m6 : A.tmps[6]?.getD undef = (.pointer (some ⟨q6, 0, none⟩)) := F.m (by kernel_rfl) rfl
          have G := F.light (n := 88) (by kernel_rfl)
          clear F
          have HB' := Lib.hid hb
          have HB2 := Lib.hid (HW.out.trans (hb.mono HW.out.size))
          have hk6 := keep hb HR6.out
          unfold sysC at hk6
          have z0 := cell_at hk6 0
          have z1 := cell_at hk6 1
          have z2 := cell_at hk6 2
          have z3 := cell_at hk6 3
          have z4 := cell_at hk6 4
          have z5 := cell_at hk6 5
          simp at z0 z1 z2 z3 z4 z5
          obtain ⟨c0, c1, c2, c3, c4, c5⟩ := HD2.out
          have d := fun o => hb.cell (p := ⟨q', o, none⟩) hqV'
          have d0 := (d _).trans c0
          have d1 := (d _).trans c1
          have d2 := (d _).trans c2
          have d3 := (d _).trans c3
          have d4 := (d _).trans c4
          have d5 := (d _).trans c5
          rw [Nat.add_zero] at d0
          clear hb d hk6 c0 c1 c2 c3 c4 c5
          revert ho hd
          match iq with
          | 0 => intro ho hd; obtain rfl := (Option.some.inj ho).symm; clear hd ho; refine step_open rfl ?_; clear G; exact step_run (v := (.agg (sysC x (.slice aa x.after.length ac) (.slice xa x.code.length xc)))) (by unfold sysC; go_simp) rfl
          | 1 => intro ho hd; obtain rfl := (Option.some.inj ho).symm; have d0 : vs 0 = (.agg (sysC x (.slice aa x.after.length ac) (.slice xa x.code.length xc))) := hd ⟨0, .data⟩ (by simp) rfl; clear hd ho; have h80 := G.h (j := 0) (d := 80) rfl (by decide) d0; refine step_open rfl ?_; clear G; go_simp; refine (KC1.out w' HB'.out).mono ?_; rintro e w2 ⟨rfl, hb2⟩; exact ⟨_, rfl, rfl, hb2⟩
          | 2 => intro ho hd; obtain rfl := (Option.some.inj ho).symm; clear hd ho; refine step_open rfl ?_; clear G; exact step_run (v := (.slice (some ⟨q', off', none⟩) l.length vc)) (by go_simp) rfl
          | 3 => intro ho hd; obtain rfl := (Option.some.inj ho).symm; clear hd ho; refine step_open rfl ?_; clear G; exact step_run (v := (.int .i64 (k : Int))) (by go_simp) rfl
          | 4 => intro ho hd; obtain rfl := (Option.some.inj ho).symm; have d2 : vs 2 = (.slice (some ⟨q', off', none⟩) l.length vc) := hd ⟨2, .data⟩ (by simp) rfl; have d3 : vs 3 = (.int .i64 (k : Int)) := hd ⟨3, .data⟩ (by simp) rfl; clear hd ho; have h82 := G.h (j := 2) (d := 82) rfl (by decide) d2; have h83 := G.h (j := 3) (d := 83) rfl (by decide) d3; refine step_open rfl ?_; clear G; exact step_run (v := (.pointer (some ⟨q', off' + k * 6, none⟩))) (by go_simp) rfl
          | 5 => intro ho hd; obtain rfl := (Option.some.inj ho).symm; have d4 : vs 4 = (.pointer (some ⟨q', off' + k * 6, none⟩)) := hd ⟨4, .data⟩ (by simp) rfl; clear hd ho; have h84 := G.h (j := 4) (d := 84) rfl (by decide) d4; refine step_open rfl ?_; clear G; exact step_run (v := (.agg (sysC x (.slice aa' x.after.length ac') (.slice ba' x.code.length bc')))) (by unfold sysC; go_simp) rfl
          | 6 => intro ho hd; obtain rfl := (Option.some.inj ho).symm; have d5 : vs 5 = (.agg (sysC x (.slice aa' x.after.length ac') (.slice ba' x.code.length bc'))) := hd ⟨5, .data⟩ (by simp) rfl; clear hd ho; have h85 := G.h (j := 5) (d := 85) rfl (by decide) d5; refine step_open rfl ?_; clear G; go_simp; refine (KC2.out w' HB2.out).mono ?_; rintro e w2 ⟨rfl, hb2⟩; exact ⟨_, rfl, rfl, hb2⟩
          | 7 => intro ho hd; obtain rfl := (Option.some.inj ho).symm; have d1 : vs 1 = (.string (ByteArray.mk (sysBytes x).toArray)) := hd ⟨1, .data⟩ (by simp) rfl; have d6 : vs 6 = (.string (ByteArray.mk (sysBytes x).toArray)) := hd ⟨6, .data⟩ (by simp) rfl; clear hd ho; have h81 := G.h (j := 1) (d := 81) rfl (by decide) d1; have h86 := G.h (j := 6) (d := 86) rfl (by decide) d6; refine step_open rfl ?_; clear G; exact step_run (v := (.bool false)) (by go_simp) rfl
          | n + 8 => intro ho hd; simp at ho
        · intro vs w' hb hR
          have hv : vs 7 = .bool false := hR 7 (by decide)
          have hbe := Lib.hid (HW.out.trans (hb.mono HW.out.size))
          simp only [putAll, Act.put, List.setIfInBounds_toArray, List.set_cons_succ, List.set_cons_zero, Nat.zero_add, Nat.reduceAdd]
          simp only [hv]
          clear hb hR hv
          go_wp2_with fail
          go_roundw
          case rel => exact ⟨k + 1, by omega, by go_num, hbe.out⟩
          case measure => simp [intOf] <;> omega
  · obtain rfl : k = l.length := by omega
    go_wp2_with fail
    go_ret
    exact ⟨rfl, hbw⟩
end Go.Proofs.YtgnilkjdpfbjgaaGreat
namespace Go.Proofs.YtgnilkjdpfbjgaaGreat
open Go.RowKit
set_option linter.unusedVariables false
/-- A schema, by its cells. -/
def IsSc (ver : Int) (cs : List Cmp) (u : Value) (w : World) : Prop := ∃ a c, u = .agg #[.int .i64 ver, .slice a cs.length c] ∧ CompsAt w.heap.size w a cs.length cs
theorem lasts_sc (ver : Int) (cs : List Cmp) : Lasts (IsSc ver cs) := fun u w w' ⟨a, c, h1, h2⟩ hb => ⟨a, c, h1, (h2.below hb).mono hb.size⟩
/-- A row of systems. -/
def IsSy (l : List SysT) (u : Value) (w : World) : Prop := ∃ a n c, u = .slice a n c ∧ At w TT (syssD l) (.slice a n c)
theorem lasts_sy (l : List SysT) : Lasts (IsSy l) := fun u w w' ⟨a, n, c, h1, h2⟩ hb => ⟨a, n, c, h1, h2.below hb⟩
def verV (v : Int) : Int := if verB v = true then v else 0
def verC (v : Int) : List Cmp := if verB v = true then mintC v else []
def verS (v : Int) : List SysT := if verB v = true then mintS v else []
theorem mSchema_any (v : Int) (w : World) : Calls Tryz.prog 8 #[.int .i64 v] w fun e w' => (∃ u, e = .returned u ∧ IsSc (verV v) (verC v) u w') ∧ Below w.heap.size w w' := by
  unfold verV verC
  cases h : verB v with
  | true =>
    refine (mSchema_yes v w h).mono ?_
    rintro e w1 ⟨q, c, rfl, h1, _, hb⟩
    exact ⟨⟨_, rfl, _, _, rfl, h1⟩, hb⟩
  | false =>
    refine (mSchema_no v w h).mono ?_
    rintro e w1 ⟨rfl, hb⟩
    exact ⟨⟨_, rfl, _, _, rfl, rfl, Nat.zero_le _, .inl rfl⟩, hb⟩
theorem schema34_any (v : Int) (w : World) : Calls Tryz.prog 9 #[.int .i64 v] w fun e w' => (∃ u, e = .returned u ∧ IsSc (verV v) (verC v) u w') ∧ Below w.heap.size w w' := by
  unfold verV verC
  cases h : verB v with
  | true =>
    refine (schema34_yes v w h).mono ?_
    rintro e w1 ⟨q, c, rfl, h1, hb⟩
    exact ⟨⟨_, rfl, _, _, rfl, h1⟩, hb⟩
  | false =>
    refine (schema34_no v w h).mono ?_
    rintro e w1 ⟨rfl, hb⟩
    exact ⟨⟨_, rfl, _, _, rfl, rfl, Nat.zero_le _, .inl rfl⟩, hb⟩
theorem sy_of {w : World} {T : Nat → TypeId → Prop} {l : List SysT} {u : Value} (h : At w T (syssD l) u) : IsSy l u w := by
  have h' := h.tt
  obtain ⟨a, c, rfl, _⟩ := h.row
  exact ⟨_, _, _, rfl, h'⟩
theorem sy_nil (w : World) : IsSy [] (.slice none 0 0) w := ⟨_, _, _, rfl, by
  unfold syssD At
  exact ⟨none, 0, rfl, Nat.le_refl _, Nat.zero_le _, .inl rfl⟩⟩
theorem mSystems_any (v : Int) (w : World) : Calls Tryz.prog 11 #[.int .i64 v] w fun e w' => (∃ u, e = .returned u ∧ IsSy (verS v) u w') ∧ Below w.heap.size w w' := by
  unfold verS
  cases h : verB v with
  | true =>
    refine (mSystems_yes v w h).mono ?_
    rintro e w1 ⟨u, rfl, h1, hb⟩
    exact ⟨⟨_, rfl, sy_of h1⟩, hb⟩
  | false =>
    refine (mSystems_no v w h).mono ?_
    rintro e w1 ⟨rfl, hb⟩
    exact ⟨⟨_, rfl, sy_nil _⟩, hb⟩
theorem systems34_any (v : Int) (w : World) : Calls Tryz.prog 12 #[.int .i64 v] w fun e w' => (∃ u, e = .returned u ∧ IsSy (verS v) u w') ∧ Below w.heap.size w w' := by
  unfold verS
  cases h : verB v with
  | true =>
    refine (systems34_yes v w h).mono ?_
    rintro e w1 ⟨u, rfl, h1, hb⟩
    exact ⟨⟨_, rfl, sy_of h1⟩, hb⟩
  | false =>
    refine (systems34_no v w h).mono ?_
    rintro e w1 ⟨rfl, hb⟩
    exact ⟨⟨_, rfl, sy_nil _⟩, hb⟩
theorem verS_ok (v : Int) : (verS v).all sysOk = true ∧ (verS v).length ≤ 16 := by
  unfold verS
  split
  · rename_i h
    exact ⟨sysOk_mint h, by simp [mintS]⟩
  · exact ⟨rfl, by simp⟩
theorem mint1_len : 50 < (mintB 1).length ∧ (mintB 1).length ≤ 16384 := by decide +kernel
set_option maxRecDepth 100000 in
set_option maxHeartbeats 2000000 in
theorem awake34_any (w : World) : Calls Tryz.prog 5 #[] w fun e w' => e = .returned (.bool true) ∧ Below w.heap.size w w' := by
  obtain ⟨B, hB, hB0, hB1⟩ : ∃ B : ByteArray, B = ⟨(mintB 1).toArray⟩ ∧ 50 < B.size ∧ B.size ≤ 16384 := ⟨_, rfl, mint1_len.1, mint1_len.2⟩
  have K1 := Lib.hid (fun W => mOps_any 1 20 W)
  have K2 := Lib.hid (fun W => mOps_any 1 0 W)
  have K3 := Lib.hid (fun W => mSchema_yes 2 W (by decide))
  have K4 := Lib.hid (fun W => mSystems_yes 3 W (by decide))
  have K5 := Lib.hid (fun W => mBundle_any 1 W)
  rw [← hB] at K5
  have K6 := Lib.hid (fun W => mBundle_any 0 W)
  rw [show mintB 0 = [] by decide +kernel] at K6
  have K7 := Lib.hid (fun W => mSetup_v 7 _ _ _ _ _ _ _ _ _ W rfl rfl rfl rfl rfl rfl rfl rfl rfl)
  generalize drawX (Int.toNat (7 % 18446744073709551616)) = z1 at K7
  generalize drawN (Int.toNat (7 % 18446744073709551616)) 8 = a at K7
  generalize drawN z1 4 = b at K7
  generalize drawN (drawX z1) 100 = c at K7
  generalize drawN (drawX (drawX z1)) 3 = d at K7
  rw [show opsN 20 = 20 by decide] at K1
  rw [show opsN 0 = 0 by decide] at K2
  rw [show mintC 2 = [cHp 4, cPos, cTag] by kernel_rfl] at K3
  have HB0 := Lib.hid (Below.refl w.heap.size w)
  clear hB
  go_enter Tryz.func5, Tryz.ntmps5
  go_wp2_with fail
  refine (K1.out _).mono ?_
  rintro e w1 ⟨va, vc, rfl, _, hb1⟩
  have HB1 := Lib.hid (HB0.out.trans hb1)
  clear hb1 K1
  go_wp2_with fail
  refine (K3.out _).mono ?_
  rintro e w2 ⟨q2, c2, rfl, hc2, _, hb2⟩
  have HB2 := Lib.hid (HB1.out.trans (hb2.mono HB1.out.size))
  have HC2 := Lib.hid hc2
  clear hb2 hc2 K3
  go_wp2_with fail
  refine (K7.out _).mono ?_
  rintro e w3 ⟨q3, k3, u3, rfl, _, hs3, hb3⟩
  obtain ⟨a3, c3, rfl, _⟩ := hs3.row
  have hx : Below w2.heap.size w2 w3 := ((Below.refl _ w2).alloc (Nat.le_refl _) _).trans (hb3.mono (by simp))
  have HB3 := Lib.hid (HB2.out.trans (hx.mono HB2.out.size))
  have hC3 := (HC2.out.below hx).mono hx.size
  have hQ3 := keep hb3 (heap_alloc_new w2 (.cells #[.int .i64 2, .slice (some ⟨q2, 0, none⟩) 3 c2] 25))
  clear hs3 hb3 K7 hx
  obtain ⟨cb, coff, cc, hco, hcb, hcc, g0, g1, fa, fl, fc, g2, hF, _⟩ := hC3.get (Below.refl _ _) (k := 0) (by decide)
  cases hco
  obtain rfl : cHp 4 = cc := Option.some.inj hcc
  have hfl : fl = 1 := hF.1.symm
  subst hfl
  obtain ⟨fb, foff, ff, rfl, hfb, hff, r0, r1, r2⟩ := hF.get (Below.refl _ _) (k := 0) (by decide)
  obtain rfl : (⟨sN, 4, 1⟩ : Fld) = ff := Option.some.inj hff
  have s0 := cell_at hQ3 0
  have s1 := cell_at hQ3 1
  simp at s0 s1 g2 r1
  have hl2 := lt_some hQ3
  have hq2 : q2 < w3.heap.size := hcb
  have hfb3 : fb < w3.heap.size := hfb
  clear hF hC3 g0 g1 r0 r2 hcc hff
  go_wp2_with fail
  generalize hW : World.alloc w3 _ = W at *
  have hS : W.heap[w3.heap.size]? = some (.cells #[.int .i64 1, .slice (some ⟨q3, 0, none⟩) (mintC 1).length k3, .slice a3 (mintS 1).length c3, .int .i64 (4 + (a : Int)), .int .i64 (3 + (b : Int)), .int .i64 6, .int .i64 4, .int .i64 (40 + (c : Int)), .int .i64 (1 + (d : Int))] 30 (0, 0)) := by rw [← hW]; exact heap_alloc_new w3 _
  have hbW : Below w3.heap.size w3 W := by rw [← hW]; go_grown
  have HW := Lib.hid (And.intro (HB3.out.trans (hbW.mono HB3.out.size)) (And.intro (keep hbW hQ3) (And.intro ((hbW.cell (p := ⟨q2, 2, none⟩) hq2).trans (by simpa using g2)) (And.intro ((hbW.cell (p := ⟨fb, foff + 1, none⟩) hfb3).trans (by simpa using r1)) hS))))
  have hqW : q2 < W.heap.size := by have := hbW.size; omega
  have hfW : fb < W.heap.size := by have := hbW.size; omega
  clear hQ3 hbW hS s0 s1 g2 r1 hW
  refine (K2.out _).mono ?_
  rintro e w5 ⟨va5, vc5, rfl, _, hb5⟩
  obtain ⟨h0, h1, h2, h3, h4⟩ := HW.out
  have HV := Lib.hid (And.intro (h0.trans (hb5.mono h0.size)) (keep hb5 h4))
  have j1 := keep hb5 h1
  have s0 := cell_at j1 0
  have s1 := cell_at j1 1
  have g2 := (hb5.cell (p := ⟨q2, 2, none⟩) hqW).trans h2
  have r1 := (hb5.cell (p := ⟨fb, foff + 1, none⟩) hfW).trans h3
  simp at s0 s1
  have hl5 := lt_some j1
  clear h0 h1 h2 h3 h4 j1 hb5 HW K2
  go_wp2_with fail
  refine (K4.out _).mono ?_
  rintro e w6 ⟨u6, rfl, hs6, hb6⟩
  obtain ⟨a6, c6, rfl, _⟩ := hs6.row
  rw [show (mintS 3).length = 2 from rfl]
  have HV6 := Lib.hid (And.intro (HV.out.1.trans (hb6.mono HV.out.1.size)) (keep hb6 HV.out.2))
  clear hs6 hb6 K4 HV s0 s1 g2 r1
  go_wp2_with fail
  refine (K5.out _).mono ?_
  rintro e w7 ⟨rfl, hb7⟩
  have HV7 := Lib.hid (And.intro (HV6.out.1.trans (hb7.mono HV6.out.1.size)) (keep hb7 HV6.out.2))
  clear hb7 K5 HV6
  go_wp2_with fail
  refine (K6.out _).mono ?_
  rintro e w8 ⟨rfl, hb8⟩
  have HV8 := Lib.hid (And.intro (HV7.out.1.trans (hb8.mono HV7.out.1.size)) (keep hb8 HV7.out.2))
  clear hb8 K6 HV7
  have z0 := cell_at HV8.out.2 0
  have z5 := cell_at HV8.out.2 5
  simp at z0 z5
  have hl8 := lt_some HV8.out.2
  go_wp2_with fail
  go_ret
  exact ⟨rfl, HV8.out.1⟩
end Go.Proofs.YtgnilkjdpfbjgaaGreat
