/- The reference's systems: 22 Encode. -/
import Derived.Test.YtgnilkjdpfbjgaaGreatQ24
import Derived.Test.YtgnilkjdpfbjgaaGreatQ10
import Derived.Test.YtgnilkjdpfbjgaaGreatQ11
namespace Go.Proofs.YtgnilkjdpfbjgaaGreat
open Go.RowKit
set_option linter.unusedVariables false
def e22a_list (z ac : Nat) (name : ByteArray) (after : List ByteArray) (aa : Option Addr) : List (Value → World → Prop) :=
  [IsV (.pointer (some ⟨z, 0, none⟩)),
   IsV (.string name),
   IsV (.int .i64 ((name.size : Int))),
   IsV (.int .u64 ((name.size : Int))),
   IsV (.string (ByteArray.mk (leB name.size 1).toArray)),
   IsV (.string (ByteArray.mk #[89] ++ ByteArray.mk (leB name.size 1).toArray)),
   IsV (.pointer (some ⟨z, 0, none⟩)),
   IsV (.string name),
   IsV (.string (ByteArray.mk #[89] ++ ByteArray.mk (leB name.size 1).toArray ++ name)),
   IsV (.pointer (some ⟨z, 1, none⟩)),
   IsV (.int .i64 (0)),
   IsV (.int .u64 (0)),
   IsV (.string (ByteArray.mk (leB 0 1).toArray)),
   IsV (.string (ByteArray.mk #[89] ++ ByteArray.mk (leB name.size 1).toArray ++ name ++ ByteArray.mk (leB 0 1).toArray)),
   IsV (.pointer (some ⟨z, 2, none⟩)),
   IsV (.slice aa after.length ac),
   IsV (.int .i64 ((after.length : Int))),
   IsV (.int .u64 ((after.length : Int))),
   IsV (.string (ByteArray.mk (leB after.length 1).toArray)),
   IsV (.string (ByteArray.mk #[89] ++ ByteArray.mk (leB name.size 1).toArray ++ name ++ ByteArray.mk (leB 0 1).toArray ++ ByteArray.mk (leB after.length 1).toArray)),
   IsV (.string (ByteArray.mk #[89] ++ ByteArray.mk (leB name.size 1).toArray ++ name ++ ByteArray.mk (leB 0 1).toArray ++ ByteArray.mk (leB after.length 1).toArray))]
theorem e22a_list_lasts (z ac : Nat) (name : ByteArray) (after : List ByteArray) (aa : Option Addr) : ∀ p ∈ e22a_list z ac  name  after  aa , Lasts p := by
  simp only [e22a_list, List.mem_cons, List.not_mem_nil, or_false]
  rintro p hp
  repeat (rcases hp with rfl | hp; exact lasts_v _)
def e22b_list (z q off ac : Nat) (S : List UInt8) (x : ByteArray) (after : List ByteArray) : List (Value → World → Prop) :=
  [IsV (.string (ByteArray.mk (S).toArray)),
   IsV (.pointer (some ⟨z, 2, none⟩)),
   IsV (.slice (some ⟨q, off, none⟩) after.length ac),
   IsV (.int .i64 ((0 : Int))),
   IsV (.pointer (some ⟨q, off, none⟩)),
   IsV (.string x),
   IsV (.int .i64 ((x.size : Int))),
   IsV (.int .u64 ((x.size : Int))),
   IsV (.string (ByteArray.mk (leB x.size 1).toArray)),
   IsV (.string (ByteArray.mk (S).toArray ++ ByteArray.mk (leB x.size 1).toArray)),
   IsV (.pointer (some ⟨z, 2, none⟩)),
   IsV (.slice (some ⟨q, off, none⟩) after.length ac),
   IsV (.int .i64 ((0 : Int))),
   IsV (.pointer (some ⟨q, off, none⟩)),
   IsV (.string x),
   IsV (.string (ByteArray.mk (S).toArray ++ ByteArray.mk (leB x.size 1).toArray ++ x))]
theorem e22b_list_lasts (z q off ac : Nat) (S : List UInt8) (x : ByteArray) (after : List ByteArray) : ∀ p ∈ e22b_list z q off ac  S  x  after , Lasts p := by
  simp only [e22b_list, List.mem_cons, List.not_mem_nil, or_false]
  rintro p hp
  repeat (rcases hp with rfl | hp; exact lasts_v _)
def e22c_list (z cc : Nat) (al : Int) (S : List UInt8) (code : List OpT) (ca : Option Addr) : List (Value → World → Prop) :=
  [IsV (.string (ByteArray.mk (S).toArray)),
   IsV (.pointer (some ⟨z, 3, none⟩)),
   IsV (.int .u32 al),
   IsV (.int .u64 (al)),
   IsV (.string (ByteArray.mk (leB al.toNat 4).toArray)),
   IsV (.string (ByteArray.mk (S).toArray ++ ByteArray.mk (leB al.toNat 4).toArray)),
   IsV (.pointer (some ⟨z, 4, none⟩)),
   IsV (.int .u32 0),
   IsV (.int .u64 (0)),
   IsV (.string (ByteArray.mk (leB 0 4).toArray)),
   IsV (.string (ByteArray.mk (S).toArray ++ ByteArray.mk (leB al.toNat 4).toArray ++ ByteArray.mk (leB 0 4).toArray)),
   IsV (.pointer (some ⟨z, 5, none⟩)),
   IsV (.slice ca code.length cc),
   IsV (.int .i64 ((code.length : Int))),
   IsV (.int .u64 ((code.length : Int))),
   IsV (.string (ByteArray.mk (leB code.length 1).toArray)),
   IsV (.string (ByteArray.mk (S).toArray ++ ByteArray.mk (leB al.toNat 4).toArray ++ ByteArray.mk (leB 0 4).toArray ++ ByteArray.mk (leB code.length 1).toArray))]
theorem e22c_list_lasts (z cc : Nat) (al : Int) (S : List UInt8) (code : List OpT) (ca : Option Addr) : ∀ p ∈ e22c_list z cc  al  S  code  ca , Lasts p := by
  simp only [e22c_list, List.mem_cons, List.not_mem_nil, or_false]
  rintro p hp
  repeat (rcases hp with rfl | hp; exact lasts_v _)
def e22d_list (y : Nat) (S : List UInt8) (x : OpT) : List (Value → World → Prop) :=
  [IsV (.string (ByteArray.mk (S).toArray)),
   IsV (.pointer (some ⟨y, 0, none⟩)),
   IsV (.int .i64 (x.code)),
   IsV (.int .u64 (x.code)),
   IsV (.string (ByteArray.mk (leB x.code.toNat 1).toArray)),
   IsV (.string (ByteArray.mk (S).toArray ++ ByteArray.mk (leB x.code.toNat 1).toArray)),
   IsV (.pointer (some ⟨y, 1, none⟩)),
   IsV (.int .i64 (x.a)),
   IsV (.int .u64 (x.a)),
   IsV (.string (ByteArray.mk (leB x.a.toNat 1).toArray)),
   IsV (.string (ByteArray.mk (S).toArray ++ ByteArray.mk (leB x.code.toNat 1).toArray ++ ByteArray.mk (leB x.a.toNat 1).toArray)),
   IsV (.pointer (some ⟨y, 2, none⟩)),
   IsV (.int .i64 (x.b)),
   IsV (.int .u64 (x.b)),
   IsV (.string (ByteArray.mk (leB x.b.toNat 1).toArray)),
   IsV (.string (ByteArray.mk (S).toArray ++ ByteArray.mk (leB x.code.toNat 1).toArray ++ ByteArray.mk (leB x.a.toNat 1).toArray ++ ByteArray.mk (leB x.b.toNat 1).toArray)),
   IsV (.pointer (some ⟨y, 3, none⟩)),
   IsV (.int .i64 (x.c)),
   IsV (.int .u64 (x.c)),
   IsV (.string (ByteArray.mk (leB x.c.toNat 1).toArray)),
   IsV (.string (ByteArray.mk (S).toArray ++ ByteArray.mk (leB x.code.toNat 1).toArray ++ ByteArray.mk (leB x.a.toNat 1).toArray ++ ByteArray.mk (leB x.b.toNat 1).toArray ++ ByteArray.mk (leB x.c.toNat 1).toArray)),
   IsV (.pointer (some ⟨y, 4, none⟩)),
   IsV (.int .i64 (x.k)),
   IsV (.int .u64 (x.k)),
   IsV (.string (ByteArray.mk (leB x.k.toNat 8).toArray)),
   IsV (.string (ByteArray.mk (S).toArray ++ ByteArray.mk (leB x.code.toNat 1).toArray ++ ByteArray.mk (leB x.a.toNat 1).toArray ++ ByteArray.mk (leB x.b.toNat 1).toArray ++ ByteArray.mk (leB x.c.toNat 1).toArray ++ ByteArray.mk (leB x.k.toNat 8).toArray))]
theorem e22d_list_lasts (y : Nat) (S : List UInt8) (x : OpT) : ∀ p ∈ e22d_list y  S  x , Lasts p := by
  simp only [e22d_list, List.mem_cons, List.not_mem_nil, or_false]
  rintro p hp
  repeat (rcases hp with rfl | hp; exact lasts_v _)
set_option maxRecDepth 100000 in
set_option maxHeartbeats 2000000 in
theorem enc22_any (s : SysT) (w : World) (T : Nat → TypeId → Prop) (ua uc : Value) (ha : At w T (strsD s.after) ua) (hc : At w T (opsD s.code) uc) (h : sysOk s = true) :
    Calls Tryz.prog 23 #[.agg #[.string s.name, .int .i64 s.stage, ua, .int .u32 s.al, .int .u32 s.no, uc]] w fun e w' => e = .returned (.string ⟨(sysBytes s).toArray⟩) ∧ Below w.heap.size w w' := by
  obtain ⟨hn, hst, hl, haf, hal, hno, hcl, hco⟩ := sysOk_is h
  obtain ⟨aa, ac, rfl, hac, _, harow⟩ := row1_at strD ha
  obtain ⟨ca, cc, rfl, hcc, _, hcrow⟩ := ops_at hc
  obtain ⟨name, stage, after, al, no, code⟩ := s
  dsimp only at hn hst hl haf hal hno hcl hco harow hcrow hac hcc ⊢
  subst hst hno
  have hsz := name_size hn
  have hal1 : 0 ≤ al ∧ al ≤ 4294967295 := by omega
  have HF := Lib.hid haf
  have HC := Lib.hid hco
  have HA := Lib.hid harow
  have HCR := Lib.hid hcrow
  have hL : ∀ n k, (leB n k).length = k := leB_len
  have H0 := Lib.hid (And.intro (heap_alloc_new w (.cells #[.string name, .int .i64 0, .slice aa after.length ac, .int .u32 al, .int .u32 0, .slice ca code.length cc] 81)) ((Below.refl _ w).alloc (Nat.le_refl _) (.cells #[.string name, .int .i64 0, .slice aa after.length ac, .int .u32 al, .int .u32 0, .slice ca code.length cc] 81)))
  clear ha hc h haf hco harow hcrow
  go_enter Tryz.func23, Tryz.ntmps23
  go_wp2_with fail
  refine wp_region_frame (by kernel_rfl) (by kernel_rfl) (by kernel_rfl) (byList (e22a_list w.heap.size ac name after aa)) (lasts_list (e22a_list_lasts w.heap.size ac name after aa)) ?_ ?_
  · intro vs w' iq o A F hb ho hd
    have m1 : A.tmps[1]?.getD undef = (.pointer (some ⟨w.heap.size, 0, none⟩)) := F.m (by kernel_rfl) rfl
    have G := F.light (n := 106) (by kernel_rfl)
    clear F
    have hK := keep hb H0.out.1
    have s0 := cell_at hK 0
    have s1 := cell_at hK 1
    have s2 := cell_at hK 2
    simp at s0 s1 s2
    clear hb hK
    revert ho hd
    match iq with
    | 0 => intro ho hd; obtain rfl := (Option.some.inj ho).symm; clear hd ho; refine step_open rfl ?_; clear G; exact step_run (v := (.pointer (some ⟨w.heap.size, 0, none⟩))) (by go_simp <;> first | omega | rfl | decide) rfl
    | 1 => intro ho hd; obtain rfl := (Option.some.inj ho).symm; have d0 : vs 0 = (.pointer (some ⟨w.heap.size, 0, none⟩)) := hd ⟨0, .data⟩ (by simp) rfl; clear hd ho; have h7 := G.h (j := 0) (d := 7) rfl (by decide) d0; refine step_open rfl ?_; clear G; exact step_run (v := (.string name)) (by go_simp <;> first | omega | rfl | decide) rfl
    | 2 => intro ho hd; obtain rfl := (Option.some.inj ho).symm; have d1 : vs 1 = (.string name) := hd ⟨1, .data⟩ (by simp) rfl; clear hd ho; have h8 := G.h (j := 1) (d := 8) rfl (by decide) d1; refine step_open rfl ?_; clear G; exact step_run (v := (.int .i64 ((name.size : Int)))) (by go_simp <;> first | omega | rfl | decide) rfl
    | 3 => intro ho hd; obtain rfl := (Option.some.inj ho).symm; have d2 : vs 2 = (.int .i64 ((name.size : Int))) := hd ⟨2, .data⟩ (by simp) rfl; clear hd ho; have h9 := G.h (j := 2) (d := 9) rfl (by decide) d2; refine step_open rfl ?_; clear G; have e8 : IntKind.u64.wrap ((name.size : Int)) = ((name.size : Int)) := (by rw [IntKind.wrap_u64]; omega); exact step_run (v := (.int .u64 ((name.size : Int)))) (by go_simp <;> first | omega | rfl | decide) rfl
    | 4 => intro ho hd; obtain rfl := (Option.some.inj ho).symm; have d3 : vs 3 = (.int .u64 ((name.size : Int))) := hd ⟨3, .data⟩ (by simp) rfl; clear hd ho; have h10 := G.h (j := 3) (d := 10) rfl (by decide) d3; refine step_open rfl ?_; clear G; go_simp; refine (low1 (name.size : Int) _ (by omega) (by omega)).mono ?_; rintro e w2 ⟨rfl, hb2⟩; exact ⟨_, rfl, rfl, hb2⟩
    | 5 => intro ho hd; obtain rfl := (Option.some.inj ho).symm; have d4 : vs 4 = (.string (ByteArray.mk (leB name.size 1).toArray)) := hd ⟨4, .data⟩ (by simp) rfl; clear hd ho; have h11 := G.h (j := 4) (d := 11) rfl (by decide) d4; refine step_open rfl ?_; clear G; exact step_run (v := (.string (ByteArray.mk #[89] ++ ByteArray.mk (leB name.size 1).toArray))) (by go_simp <;> first | omega | rfl | decide) rfl
    | 6 => intro ho hd; obtain rfl := (Option.some.inj ho).symm; clear hd ho; refine step_open rfl ?_; clear G; exact step_run (v := (.pointer (some ⟨w.heap.size, 0, none⟩))) (by go_simp <;> first | omega | rfl | decide) rfl
    | 7 => intro ho hd; obtain rfl := (Option.some.inj ho).symm; have d6 : vs 6 = (.pointer (some ⟨w.heap.size, 0, none⟩)) := hd ⟨6, .data⟩ (by simp) rfl; clear hd ho; have h13 := G.h (j := 6) (d := 13) rfl (by decide) d6; refine step_open rfl ?_; clear G; exact step_run (v := (.string name)) (by go_simp <;> first | omega | rfl | decide) rfl
    | 8 => intro ho hd; obtain rfl := (Option.some.inj ho).symm; have d5 : vs 5 = (.string (ByteArray.mk #[89] ++ ByteArray.mk (leB name.size 1).toArray)) := hd ⟨5, .data⟩ (by simp) rfl; have d7 : vs 7 = (.string name) := hd ⟨7, .data⟩ (by simp) rfl; clear hd ho; have h12 := G.h (j := 5) (d := 12) rfl (by decide) d5; have h14 := G.h (j := 7) (d := 14) rfl (by decide) d7; refine step_open rfl ?_; clear G; exact step_run (v := (.string (ByteArray.mk #[89] ++ ByteArray.mk (leB name.size 1).toArray ++ name))) (by go_simp <;> first | omega | rfl | decide) rfl
    | 9 => intro ho hd; obtain rfl := (Option.some.inj ho).symm; clear hd ho; refine step_open rfl ?_; clear G; exact step_run (v := (.pointer (some ⟨w.heap.size, 1, none⟩))) (by go_simp <;> first | omega | rfl | decide) rfl
    | 10 => intro ho hd; obtain rfl := (Option.some.inj ho).symm; have d9 : vs 9 = (.pointer (some ⟨w.heap.size, 1, none⟩)) := hd ⟨9, .data⟩ (by simp) rfl; clear hd ho; have h16 := G.h (j := 9) (d := 16) rfl (by decide) d9; refine step_open rfl ?_; clear G; exact step_run (v := (.int .i64 (0))) (by go_simp <;> first | omega | rfl | decide) rfl
    | 11 => intro ho hd; obtain rfl := (Option.some.inj ho).symm; have d10 : vs 10 = (.int .i64 (0)) := hd ⟨10, .data⟩ (by simp) rfl; clear hd ho; have h17 := G.h (j := 10) (d := 17) rfl (by decide) d10; refine step_open rfl ?_; clear G; exact step_run (v := (.int .u64 (0))) (by go_simp <;> first | omega | rfl | decide) rfl
    | 12 => intro ho hd; obtain rfl := (Option.some.inj ho).symm; have d11 : vs 11 = (.int .u64 (0)) := hd ⟨11, .data⟩ (by simp) rfl; clear hd ho; have h18 := G.h (j := 11) (d := 18) rfl (by decide) d11; refine step_open rfl ?_; clear G; go_simp; refine (low1 0 _ (by omega) (by omega)).mono ?_; rintro e w2 ⟨rfl, hb2⟩; exact ⟨_, rfl, rfl, hb2⟩
    | 13 => intro ho hd; obtain rfl := (Option.some.inj ho).symm; have d8 : vs 8 = (.string (ByteArray.mk #[89] ++ ByteArray.mk (leB name.size 1).toArray ++ name)) := hd ⟨8, .data⟩ (by simp) rfl; have d12 : vs 12 = (.string (ByteArray.mk (leB 0 1).toArray)) := hd ⟨12, .data⟩ (by simp) rfl; clear hd ho; have h15 := G.h (j := 8) (d := 15) rfl (by decide) d8; have h19 := G.h (j := 12) (d := 19) rfl (by decide) d12; refine step_open rfl ?_; clear G; exact step_run (v := (.string (ByteArray.mk #[89] ++ ByteArray.mk (leB name.size 1).toArray ++ name ++ ByteArray.mk (leB 0 1).toArray))) (by go_simp <;> first | omega | rfl | decide) rfl
    | 14 => intro ho hd; obtain rfl := (Option.some.inj ho).symm; clear hd ho; refine step_open rfl ?_; clear G; exact step_run (v := (.pointer (some ⟨w.heap.size, 2, none⟩))) (by go_simp <;> first | omega | rfl | decide) rfl
    | 15 => intro ho hd; obtain rfl := (Option.some.inj ho).symm; have d14 : vs 14 = (.pointer (some ⟨w.heap.size, 2, none⟩)) := hd ⟨14, .data⟩ (by simp) rfl; clear hd ho; have h21 := G.h (j := 14) (d := 21) rfl (by decide) d14; refine step_open rfl ?_; clear G; exact step_run (v := (.slice aa after.length ac)) (by go_simp <;> first | omega | rfl | decide) rfl
    | 16 => intro ho hd; obtain rfl := (Option.some.inj ho).symm; have d15 : vs 15 = (.slice aa after.length ac) := hd ⟨15, .data⟩ (by simp) rfl; clear hd ho; have h22 := G.h (j := 15) (d := 22) rfl (by decide) d15; refine step_open rfl ?_; clear G; exact step_run (v := (.int .i64 ((after.length : Int)))) (by go_simp <;> first | omega | rfl | decide) rfl
    | 17 => intro ho hd; obtain rfl := (Option.some.inj ho).symm; have d16 : vs 16 = (.int .i64 ((after.length : Int))) := hd ⟨16, .data⟩ (by simp) rfl; clear hd ho; have h23 := G.h (j := 16) (d := 23) rfl (by decide) d16; refine step_open rfl ?_; clear G; have e8 : IntKind.u64.wrap ((after.length : Int)) = ((after.length : Int)) := (by rw [IntKind.wrap_u64]; omega); exact step_run (v := (.int .u64 ((after.length : Int)))) (by go_simp <;> first | omega | rfl | decide) rfl
    | 18 => intro ho hd; obtain rfl := (Option.some.inj ho).symm; have d17 : vs 17 = (.int .u64 ((after.length : Int))) := hd ⟨17, .data⟩ (by simp) rfl; clear hd ho; have h24 := G.h (j := 17) (d := 24) rfl (by decide) d17; refine step_open rfl ?_; clear G; go_simp; refine (low1 (after.length : Int) _ (by omega) (by omega)).mono ?_; rintro e w2 ⟨rfl, hb2⟩; exact ⟨_, rfl, rfl, hb2⟩
    | 19 => intro ho hd; obtain rfl := (Option.some.inj ho).symm; have d13 : vs 13 = (.string (ByteArray.mk #[89] ++ ByteArray.mk (leB name.size 1).toArray ++ name ++ ByteArray.mk (leB 0 1).toArray)) := hd ⟨13, .data⟩ (by simp) rfl; have d18 : vs 18 = (.string (ByteArray.mk (leB after.length 1).toArray)) := hd ⟨18, .data⟩ (by simp) rfl; clear hd ho; have h20 := G.h (j := 13) (d := 20) rfl (by decide) d13; have h25 := G.h (j := 18) (d := 25) rfl (by decide) d18; refine step_open rfl ?_; clear G; exact step_run (v := (.string (ByteArray.mk #[89] ++ ByteArray.mk (leB name.size 1).toArray ++ name ++ ByteArray.mk (leB 0 1).toArray ++ ByteArray.mk (leB after.length 1).toArray))) (by go_simp <;> first | omega | rfl | decide) rfl
    | 20 => intro ho hd; obtain rfl := (Option.some.inj ho).symm; have d19 : vs 19 = (.string (ByteArray.mk #[89] ++ ByteArray.mk (leB name.size 1).toArray ++ name ++ ByteArray.mk (leB 0 1).toArray ++ ByteArray.mk (leB after.length 1).toArray)) := hd ⟨19, .data⟩ (by simp) rfl; clear hd ho; have h26 := G.h (j := 19) (d := 26) rfl (by decide) d19; refine step_open rfl ?_; clear G; exact step_run (v := (.string (ByteArray.mk #[89] ++ ByteArray.mk (leB name.size 1).toArray ++ name ++ ByteArray.mk (leB 0 1).toArray ++ ByteArray.mk (leB after.length 1).toArray))) (by go_simp <;> first | omega | rfl | decide) rfl
    | n + 21 => intro ho hd; simp at ho
  · intro vs w' hb hR
    have hv : vs 20 = .string (ByteArray.mk #[89] ++ ByteArray.mk (leB name.size 1).toArray ++ name ++ ByteArray.mk (leB 0 1).toArray ++ ByteArray.mk (leB after.length 1).toArray) := hR 20 (by decide)
    have hbB := H0.out.2.trans (hb.mono (by have := H0.out.2.size; omega))
    have hK0 := keep hb H0.out.1
    simp only [putAll, Act.put, List.setIfInBounds_toArray, List.set_cons_succ, List.set_cons_zero]
    rw [show (ByteArray.mk #[89]) = ByteArray.mk ([89] : List UInt8).toArray from rfl, ba_cat, str_app, ba_cat, ba_cat] at hv
    obtain ⟨S1, hS⟩ : ∃ S, S = [89] ++ leB name.size 1 ++ name.data.toList ++ leB 0 1 ++ leB after.length 1 := ⟨_, rfl⟩
    rw [← hS] at hv
    have hS1l : S1.length ≤ 20 := by
      rw [hS]
      simp only [List.length_append, leB_len, Array.length_toList]
      have : name.data.size = name.size := rfl
      simp
      omega
    have HS1 := Lib.hid hS
    rw [hv]
    clear H0 hb hR hv hS
    go_wp2_with fail
    go_loopw [3, 4] (fun s i wr => ∃ (k : Nat), k ≤ after.length ∧ i = .int .i64 k ∧ s = .string ⟨(S1 ++ (after.take k).flatMap nameB).toArray⟩ ∧ wr.heap[w.heap.size]? = some (.cells #[.string name, .int .i64 0, .slice aa after.length ac, .int .u32 al, .int .u32 0, .slice ca code.length cc] 81 (0, 0)) ∧ Below w.heap.size w wr) (fun _ i _ => after.length - (intOf i).toNat)
    case atStart => exact ⟨0, Nat.zero_le _, rfl, by simp, hK0, hbB⟩
    case round =>
    obtain ⟨k, hk, rfl, rfl, hq, hbw⟩ := hrel
    have p2 := cell_at hq 2
    simp at p2
    have hlz := lt_some hq
    have hfl := flat_len_le nameB 13 (after.take k) (fun x hx => by
      have := name_size (HF.out x (List.mem_of_mem_take hx)).1
      rw [nameB_len]; omega)
    rw [List.length_take] at hfl
    by_cases hlt : k < after.length
    · obtain rfl : k = 0 := by omega
      have hx := List.getElem?_eq_getElem hlt
      generalize after[0] = x at *
      have hsn := Lib.hid (flat_snoc nameB hx)
      obtain ⟨hnx, hne⟩ := HF.out x (List.mem_of_getElem? hx)
      obtain ⟨q, off, v, rfl, hqb, hv, hA⟩ := HA.out 0 x hx
      obtain rfl := at_v hA
      have hvW : wr.cell? ⟨q, off, none⟩ = some (.string x) := (hbw.cell (p := ⟨q, off + 0, none⟩) hqb).trans hv
      have hqW : q < wr.heap.size := by have := hbw.size; omega
      have hsx := name_size hnx
      obtain ⟨S, hS⟩ : ∃ S, S = S1 ++ (after.take 0).flatMap nameB := ⟨_, rfl⟩
      have hSl : S.length ≤ 40 := by rw [hS, List.length_append]; omega
      have HS := Lib.hid hS
      rw [← hS]
      clear hv hA hx hne hS hfl
      go_upto_region 5 with (fail)
      refine wp_region_tail 16 (by kernel_rfl) (by kernel_rfl) (by kernel_rfl) (by decide) (by kernel_rfl) (byList (e22b_list w.heap.size q off ac S x after)) (lasts_list (e22b_list_lasts w.heap.size q off ac S x after)) ?_ ?_
      · intro vs w' iq o A hi F hb ho hd
        have m1 : A.tmps[1]?.getD undef = (.pointer (some ⟨w.heap.size, 0, none⟩)) := F.m (by kernel_rfl) rfl
        have m3 : A.tmps[3]?.getD undef = (.string (ByteArray.mk (S).toArray)) := F.m (by kernel_rfl) rfl
        have m4 : A.tmps[4]?.getD undef = (.int .i64 ((0 : Int))) := F.m (by kernel_rfl) rfl
        have G := F.light (n := 106) (by kernel_rfl)
        clear F
        have hK := keep hb hq
        have s2 := cell_at hK 2
        have d0 := (hb.cell (p := ⟨q, off, none⟩) hqW).trans hvW
        simp at s2
        clear hb hK
        revert hi ho hd
        match iq with
        | 0 => intro _ ho hd; obtain rfl := (Option.some.inj ho).symm; clear hd ho; refine step_open rfl ?_; clear G; exact step_run (v := (.string (ByteArray.mk (S).toArray))) (by go_simp <;> first | omega | rfl | decide) rfl
        | 1 => intro _ ho hd; obtain rfl := (Option.some.inj ho).symm; clear hd ho; refine step_open rfl ?_; clear G; exact step_run (v := (.pointer (some ⟨w.heap.size, 2, none⟩))) (by go_simp <;> first | omega | rfl | decide) rfl
        | 2 => intro _ ho hd; obtain rfl := (Option.some.inj ho).symm; have d1 : vs 1 = (.pointer (some ⟨w.heap.size, 2, none⟩)) := hd ⟨1, .data⟩ (by simp) rfl; clear hd ho; have h35 := G.h (j := 1) (d := 35) rfl (by decide) d1; refine step_open rfl ?_; clear G; exact step_run (v := (.slice (some ⟨q, off, none⟩) after.length ac)) (by go_simp <;> first | omega | rfl | decide) rfl
        | 3 => intro _ ho hd; obtain rfl := (Option.some.inj ho).symm; clear hd ho; refine step_open rfl ?_; clear G; exact step_run (v := (.int .i64 ((0 : Int)))) (by go_simp <;> first | omega | rfl | decide) rfl
        | 4 => intro _ ho hd; obtain rfl := (Option.some.inj ho).symm; have d2 : vs 2 = (.slice (some ⟨q, off, none⟩) after.length ac) := hd ⟨2, .data⟩ (by simp) rfl; have d3 : vs 3 = (.int .i64 ((0 : Int))) := hd ⟨3, .data⟩ (by simp) rfl; clear hd ho; have h36 := G.h (j := 2) (d := 36) rfl (by decide) d2; have h37 := G.h (j := 3) (d := 37) rfl (by decide) d3; refine step_open rfl ?_; clear G; exact step_run (v := (.pointer (some ⟨q, off, none⟩))) (by go_simp <;> first | omega | rfl | decide) rfl
        | 5 => intro _ ho hd; obtain rfl := (Option.some.inj ho).symm; have d4 : vs 4 = (.pointer (some ⟨q, off, none⟩)) := hd ⟨4, .data⟩ (by simp) rfl; clear hd ho; have h38 := G.h (j := 4) (d := 38) rfl (by decide) d4; refine step_open rfl ?_; clear G; exact step_run (v := (.string x)) (by go_simp <;> first | omega | rfl | decide) rfl
        | 6 => intro _ ho hd; obtain rfl := (Option.some.inj ho).symm; have d5 : vs 5 = (.string x) := hd ⟨5, .data⟩ (by simp) rfl; clear hd ho; have h39 := G.h (j := 5) (d := 39) rfl (by decide) d5; refine step_open rfl ?_; clear G; exact step_run (v := (.int .i64 ((x.size : Int)))) (by go_simp <;> first | omega | rfl | decide) rfl
        | 7 => intro _ ho hd; obtain rfl := (Option.some.inj ho).symm; have d6 : vs 6 = (.int .i64 ((x.size : Int))) := hd ⟨6, .data⟩ (by simp) rfl; clear hd ho; have h40 := G.h (j := 6) (d := 40) rfl (by decide) d6; refine step_open rfl ?_; clear G; have e8 : IntKind.u64.wrap ((x.size : Int)) = ((x.size : Int)) := (by rw [IntKind.wrap_u64]; omega); exact step_run (v := (.int .u64 ((x.size : Int)))) (by go_simp <;> first | omega | rfl | decide) rfl
        | 8 => intro _ ho hd; obtain rfl := (Option.some.inj ho).symm; have d7 : vs 7 = (.int .u64 ((x.size : Int))) := hd ⟨7, .data⟩ (by simp) rfl; clear hd ho; have h41 := G.h (j := 7) (d := 41) rfl (by decide) d7; refine step_open rfl ?_; clear G; go_simp; refine (low1 (x.size : Int) _ (by omega) (by omega)).mono ?_; rintro e w2 ⟨rfl, hb2⟩; exact ⟨_, rfl, rfl, hb2⟩
        | 9 => intro _ ho hd; obtain rfl := (Option.some.inj ho).symm; have d0 : vs 0 = (.string (ByteArray.mk (S).toArray)) := hd ⟨0, .data⟩ (by simp) rfl; have d8 : vs 8 = (.string (ByteArray.mk (leB x.size 1).toArray)) := hd ⟨8, .data⟩ (by simp) rfl; clear hd ho; have h34 := G.h (j := 0) (d := 34) rfl (by decide) d0; have h42 := G.h (j := 8) (d := 42) rfl (by decide) d8; refine step_open rfl ?_; clear G; exact step_run (v := (.string (ByteArray.mk (S).toArray ++ ByteArray.mk (leB x.size 1).toArray))) (by go_simp <;> first | omega | rfl | decide) rfl
        | 10 => intro _ ho hd; obtain rfl := (Option.some.inj ho).symm; clear hd ho; refine step_open rfl ?_; clear G; exact step_run (v := (.pointer (some ⟨w.heap.size, 2, none⟩))) (by go_simp <;> first | omega | rfl | decide) rfl
        | 11 => intro _ ho hd; obtain rfl := (Option.some.inj ho).symm; have d10 : vs 10 = (.pointer (some ⟨w.heap.size, 2, none⟩)) := hd ⟨10, .data⟩ (by simp) rfl; clear hd ho; have h44 := G.h (j := 10) (d := 44) rfl (by decide) d10; refine step_open rfl ?_; clear G; exact step_run (v := (.slice (some ⟨q, off, none⟩) after.length ac)) (by go_simp <;> first | omega | rfl | decide) rfl
        | 12 => intro _ ho hd; obtain rfl := (Option.some.inj ho).symm; clear hd ho; refine step_open rfl ?_; clear G; exact step_run (v := (.int .i64 ((0 : Int)))) (by go_simp <;> first | omega | rfl | decide) rfl
        | 13 => intro _ ho hd; obtain rfl := (Option.some.inj ho).symm; have d11 : vs 11 = (.slice (some ⟨q, off, none⟩) after.length ac) := hd ⟨11, .data⟩ (by simp) rfl; have d12 : vs 12 = (.int .i64 ((0 : Int))) := hd ⟨12, .data⟩ (by simp) rfl; clear hd ho; have h45 := G.h (j := 11) (d := 45) rfl (by decide) d11; have h46 := G.h (j := 12) (d := 46) rfl (by decide) d12; refine step_open rfl ?_; clear G; exact step_run (v := (.pointer (some ⟨q, off, none⟩))) (by go_simp <;> first | omega | rfl | decide) rfl
        | 14 => intro _ ho hd; obtain rfl := (Option.some.inj ho).symm; have d13 : vs 13 = (.pointer (some ⟨q, off, none⟩)) := hd ⟨13, .data⟩ (by simp) rfl; clear hd ho; have h47 := G.h (j := 13) (d := 47) rfl (by decide) d13; refine step_open rfl ?_; clear G; exact step_run (v := (.string x)) (by go_simp <;> first | omega | rfl | decide) rfl
        | 15 => intro _ ho hd; obtain rfl := (Option.some.inj ho).symm; have d9 : vs 9 = (.string (ByteArray.mk (S).toArray ++ ByteArray.mk (leB x.size 1).toArray)) := hd ⟨9, .data⟩ (by simp) rfl; have d14 : vs 14 = (.string x) := hd ⟨14, .data⟩ (by simp) rfl; clear hd ho; have h43 := G.h (j := 9) (d := 43) rfl (by decide) d9; have h48 := G.h (j := 14) (d := 48) rfl (by decide) d14; refine step_open rfl ?_; clear G; exact step_run (v := (.string (ByteArray.mk (S).toArray ++ ByteArray.mk (leB x.size 1).toArray ++ x))) (by go_simp <;> first | omega | rfl | decide) rfl
        | n + 16 =>
          intro hi
          exfalso
          omega
      · intro vs w' A hA F hb hR
        have hv : vs 15 = .string (ByteArray.mk S.toArray ++ ByteArray.mk (leB x.size 1).toArray ++ x) := hR 15 (by decide)
        subst hA
        clear F
        simp only [List.drop_succ_cons, List.drop_zero, wpTail, putAll, Act.put, List.setIfInBounds_toArray, List.set_cons_succ, List.set_cons_zero]
        rw [ba_cat, str_app] at hv
        simp only [hv]
        have hK := keep hb hq
        have hbe := hbw.trans (hb.mono hbw.size)
        clear hb hR hv
        go_simp
        go_wp2
        refine ⟨?_, ?measure⟩
        apply Exists.intro
        apply Exists.intro
        (repeat apply Exists.intro)
        refine ⟨?rel, rfl⟩
        case rel =>
          refine ⟨1, by omega, by go_num, ?_, hK, hbe⟩
          rw [hsn.out, ← List.append_assoc S1, ← HS.out]
          unfold nameB
          simp
        case measure => simp [intOf]; omega
    · obtain rfl : k = after.length := by omega
      rw [List.take_length] at *
      obtain ⟨S, hS⟩ : ∃ S, S = S1 ++ after.flatMap nameB := ⟨_, rfl⟩
      have hSl : S.length ≤ 40 := by rw [hS, List.length_append]; omega
      have HS := Lib.hid hS
      rw [← hS]
      clear hS hfl
      go_upto_region 6 with (fail)
      refine wp_region_tail 17 (by kernel_rfl) (by kernel_rfl) (by kernel_rfl) (by decide) (by kernel_rfl) (byList (e22c_list w.heap.size cc al S code ca)) (lasts_list (e22c_list_lasts w.heap.size cc al S code ca)) ?_ ?_
      · intro vs w' iq o A hi F hb ho hd
        have m1 : A.tmps[1]?.getD undef = (.pointer (some ⟨w.heap.size, 0, none⟩)) := F.m (by kernel_rfl) rfl
        have m3 : A.tmps[3]?.getD undef = (.string (ByteArray.mk (S).toArray)) := F.m (by kernel_rfl) rfl
        have G := F.light (n := 106) (by kernel_rfl)
        clear F
        have hK := keep hb hq
        have s3 := cell_at hK 3
        have s4 := cell_at hK 4
        have s5 := cell_at hK 5
        simp at s3 s4 s5
        clear hb hK
        revert hi ho hd
        match iq with
        | 0 => intro _ ho hd; obtain rfl := (Option.some.inj ho).symm; clear hd ho; refine step_open rfl ?_; clear G; exact step_run (v := (.string (ByteArray.mk (S).toArray))) (by go_simp <;> first | omega | rfl | decide) rfl
        | 1 => intro _ ho hd; obtain rfl := (Option.some.inj ho).symm; clear hd ho; refine step_open rfl ?_; clear G; exact step_run (v := (.pointer (some ⟨w.heap.size, 3, none⟩))) (by go_simp <;> first | omega | rfl | decide) rfl
        | 2 => intro _ ho hd; obtain rfl := (Option.some.inj ho).symm; have d1 : vs 1 = (.pointer (some ⟨w.heap.size, 3, none⟩)) := hd ⟨1, .data⟩ (by simp) rfl; clear hd ho; have h51 := G.h (j := 1) (d := 51) rfl (by decide) d1; refine step_open rfl ?_; clear G; exact step_run (v := (.int .u32 al)) (by go_simp <;> first | omega | rfl | decide) rfl
        | 3 => intro _ ho hd; obtain rfl := (Option.some.inj ho).symm; have d2 : vs 2 = (.int .u32 al) := hd ⟨2, .data⟩ (by simp) rfl; clear hd ho; have h52 := G.h (j := 2) (d := 52) rfl (by decide) d2; refine step_open rfl ?_; clear G; have e8 : IntKind.u64.wrap (al) = (al) := (by rw [IntKind.wrap_u64]; omega); exact step_run (v := (.int .u64 (al))) (by go_simp <;> first | omega | rfl | decide) rfl
        | 4 => intro _ ho hd; obtain rfl := (Option.some.inj ho).symm; have d3 : vs 3 = (.int .u64 (al)) := hd ⟨3, .data⟩ (by simp) rfl; clear hd ho; have h53 := G.h (j := 3) (d := 53) rfl (by decide) d3; refine step_open rfl ?_; clear G; go_simp; refine (low4 al _ (by omega) (by omega)).mono ?_; rintro e w2 ⟨rfl, hb2⟩; exact ⟨_, rfl, rfl, hb2⟩
        | 5 => intro _ ho hd; obtain rfl := (Option.some.inj ho).symm; have d0 : vs 0 = (.string (ByteArray.mk (S).toArray)) := hd ⟨0, .data⟩ (by simp) rfl; have d4 : vs 4 = (.string (ByteArray.mk (leB al.toNat 4).toArray)) := hd ⟨4, .data⟩ (by simp) rfl; clear hd ho; have h50 := G.h (j := 0) (d := 50) rfl (by decide) d0; have h54 := G.h (j := 4) (d := 54) rfl (by decide) d4; refine step_open rfl ?_; clear G; exact step_run (v := (.string (ByteArray.mk (S).toArray ++ ByteArray.mk (leB al.toNat 4).toArray))) (by go_simp <;> first | omega | rfl | decide) rfl
        | 6 => intro _ ho hd; obtain rfl := (Option.some.inj ho).symm; clear hd ho; refine step_open rfl ?_; clear G; exact step_run (v := (.pointer (some ⟨w.heap.size, 4, none⟩))) (by go_simp <;> first | omega | rfl | decide) rfl
        | 7 => intro _ ho hd; obtain rfl := (Option.some.inj ho).symm; have d6 : vs 6 = (.pointer (some ⟨w.heap.size, 4, none⟩)) := hd ⟨6, .data⟩ (by simp) rfl; clear hd ho; have h56 := G.h (j := 6) (d := 56) rfl (by decide) d6; refine step_open rfl ?_; clear G; exact step_run (v := (.int .u32 0)) (by go_simp <;> first | omega | rfl | decide) rfl
        | 8 => intro _ ho hd; obtain rfl := (Option.some.inj ho).symm; have d7 : vs 7 = (.int .u32 0) := hd ⟨7, .data⟩ (by simp) rfl; clear hd ho; have h57 := G.h (j := 7) (d := 57) rfl (by decide) d7; refine step_open rfl ?_; clear G; exact step_run (v := (.int .u64 (0))) (by go_simp <;> first | omega | rfl | decide) rfl
        | 9 => intro _ ho hd; obtain rfl := (Option.some.inj ho).symm; have d8 : vs 8 = (.int .u64 (0)) := hd ⟨8, .data⟩ (by simp) rfl; clear hd ho; have h58 := G.h (j := 8) (d := 58) rfl (by decide) d8; refine step_open rfl ?_; clear G; go_simp; refine (low4 0 _ (by omega) (by omega)).mono ?_; rintro e w2 ⟨rfl, hb2⟩; exact ⟨_, rfl, rfl, hb2⟩
        | 10 => intro _ ho hd; obtain rfl := (Option.some.inj ho).symm; have d5 : vs 5 = (.string (ByteArray.mk (S).toArray ++ ByteArray.mk (leB al.toNat 4).toArray)) := hd ⟨5, .data⟩ (by simp) rfl; have d9 : vs 9 = (.string (ByteArray.mk (leB 0 4).toArray)) := hd ⟨9, .data⟩ (by simp) rfl; clear hd ho; have h55 := G.h (j := 5) (d := 55) rfl (by decide) d5; have h59 := G.h (j := 9) (d := 59) rfl (by decide) d9; refine step_open rfl ?_; clear G; exact step_run (v := (.string (ByteArray.mk (S).toArray ++ ByteArray.mk (leB al.toNat 4).toArray ++ ByteArray.mk (leB 0 4).toArray))) (by go_simp <;> first | omega | rfl | decide) rfl
        | 11 => intro _ ho hd; obtain rfl := (Option.some.inj ho).symm; clear hd ho; refine step_open rfl ?_; clear G; exact step_run (v := (.pointer (some ⟨w.heap.size, 5, none⟩))) (by go_simp <;> first | omega | rfl | decide) rfl
        | 12 => intro _ ho hd; obtain rfl := (Option.some.inj ho).symm; have d11 : vs 11 = (.pointer (some ⟨w.heap.size, 5, none⟩)) := hd ⟨11, .data⟩ (by simp) rfl; clear hd ho; have h61 := G.h (j := 11) (d := 61) rfl (by decide) d11; refine step_open rfl ?_; clear G; exact step_run (v := (.slice ca code.length cc)) (by go_simp <;> first | omega | rfl | decide) rfl
        | 13 => intro _ ho hd; obtain rfl := (Option.some.inj ho).symm; have d12 : vs 12 = (.slice ca code.length cc) := hd ⟨12, .data⟩ (by simp) rfl; clear hd ho; have h62 := G.h (j := 12) (d := 62) rfl (by decide) d12; refine step_open rfl ?_; clear G; exact step_run (v := (.int .i64 ((code.length : Int)))) (by go_simp <;> first | omega | rfl | decide) rfl
        | 14 => intro _ ho hd; obtain rfl := (Option.some.inj ho).symm; have d13 : vs 13 = (.int .i64 ((code.length : Int))) := hd ⟨13, .data⟩ (by simp) rfl; clear hd ho; have h63 := G.h (j := 13) (d := 63) rfl (by decide) d13; refine step_open rfl ?_; clear G; have e8 : IntKind.u64.wrap ((code.length : Int)) = ((code.length : Int)) := (by rw [IntKind.wrap_u64]; omega); exact step_run (v := (.int .u64 ((code.length : Int)))) (by go_simp <;> first | omega | rfl | decide) rfl
        | 15 => intro _ ho hd; obtain rfl := (Option.some.inj ho).symm; have d14 : vs 14 = (.int .u64 ((code.length : Int))) := hd ⟨14, .data⟩ (by simp) rfl; clear hd ho; have h64 := G.h (j := 14) (d := 64) rfl (by decide) d14; refine step_open rfl ?_; clear G; go_simp; refine (low1 (code.length : Int) _ (by omega) (by omega)).mono ?_; rintro e w2 ⟨rfl, hb2⟩; exact ⟨_, rfl, rfl, hb2⟩
        | 16 => intro _ ho hd; obtain rfl := (Option.some.inj ho).symm; have d10 : vs 10 = (.string (ByteArray.mk (S).toArray ++ ByteArray.mk (leB al.toNat 4).toArray ++ ByteArray.mk (leB 0 4).toArray)) := hd ⟨10, .data⟩ (by simp) rfl; have d15 : vs 15 = (.string (ByteArray.mk (leB code.length 1).toArray)) := hd ⟨15, .data⟩ (by simp) rfl; clear hd ho; have h60 := G.h (j := 10) (d := 60) rfl (by decide) d10; have h65 := G.h (j := 15) (d := 65) rfl (by decide) d15; refine step_open rfl ?_; clear G; exact step_run (v := (.string (ByteArray.mk (S).toArray ++ ByteArray.mk (leB al.toNat 4).toArray ++ ByteArray.mk (leB 0 4).toArray ++ ByteArray.mk (leB code.length 1).toArray))) (by go_simp <;> first | omega | rfl | decide) rfl
        | n + 17 =>
          intro hi
          exfalso
          omega
      · intro vs w' A hA F hb hR
        have hv : vs 16 = .string (ByteArray.mk S.toArray ++ ByteArray.mk (leB al.toNat 4).toArray ++ ByteArray.mk (leB 0 4).toArray ++ ByteArray.mk (leB code.length 1).toArray) := hR 16 (by decide)
        subst hA
        clear F
        simp only [List.drop_succ_cons, List.drop_zero, wpTail, putAll, Act.put, List.setIfInBounds_toArray, List.set_cons_succ, List.set_cons_zero]
        rw [ba_cat, ba_cat, ba_cat] at hv
        obtain ⟨S3, hS3⟩ : ∃ S3, S3 = S ++ leB al.toNat 4 ++ leB 0 4 ++ leB code.length 1 := ⟨_, rfl⟩
        rw [← hS3] at hv
        have hS3l : S3.length ≤ 60 := by rw [hS3]; simp [leB_len]; omega
        have HS3 := Lib.hid hS3
        simp only [hv]
        have hK := keep hb hq
        have hbe := hbw.trans (hb.mono hbw.size)
        clear hb hR hv hS3 p2 hlz hq hbw
        go_simp
        go_wp2_with fail
        go_loopw [3, 5] (fun s i wr => ∃ (k : Nat), k ≤ code.length ∧ i = .int .i64 k ∧ s = .string ⟨(S3 ++ (code.take k).flatMap opBytes).toArray⟩ ∧ wr.heap[w.heap.size]? = some (.cells #[.string name, .int .i64 0, .slice aa after.length ac, .int .u32 al, .int .u32 0, .slice ca code.length cc] 81 (0, 0)) ∧ Below w.heap.size w wr) (fun _ i _ => code.length - (intOf i).toNat)
        case atStart => exact ⟨0, Nat.zero_le _, rfl, by simp, hK, hbe⟩
        case round =>
        obtain ⟨k, hk, rfl, rfl, hq, hbw⟩ := hrel
        obtain ⟨wk, rfl⟩ : ∃ wk, wk = wr := ⟨wr, rfl⟩
        have p5 := cell_at hq 5
        simp at p5
        have hlz := lt_some hq
        have hfl := flat_len_le opBytes 12 (code.take k) (fun x hx => by rw [opBytes_len]; omega)
        rw [List.length_take] at hfl
        by_cases hlt : k < code.length
        · have hx := List.getElem?_eq_getElem hlt
          generalize code[k] = x at *
          have hsn := Lib.hid (flat_snoc opBytes hx)
          have hxo := all_mem HC.out hx
          obtain ⟨⟨x0, x1⟩, ⟨x2, x3⟩, ⟨x4, x5⟩, ⟨x6, x7⟩, x8, x9⟩ := opOk_bd hxo
          obtain ⟨q, off, rfl, hqb, e0, e1, e2, e3, e4⟩ := HCR.out k x hx
          have d := fun o => hbw.cell (p := ⟨q, o, none⟩) hqb
          have c0 := (d _).trans e0
          have c1 := (d _).trans e1
          have c2 := (d _).trans e2
          have c3 := (d _).trans e3
          have c4 := (d _).trans e4
          obtain ⟨SS, hSS⟩ : ∃ S, S = S3 ++ (code.take k).flatMap opBytes := ⟨_, rfl⟩
          have hSSl : SS.length ≤ 900 := by rw [hSS, List.length_append]; omega
          have HSS := Lib.hid hSS
          rw [← hSS]
          clear d e0 e1 e2 e3 e4 hSS hfl hSl
          go_upto_region 11 with (fail)
          have hBW := hbw.alloc hbw.size (.cells #[.int .i64 x.code, .int .i64 x.a, .int .i64 x.b, .int .i64 x.c, .int .i64 x.k] 85)
          have hqW := keepA (.cells #[.int .i64 x.code, .int .i64 x.a, .int .i64 x.b, .int .i64 x.c, .int .i64 x.k] 85) hq
          have hqy := heap_alloc_new wk (.cells #[.int .i64 x.code, .int .i64 x.a, .int .i64 x.b, .int .i64 x.c, .int .i64 x.k] 85)
          generalize hW : wk.alloc (.cells #[.int .i64 x.code, .int .i64 x.a, .int .i64 x.b, .int .i64 x.c, .int .i64 x.k] 85) = W at *
          obtain ⟨y, hy⟩ : ∃ y, y = wk.heap.size := ⟨_, rfl⟩
          rw [← hy] at hqy ⊢
          have HW := Lib.hid (And.intro hqW hBW)
          clear hW hBW hqW hq hbw hy c0 c1 c2 c3 c4 p5 hlz
          refine wp_region_tail 26 (by kernel_rfl) (by kernel_rfl) (by kernel_rfl) (by decide) (by kernel_rfl) (byList (e22d_list y SS x)) (lasts_list (e22d_list_lasts y SS x)) ?_ ?_
          · intro vs w' iq o A hi F hb ho hd
            have m3 : A.tmps[3]?.getD undef = (.string (ByteArray.mk (SS).toArray)) := F.m (by kernel_rfl) rfl
            have m6 : A.tmps[6]?.getD undef = (.pointer (some ⟨y, 0, none⟩)) := F.m (by kernel_rfl) rfl
            have G := F.light (n := 106) (by kernel_rfl)
            clear F
            have hK := keep hb hqy
            have s0 := cell_at hK 0
            have s1 := cell_at hK 1
            have s2 := cell_at hK 2
            have s3 := cell_at hK 3
            have s4 := cell_at hK 4
            simp at s0 s1 s2 s3 s4
            clear hb hK
            revert hi ho hd
            match iq with
            | 0 => intro _ ho hd; obtain rfl := (Option.some.inj ho).symm; clear hd ho; refine step_open rfl ?_; clear G; exact step_run (v := (.string (ByteArray.mk (SS).toArray))) (by go_simp <;> first | omega | rfl | decide) rfl
            | 1 => intro _ ho hd; obtain rfl := (Option.some.inj ho).symm; clear hd ho; refine step_open rfl ?_; clear G; exact step_run (v := (.pointer (some ⟨y, 0, none⟩))) (by go_simp <;> first | omega | rfl | decide) rfl
            | 2 => intro _ ho hd; obtain rfl := (Option.some.inj ho).symm; have d1 : vs 1 = (.pointer (some ⟨y, 0, none⟩)) := hd ⟨1, .data⟩ (by simp) rfl; clear hd ho; have h80 := G.h (j := 1) (d := 80) rfl (by decide) d1; refine step_open rfl ?_; clear G; exact step_run (v := (.int .i64 (x.code))) (by go_simp <;> first | omega | rfl | decide) rfl
            | 3 => intro _ ho hd; obtain rfl := (Option.some.inj ho).symm; have d2 : vs 2 = (.int .i64 (x.code)) := hd ⟨2, .data⟩ (by simp) rfl; clear hd ho; have h81 := G.h (j := 2) (d := 81) rfl (by decide) d2; refine step_open rfl ?_; clear G; have e8 : IntKind.u64.wrap (x.code) = (x.code) := (by rw [IntKind.wrap_u64]; omega); exact step_run (v := (.int .u64 (x.code))) (by go_simp <;> first | omega | rfl | decide) rfl
            | 4 => intro _ ho hd; obtain rfl := (Option.some.inj ho).symm; have d3 : vs 3 = (.int .u64 (x.code)) := hd ⟨3, .data⟩ (by simp) rfl; clear hd ho; have h82 := G.h (j := 3) (d := 82) rfl (by decide) d3; refine step_open rfl ?_; clear G; go_simp; refine (low1 x.code _ (by omega) (by omega)).mono ?_; rintro e w2 ⟨rfl, hb2⟩; exact ⟨_, rfl, rfl, hb2⟩
            | 5 => intro _ ho hd; obtain rfl := (Option.some.inj ho).symm; have d0 : vs 0 = (.string (ByteArray.mk (SS).toArray)) := hd ⟨0, .data⟩ (by simp) rfl; have d4 : vs 4 = (.string (ByteArray.mk (leB x.code.toNat 1).toArray)) := hd ⟨4, .data⟩ (by simp) rfl; clear hd ho; have h79 := G.h (j := 0) (d := 79) rfl (by decide) d0; have h83 := G.h (j := 4) (d := 83) rfl (by decide) d4; refine step_open rfl ?_; clear G; exact step_run (v := (.string (ByteArray.mk (SS).toArray ++ ByteArray.mk (leB x.code.toNat 1).toArray))) (by go_simp <;> first | omega | rfl | decide) rfl
            | 6 => intro _ ho hd; obtain rfl := (Option.some.inj ho).symm; clear hd ho; refine step_open rfl ?_; clear G; exact step_run (v := (.pointer (some ⟨y, 1, none⟩))) (by go_simp <;> first | omega | rfl | decide) rfl
            | 7 => intro _ ho hd; obtain rfl := (Option.some.inj ho).symm; have d6 : vs 6 = (.pointer (some ⟨y, 1, none⟩)) := hd ⟨6, .data⟩ (by simp) rfl; clear hd ho; have h85 := G.h (j := 6) (d := 85) rfl (by decide) d6; refine step_open rfl ?_; clear G; exact step_run (v := (.int .i64 (x.a))) (by go_simp <;> first | omega | rfl | decide) rfl
            | 8 => intro _ ho hd; obtain rfl := (Option.some.inj ho).symm; have d7 : vs 7 = (.int .i64 (x.a)) := hd ⟨7, .data⟩ (by simp) rfl; clear hd ho; have h86 := G.h (j := 7) (d := 86) rfl (by decide) d7; refine step_open rfl ?_; clear G; have e8 : IntKind.u64.wrap (x.a) = (x.a) := (by rw [IntKind.wrap_u64]; omega); exact step_run (v := (.int .u64 (x.a))) (by go_simp <;> first | omega | rfl | decide) rfl
            | 9 => intro _ ho hd; obtain rfl := (Option.some.inj ho).symm; have d8 : vs 8 = (.int .u64 (x.a)) := hd ⟨8, .data⟩ (by simp) rfl; clear hd ho; have h87 := G.h (j := 8) (d := 87) rfl (by decide) d8; refine step_open rfl ?_; clear G; go_simp; refine (low1 x.a _ (by omega) (by omega)).mono ?_; rintro e w2 ⟨rfl, hb2⟩; exact ⟨_, rfl, rfl, hb2⟩
            | 10 => intro _ ho hd; obtain rfl := (Option.some.inj ho).symm; have d5 : vs 5 = (.string (ByteArray.mk (SS).toArray ++ ByteArray.mk (leB x.code.toNat 1).toArray)) := hd ⟨5, .data⟩ (by simp) rfl; have d9 : vs 9 = (.string (ByteArray.mk (leB x.a.toNat 1).toArray)) := hd ⟨9, .data⟩ (by simp) rfl; clear hd ho; have h84 := G.h (j := 5) (d := 84) rfl (by decide) d5; have h88 := G.h (j := 9) (d := 88) rfl (by decide) d9; refine step_open rfl ?_; clear G; exact step_run (v := (.string (ByteArray.mk (SS).toArray ++ ByteArray.mk (leB x.code.toNat 1).toArray ++ ByteArray.mk (leB x.a.toNat 1).toArray))) (by go_simp <;> first | omega | rfl | decide) rfl
            | 11 => intro _ ho hd; obtain rfl := (Option.some.inj ho).symm; clear hd ho; refine step_open rfl ?_; clear G; exact step_run (v := (.pointer (some ⟨y, 2, none⟩))) (by go_simp <;> first | omega | rfl | decide) rfl
            | 12 => intro _ ho hd; obtain rfl := (Option.some.inj ho).symm; have d11 : vs 11 = (.pointer (some ⟨y, 2, none⟩)) := hd ⟨11, .data⟩ (by simp) rfl; clear hd ho; have h90 := G.h (j := 11) (d := 90) rfl (by decide) d11; refine step_open rfl ?_; clear G; exact step_run (v := (.int .i64 (x.b))) (by go_simp <;> first | omega | rfl | decide) rfl
            | 13 => intro _ ho hd; obtain rfl := (Option.some.inj ho).symm; have d12 : vs 12 = (.int .i64 (x.b)) := hd ⟨12, .data⟩ (by simp) rfl; clear hd ho; have h91 := G.h (j := 12) (d := 91) rfl (by decide) d12; refine step_open rfl ?_; clear G; have e8 : IntKind.u64.wrap (x.b) = (x.b) := (by rw [IntKind.wrap_u64]; omega); exact step_run (v := (.int .u64 (x.b))) (by go_simp <;> first | omega | rfl | decide) rfl
            | 14 => intro _ ho hd; obtain rfl := (Option.some.inj ho).symm; have d13 : vs 13 = (.int .u64 (x.b)) := hd ⟨13, .data⟩ (by simp) rfl; clear hd ho; have h92 := G.h (j := 13) (d := 92) rfl (by decide) d13; refine step_open rfl ?_; clear G; go_simp; refine (low1 x.b _ (by omega) (by omega)).mono ?_; rintro e w2 ⟨rfl, hb2⟩; exact ⟨_, rfl, rfl, hb2⟩
            | 15 => intro _ ho hd; obtain rfl := (Option.some.inj ho).symm; have d10 : vs 10 = (.string (ByteArray.mk (SS).toArray ++ ByteArray.mk (leB x.code.toNat 1).toArray ++ ByteArray.mk (leB x.a.toNat 1).toArray)) := hd ⟨10, .data⟩ (by simp) rfl; have d14 : vs 14 = (.string (ByteArray.mk (leB x.b.toNat 1).toArray)) := hd ⟨14, .data⟩ (by simp) rfl; clear hd ho; have h89 := G.h (j := 10) (d := 89) rfl (by decide) d10; have h93 := G.h (j := 14) (d := 93) rfl (by decide) d14; refine step_open rfl ?_; clear G; exact step_run (v := (.string (ByteArray.mk (SS).toArray ++ ByteArray.mk (leB x.code.toNat 1).toArray ++ ByteArray.mk (leB x.a.toNat 1).toArray ++ ByteArray.mk (leB x.b.toNat 1).toArray))) (by go_simp <;> first | omega | rfl | decide) rfl
            | 16 => intro _ ho hd; obtain rfl := (Option.some.inj ho).symm; clear hd ho; refine step_open rfl ?_; clear G; exact step_run (v := (.pointer (some ⟨y, 3, none⟩))) (by go_simp <;> first | omega | rfl | decide) rfl
            | 17 => intro _ ho hd; obtain rfl := (Option.some.inj ho).symm; have d16 : vs 16 = (.pointer (some ⟨y, 3, none⟩)) := hd ⟨16, .data⟩ (by simp) rfl; clear hd ho; have h95 := G.h (j := 16) (d := 95) rfl (by decide) d16; refine step_open rfl ?_; clear G; exact step_run (v := (.int .i64 (x.c))) (by go_simp <;> first | omega | rfl | decide) rfl
            | 18 => intro _ ho hd; obtain rfl := (Option.some.inj ho).symm; have d17 : vs 17 = (.int .i64 (x.c)) := hd ⟨17, .data⟩ (by simp) rfl; clear hd ho; have h96 := G.h (j := 17) (d := 96) rfl (by decide) d17; refine step_open rfl ?_; clear G; have e8 : IntKind.u64.wrap (x.c) = (x.c) := (by rw [IntKind.wrap_u64]; omega); exact step_run (v := (.int .u64 (x.c))) (by go_simp <;> first | omega | rfl | decide) rfl
            | 19 => intro _ ho hd; obtain rfl := (Option.some.inj ho).symm; have d18 : vs 18 = (.int .u64 (x.c)) := hd ⟨18, .data⟩ (by simp) rfl; clear hd ho; have h97 := G.h (j := 18) (d := 97) rfl (by decide) d18; refine step_open rfl ?_; clear G; go_simp; refine (low1 x.c _ (by omega) (by omega)).mono ?_; rintro e w2 ⟨rfl, hb2⟩; exact ⟨_, rfl, rfl, hb2⟩
            | 20 => intro _ ho hd; obtain rfl := (Option.some.inj ho).symm; have d15 : vs 15 = (.string (ByteArray.mk (SS).toArray ++ ByteArray.mk (leB x.code.toNat 1).toArray ++ ByteArray.mk (leB x.a.toNat 1).toArray ++ ByteArray.mk (leB x.b.toNat 1).toArray)) := hd ⟨15, .data⟩ (by simp) rfl; have d19 : vs 19 = (.string (ByteArray.mk (leB x.c.toNat 1).toArray)) := hd ⟨19, .data⟩ (by simp) rfl; clear hd ho; have h94 := G.h (j := 15) (d := 94) rfl (by decide) d15; have h98 := G.h (j := 19) (d := 98) rfl (by decide) d19; refine step_open rfl ?_; clear G; exact step_run (v := (.string (ByteArray.mk (SS).toArray ++ ByteArray.mk (leB x.code.toNat 1).toArray ++ ByteArray.mk (leB x.a.toNat 1).toArray ++ ByteArray.mk (leB x.b.toNat 1).toArray ++ ByteArray.mk (leB x.c.toNat 1).toArray))) (by go_simp <;> first | omega | rfl | decide) rfl
            | 21 => intro _ ho hd; obtain rfl := (Option.some.inj ho).symm; clear hd ho; refine step_open rfl ?_; clear G; exact step_run (v := (.pointer (some ⟨y, 4, none⟩))) (by go_simp <;> first | omega | rfl | decide) rfl
            | 22 => intro _ ho hd; obtain rfl := (Option.some.inj ho).symm; have d21 : vs 21 = (.pointer (some ⟨y, 4, none⟩)) := hd ⟨21, .data⟩ (by simp) rfl; clear hd ho; have h100 := G.h (j := 21) (d := 100) rfl (by decide) d21; refine step_open rfl ?_; clear G; exact step_run (v := (.int .i64 (x.k))) (by go_simp <;> first | omega | rfl | decide) rfl
            | 23 => intro _ ho hd; obtain rfl := (Option.some.inj ho).symm; have d22 : vs 22 = (.int .i64 (x.k)) := hd ⟨22, .data⟩ (by simp) rfl; clear hd ho; have h101 := G.h (j := 22) (d := 101) rfl (by decide) d22; refine step_open rfl ?_; clear G; have e8 : IntKind.u64.wrap (x.k) = (x.k) := (by rw [IntKind.wrap_u64]; omega); exact step_run (v := (.int .u64 (x.k))) (by go_simp <;> first | omega | rfl | decide) rfl
            | 24 => intro _ ho hd; obtain rfl := (Option.some.inj ho).symm; have d23 : vs 23 = (.int .u64 (x.k)) := hd ⟨23, .data⟩ (by simp) rfl; clear hd ho; have h102 := G.h (j := 23) (d := 102) rfl (by decide) d23; refine step_open rfl ?_; clear G; go_simp; refine (low8 x.k _ (by omega) (by omega)).mono ?_; rintro e w2 ⟨rfl, hb2⟩; exact ⟨_, rfl, rfl, hb2⟩
            | 25 => intro _ ho hd; obtain rfl := (Option.some.inj ho).symm; have d20 : vs 20 = (.string (ByteArray.mk (SS).toArray ++ ByteArray.mk (leB x.code.toNat 1).toArray ++ ByteArray.mk (leB x.a.toNat 1).toArray ++ ByteArray.mk (leB x.b.toNat 1).toArray ++ ByteArray.mk (leB x.c.toNat 1).toArray)) := hd ⟨20, .data⟩ (by simp) rfl; have d24 : vs 24 = (.string (ByteArray.mk (leB x.k.toNat 8).toArray)) := hd ⟨24, .data⟩ (by simp) rfl; clear hd ho; have h99 := G.h (j := 20) (d := 99) rfl (by decide) d20; have h103 := G.h (j := 24) (d := 103) rfl (by decide) d24; refine step_open rfl ?_; clear G; exact step_run (v := (.string (ByteArray.mk (SS).toArray ++ ByteArray.mk (leB x.code.toNat 1).toArray ++ ByteArray.mk (leB x.a.toNat 1).toArray ++ ByteArray.mk (leB x.b.toNat 1).toArray ++ ByteArray.mk (leB x.c.toNat 1).toArray ++ ByteArray.mk (leB x.k.toNat 8).toArray))) (by go_simp <;> first | omega | rfl | decide) rfl
            | n + 26 =>
              intro hi
              exfalso
              omega
          · intro vs w' A hA F hb hR
            have hv : vs 25 = .string (ByteArray.mk SS.toArray ++ ByteArray.mk (leB x.code.toNat 1).toArray ++ ByteArray.mk (leB x.a.toNat 1).toArray ++ ByteArray.mk (leB x.b.toNat 1).toArray ++ ByteArray.mk (leB x.c.toNat 1).toArray ++ ByteArray.mk (leB x.k.toNat 8).toArray) := hR 25 (by decide)
            subst hA
            clear F
            simp only [List.drop_succ_cons, List.drop_zero, wpTail, putAll, Act.put, List.setIfInBounds_toArray, List.set_cons_succ, List.set_cons_zero]
            rw [ba_cat, ba_cat, ba_cat, ba_cat, ba_cat] at hv
            simp only [hv]
            have hK2 := keep hb HW.out.1
            have hbe2 := HW.out.2.trans (hb.mono HW.out.2.size)
            clear hb hR hv HW hqy
            go_simp
            go_wp2
            go_roundw
            case rel =>
              refine ⟨k + 1, by omega, by go_num, ?_, hK2, hbe2⟩
              rw [hsn.out, ← List.append_assoc S3, ← HSS.out]
              unfold opBytes
              simp
            case measure => simp [intOf]; omega
        · obtain rfl : k = code.length := by omega
          rw [List.take_length]
          have h1 := HS1.out
          have h2 := HS.out
          have h3 := HS3.out
          clear hfl
          go_wp2
          go_ret
          refine ⟨?_, hbw⟩
          rw [h3, h2, h1]
          unfold sysBytes nameB
          simp
end Go.Proofs.YtgnilkjdpfbjgaaGreat
