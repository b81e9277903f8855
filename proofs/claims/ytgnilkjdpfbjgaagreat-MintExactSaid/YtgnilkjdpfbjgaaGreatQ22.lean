/- The reference's rules: 12 Check. -/
import Derived.Test.YtgnilkjdpfbjgaaGreatQ21
import Derived.Test.YtgnilkjdpfbjgaaGreatQ8
import Derived.Test.YtgnilkjdpfbjgaaGreatQ3
import Derived.Deep.QuietTactic
namespace Go.Proofs.YtgnilkjdpfbjgaaGreat
open Go.RowKit
set_option linter.unusedVariables false
def r12a_list (z y q off n c k : Nat) (nw old pv : Int) : List (Value → World → Prop) :=
  [IsV (.pointer (some ⟨z, 0, none⟩)),
   IsV (.int .i64 nw),
   IsV (.bool false),
   IsV (.bool false),
   IsV (.pointer (some ⟨z, 0, none⟩)),
   IsV (.int .i64 nw),
   IsV (.bool false),
   IsV (.bool false),
   IsV (.bool false),
   IsV (.pointer (some ⟨z, 1, none⟩)),
   IsV (.int .i64 old),
   IsV (.bool false),
   IsV (.bool false),
   IsV (.bool false),
   IsV (.pointer (some ⟨z, 1, none⟩)),
   IsV (.int .i64 old),
   IsV (.bool false),
   IsV (.bool false),
   IsV (.bool false),
   IsV (.int .i64 (k : Int)),
   IsV (.bool false),
   IsV (.bool false),
   IsV undef,
   IsV undef,
   IsV undef,
   IsV undef,
   IsV undef,
   IsV undef,
   IsV undef,
   IsV undef,
   IsV undef,
   IsV undef,
   IsV (.bool false),
   IsV (.bool false)]
theorem r12a_list_lasts (z y q off n c k : Nat) (nw old pv : Int) : ∀ p ∈ r12a_list z y q off n c k  nw old pv , Lasts p := by
  simp only [r12a_list, List.mem_cons, List.not_mem_nil, or_false]
  rintro p hp
  repeat (rcases hp with rfl | hp; exact lasts_v _)
def r12b_list (z y q off n c k : Nat) (nw old pv : Int) : List (Value → World → Prop) :=
  [IsV (.pointer (some ⟨z, 0, none⟩)),
   IsV (.int .i64 nw),
   IsV (.bool false),
   IsV (.bool false),
   IsV (.pointer (some ⟨z, 0, none⟩)),
   IsV (.int .i64 nw),
   IsV (.bool false),
   IsV (.bool false),
   IsV (.bool false),
   IsV (.pointer (some ⟨z, 1, none⟩)),
   IsV (.int .i64 old),
   IsV (.bool false),
   IsV (.bool false),
   IsV (.bool false),
   IsV (.pointer (some ⟨z, 1, none⟩)),
   IsV (.int .i64 old),
   IsV (.bool false),
   IsV (.bool false),
   IsV (.bool false),
   IsV (.int .i64 (k : Int)),
   IsV (.bool true),
   IsV (.bool true),
   IsV (.pointer (some ⟨y, 2, none⟩)),
   IsV (.slice (some ⟨q, off, none⟩) n c),
   IsV (.int .i64 (k : Int)),
   IsV (.int .i64 ((k - 1 : Nat) : Int)),
   IsV (.pointer (some ⟨q, off + (k - 1) * 3, none⟩)),
   IsV (.pointer (some ⟨q, off + (k - 1) * 3, none⟩)),
   IsV (.int .i64 pv),
   IsV (.pointer (some ⟨z, 0, none⟩)),
   IsV (.int .i64 nw),
   IsV (.bool false),
   IsV (.bool false),
   IsV (.bool false)]
theorem r12b_list_lasts (z y q off n c k : Nat) (nw old pv : Int) : ∀ p ∈ r12b_list z y q off n c k  nw old pv , Lasts p := by
  simp only [r12b_list, List.mem_cons, List.not_mem_nil, or_false]
  rintro p hp
  repeat (rcases hp with rfl | hp; exact lasts_v _)
set_option maxRecDepth 100000 in
set_option maxHeartbeats 2000000 in
theorem check12_any (a b : Int) (rs : List RuT) (w : World) (T : Nat → TypeId → Prop) (u : Value) (hu : At w T (rusD rs) u) (h : rusOk 0 rs = true) (hrs : rs.length ≤ 24) (a0 : 1 ≤ a) (a1 : a ≤ 1073741824) (b0 : 1 ≤ b) (b1 : b ≤ 1073741824) :
    Calls Tryz.prog 54 #[.agg #[.int .i64 a, .int .i64 b, u]] w fun e w' => e = .returned (.int .i64 0) ∧ Below w.heap.size w w' := by
  obtain ⟨ra, c, rfl, hc0, hc1, hrow⟩ := row_at ruD 3 (fun _ => rfl) (by decide) hu
  have HR := Lib.hid hrow
  have HO := Lib.hid h
  have hb0 := (Below.refl _ w).alloc (Nat.le_refl _) (.cells #[.int .i64 a, .int .i64 b, .slice ra rs.length c] 101)
  have H0 := Lib.hid (And.intro (heap_alloc_new w (.cells #[.int .i64 a, .int .i64 b, .slice ra rs.length c] 101)) hb0)
  clear hu hrow h hb0
  go_enter Tryz.func54, Tryz.ntmps54
  go_wp2_with fail
  go_loopw [3] (fun i wr => ∃ (k : Nat) (l : Int), k ≤ rs.length ∧ i = .int .i64 k ∧ 0 ≤ l ∧ rusOk l (rs.drop k) = true ∧ (k = 0 → l = 0) ∧ (∀ k', k = k' + 1 → ∃ r, rs[k']? = some r ∧ l = r.nw) ∧ wr.heap[w.heap.size]? = some (.cells #[.int .i64 a, .int .i64 b, .slice ra rs.length c] 101 (0, 0)) ∧ Below w.heap.size w wr) (fun i _ => rs.length - (intOf i).toNat)
  case atStart => exact ⟨0, 0, Nat.zero_le _, rfl, Int.le_refl 0, HO.out, fun _ => rfl, fun k' h => by omega, H0.out.1, H0.out.2⟩
  case round =>
    obtain ⟨k, l, hk, rfl, hl9, hok, hl0, hlk, hq, hbw⟩ := hrel
    obtain ⟨wk, rfl⟩ : ∃ wk, wk = wr := ⟨wr, rfl⟩
    have p2 := cell_at hq 2
    simp at p2
    have hlq := lt_some hq
    by_cases hlt : k < rs.length
    · have hx := List.getElem?_eq_getElem hlt
      generalize rs[k] = r at *
      rw [drop_get hx] at hok
      unfold rusOk at hok
      simp only [Bool.and_eq_true, decide_eq_true_eq, Bool.or_eq_true, List.isEmpty_iff] at hok
      obtain ⟨⟨⟨⟨⟨⟨⟨g0, g1⟩, g2⟩, g3⟩, g4⟩, g5⟩, g6⟩, g7⟩ := hok
      obtain ⟨q, off, rfl, hqb, hcell⟩ := HR.out k r hx
      obtain ⟨v0, c0, e0⟩ := hcell 0 _ rfl
      obtain rfl := at_v e0
      obtain ⟨v1, c1, e1⟩ := hcell 1 _ rfl
      obtain rfl := at_v e1
      obtain ⟨v2, c2, e2⟩ := hcell 2 _ rfl
      have d := fun o => hbw.cell (p := ⟨q, o, none⟩) hqb
      have d0 : wk.cell? ⟨q, off + k * 3, none⟩ = some (.int .i64 r.nw) := (d _).trans c0
      have d1 : wk.cell? ⟨q, off + k * 3 + 1, none⟩ = some (.int .i64 r.old) := (d _).trans c1
      have d2 : wk.cell? ⟨q, off + k * 3 + 2, none⟩ = some v2 := (d _).trans c2
      obtain ⟨ba, bc, rfl, _, _, hrow⟩ := row1_at codeD e2
      have HROW := Lib.hid hrow
      have HG7 := Lib.hid g7
      have HG6 := Lib.hid g6
      have hz : r.old = 0 → r.ex.length = 0 := fun h0 => by
        rcases g4 with g | g
        · exact absurd h0 g
        · rw [g]; rfl
      have e1 : decide (r.nw < 1) = false := by simp; omega
      have e2 : decide (24 < r.nw) = false := by simp; omega
      have e3 : decide (r.old < 0) = false := by simp; omega
      have e4 : decide (24 < r.old) = false := by simp; omega
      have hkl : k ≤ 24 := by omega
      clear hcell c0 c1 c2 e0 g4 g7 g6 d hrow
      rcases Nat.eq_zero_or_pos k with rfl | hk0
      · rw [Nat.zero_mul, Nat.add_zero] at d0 d1 d2
        go_upto_region 7 with (fail)
        have hW0 := heap_alloc_new wk (.cells #[.int .i64 r.nw, .int .i64 r.old, .slice ba r.ex.length bc] 147)
        have hBW := hbw.alloc hbw.size (.cells #[.int .i64 r.nw, .int .i64 r.old, .slice ba r.ex.length bc] 147)
        have hqW := keepA (.cells #[.int .i64 r.nw, .int .i64 r.old, .slice ba r.ex.length bc] 147) hq
        have dW := fun o => ((Below.refl _ wk).alloc (Nat.le_refl _) (.cells #[.int .i64 r.nw, .int .i64 r.old, .slice ba r.ex.length bc] 147)).cell (p := ⟨q, o, none⟩) (by have := hbw.size; show q < _; omega)
        generalize hW : wk.alloc (.cells #[.int .i64 r.nw, .int .i64 r.old, .slice ba r.ex.length bc] 147) = W at *
        have HW := Lib.hid (And.intro hW0 (And.intro hqW hBW))
        clear hW hW0 hBW hqW dW
        refine wp_region_frame (by kernel_rfl) (by kernel_rfl) (by kernel_rfl) (byList (r12a_list wk.heap.size w.heap.size q off rs.length c 0 r.nw r.old 0)) (lasts_list (r12a_list_lasts wk.heap.size w.heap.size q off rs.length c 0 r.nw r.old 0)) ?_ ?_
        · intro vs w' iq o A F hb ho hd
          have m1 : A.tmps[1]?.getD undef = (.pointer (some ⟨w.heap.size, 0, none⟩)) := F.m (by kernel_rfl) rfl
          have m4 : A.tmps[4]?.getD undef = (.pointer (some ⟨wk.heap.size, 0, none⟩)) := F.m (by kernel_rfl) rfl
          have m3 : A.tmps[3]?.getD undef = (.int .i64 (0 : Int)) := F.m (by kernel_rfl) rfl
          have G := F.light (n := 104) (by kernel_rfl)
          clear F
          have hK0 := keep hb HW.out.1
          have hK1 := keep hb HW.out.2.1
          have s0 := cell_at hK0 0
          have s1 := cell_at hK0 1
          have s2 := cell_at hK1 2
          simp at s0 s1 s2
          clear hb hK0 hK1
          revert ho hd
          match iq with
          | 0 => intro ho hd; obtain rfl := (Option.some.inj ho).symm; clear hd ho; refine step_open rfl ?_; clear G; exact step_run (v := (.pointer (some ⟨wk.heap.size, 0, none⟩))) (by go_simp) rfl
          | 1 => intro ho hd; obtain rfl := (Option.some.inj ho).symm; have d0 : vs 0 = (.pointer (some ⟨wk.heap.size, 0, none⟩)) := hd ⟨0, .data⟩ (by simp) rfl; clear hd ho; have h38 := G.h (j := 0) (d := 38) rfl (by decide) d0; refine step_open rfl ?_; clear G; exact step_run (v := (.int .i64 r.nw)) (by go_simp) rfl
          | 2 => intro ho hd; obtain rfl := (Option.some.inj ho).symm; have d1 : vs 1 = (.int .i64 r.nw) := hd ⟨1, .data⟩ (by simp) rfl; clear hd ho; have h39 := G.h (j := 1) (d := 39) rfl (by decide) d1; refine step_open rfl ?_; clear G; exact step_run (v := (.bool false)) (by go_simp) rfl
          | 3 => intro ho hd; obtain rfl := (Option.some.inj ho).symm; have d2 : vs 2 = (.bool false) := hd ⟨2, .data⟩ (by simp) rfl; clear hd ho; have h40 := G.h (j := 2) (d := 40) rfl (by decide) d2; refine step_open rfl ?_; clear G; exact step_run (v := (.bool false)) (by go_simp) rfl
          | 4 => intro ho hd; obtain rfl := (Option.some.inj ho).symm; have d3 : vs 3 = (.bool false) := hd ⟨3, .guard⟩ (by simp) rfl; clear hd ho; refine step_yes G rfl rfl (by decide) d3 ?_; clear G; exact step_run (v := (.pointer (some ⟨wk.heap.size, 0, none⟩))) (by go_simp) rfl
          | 5 => intro ho hd; obtain rfl := (Option.some.inj ho).symm; have d4 : vs 4 = (.pointer (some ⟨wk.heap.size, 0, none⟩)) := hd ⟨4, .data⟩ (by simp) rfl; have d3 : vs 3 = (.bool false) := hd ⟨3, .guard⟩ (by simp) rfl; clear hd ho; have h42 := G.h (j := 4) (d := 42) rfl (by decide) d4; refine step_yes G rfl rfl (by decide) d3 ?_; clear G; exact step_run (v := (.int .i64 r.nw)) (by go_simp) rfl
          | 6 => intro ho hd; obtain rfl := (Option.some.inj ho).symm; have d5 : vs 5 = (.int .i64 r.nw) := hd ⟨5, .data⟩ (by simp) rfl; have d3 : vs 3 = (.bool false) := hd ⟨3, .guard⟩ (by simp) rfl; clear hd ho; have h43 := G.h (j := 5) (d := 43) rfl (by decide) d5; refine step_yes G rfl rfl (by decide) d3 ?_; clear G; exact step_run (v := (.bool false)) (by go_simp) rfl
          | 7 => intro ho hd; obtain rfl := (Option.some.inj ho).symm; have d3 : vs 3 = (.bool false) := hd ⟨3, .data⟩ (by simp) rfl; have d6 : vs 6 = (.bool false) := hd ⟨6, .data⟩ (by simp) rfl; clear hd ho; have h41 := G.h (j := 3) (d := 41) rfl (by decide) d3; have h44 := G.h (j := 6) (d := 44) rfl (by decide) d6; refine step_open rfl ?_; clear G; exact step_run (v := (.bool false)) (by go_simp) rfl
          | 8 => intro ho hd; obtain rfl := (Option.some.inj ho).symm; have d7 : vs 7 = (.bool false) := hd ⟨7, .data⟩ (by simp) rfl; clear hd ho; have h45 := G.h (j := 7) (d := 45) rfl (by decide) d7; refine step_open rfl ?_; clear G; exact step_run (v := (.bool false)) (by go_simp) rfl
          | 9 => intro ho hd; obtain rfl := (Option.some.inj ho).symm; have d8 : vs 8 = (.bool false) := hd ⟨8, .guard⟩ (by simp) rfl; clear hd ho; refine step_yes G rfl rfl (by decide) d8 ?_; clear G; exact step_run (v := (.pointer (some ⟨wk.heap.size, 1, none⟩))) (by go_simp) rfl
          | 10 => intro ho hd; obtain rfl := (Option.some.inj ho).symm; have d9 : vs 9 = (.pointer (some ⟨wk.heap.size, 1, none⟩)) := hd ⟨9, .data⟩ (by simp) rfl; have d8 : vs 8 = (.bool false) := hd ⟨8, .guard⟩ (by simp) rfl; clear hd ho; have h47 := G.h (j := 9) (d := 47) rfl (by decide) d9; refine step_yes G rfl rfl (by decide) d8 ?_; clear G; exact step_run (v := (.int .i64 r.old)) (by go_simp) rfl
          | 11 => intro ho hd; obtain rfl := (Option.some.inj ho).symm; have d10 : vs 10 = (.int .i64 r.old) := hd ⟨10, .data⟩ (by simp) rfl; have d8 : vs 8 = (.bool false) := hd ⟨8, .guard⟩ (by simp) rfl; clear hd ho; have h48 := G.h (j := 10) (d := 48) rfl (by decide) d10; refine step_yes G rfl rfl (by decide) d8 ?_; clear G; exact step_run (v := (.bool false)) (by go_simp) rfl
          | 12 => intro ho hd; obtain rfl := (Option.some.inj ho).symm; have d8 : vs 8 = (.bool false) := hd ⟨8, .data⟩ (by simp) rfl; have d11 : vs 11 = (.bool false) := hd ⟨11, .data⟩ (by simp) rfl; clear hd ho; have h46 := G.h (j := 8) (d := 46) rfl (by decide) d8; have h49 := G.h (j := 11) (d := 49) rfl (by decide) d11; refine step_open rfl ?_; clear G; exact step_run (v := (.bool false)) (by go_simp) rfl
          | 13 => intro ho hd; obtain rfl := (Option.some.inj ho).symm; have d12 : vs 12 = (.bool false) := hd ⟨12, .data⟩ (by simp) rfl; clear hd ho; have h50 := G.h (j := 12) (d := 50) rfl (by decide) d12; refine step_open rfl ?_; clear G; exact step_run (v := (.bool false)) (by go_simp) rfl
          | 14 => intro ho hd; obtain rfl := (Option.some.inj ho).symm; have d13 : vs 13 = (.bool false) := hd ⟨13, .guard⟩ (by simp) rfl; clear hd ho; refine step_yes G rfl rfl (by decide) d13 ?_; clear G; exact step_run (v := (.pointer (some ⟨wk.heap.size, 1, none⟩))) (by go_simp) rfl
          | 15 => intro ho hd; obtain rfl := (Option.some.inj ho).symm; have d14 : vs 14 = (.pointer (some ⟨wk.heap.size, 1, none⟩)) := hd ⟨14, .data⟩ (by simp) rfl; have d13 : vs 13 = (.bool false) := hd ⟨13, .guard⟩ (by simp) rfl; clear hd ho; have h52 := G.h (j := 14) (d := 52) rfl (by decide) d14; refine step_yes G rfl rfl (by decide) d13 ?_; clear G; exact step_run (v := (.int .i64 r.old)) (by go_simp) rfl
          | 16 => intro ho hd; obtain rfl := (Option.some.inj ho).symm; have d15 : vs 15 = (.int .i64 r.old) := hd ⟨15, .data⟩ (by simp) rfl; have d13 : vs 13 = (.bool false) := hd ⟨13, .guard⟩ (by simp) rfl; clear hd ho; have h53 := G.h (j := 15) (d := 53) rfl (by decide) d15; refine step_yes G rfl rfl (by decide) d13 ?_; clear G; exact step_run (v := (.bool false)) (by go_simp) rfl
          | 17 => intro ho hd; obtain rfl := (Option.some.inj ho).symm; have d13 : vs 13 = (.bool false) := hd ⟨13, .data⟩ (by simp) rfl; have d16 : vs 16 = (.bool false) := hd ⟨16, .data⟩ (by simp) rfl; clear hd ho; have h51 := G.h (j := 13) (d := 51) rfl (by decide) d13; have h54 := G.h (j := 16) (d := 54) rfl (by decide) d16; refine step_open rfl ?_; clear G; exact step_run (v := (.bool false)) (by go_simp) rfl
          | 18 => intro ho hd; obtain rfl := (Option.some.inj ho).symm; have d17 : vs 17 = (.bool false) := hd ⟨17, .data⟩ (by simp) rfl; clear hd ho; have h55 := G.h (j := 17) (d := 55) rfl (by decide) d17; refine step_open rfl ?_; clear G; exact step_run (v := (.bool false)) (by go_simp) rfl
          | 19 => intro ho hd; obtain rfl := (Option.some.inj ho).symm; have d18 : vs 18 = (.bool false) := hd ⟨18, .guard⟩ (by simp) rfl; clear hd ho; refine step_yes G rfl rfl (by decide) d18 ?_; clear G; exact step_run (v := (.int .i64 (0 : Nat))) (by go_simp) rfl
          | 20 => intro ho hd; obtain rfl := (Option.some.inj ho).symm; have d19 : vs 19 = (.int .i64 (0 : Nat)) := hd ⟨19, .data⟩ (by simp) rfl; have d18 : vs 18 = (.bool false) := hd ⟨18, .guard⟩ (by simp) rfl; clear hd ho; have h57 := G.h (j := 19) (d := 57) rfl (by decide) d19; refine step_yes G rfl rfl (by decide) d18 ?_; clear G; exact step_run (v := (.bool false)) (by go_simp) rfl
          | 21 => intro ho hd; obtain rfl := (Option.some.inj ho).symm; have d20 : vs 20 = (.bool false) := hd ⟨20, .data⟩ (by simp) rfl; have d18 : vs 18 = (.bool false) := hd ⟨18, .guard⟩ (by simp) rfl; clear hd ho; have h58 := G.h (j := 20) (d := 58) rfl (by decide) d20; refine step_yes G rfl rfl (by decide) d18 ?_; clear G; exact step_run (v := (.bool false)) (by go_simp) rfl
          | 22 => intro ho hd; obtain rfl := (Option.some.inj ho).symm; have d21 : vs 21 = (.bool false) := hd ⟨21, .guard⟩ (by simp) rfl; clear hd ho; exact step_not G rfl rfl (by decide) d21 rfl
          | 23 => intro ho hd; obtain rfl := (Option.some.inj ho).symm; have d21 : vs 21 = (.bool false) := hd ⟨21, .guard⟩ (by simp) rfl; clear hd ho; exact step_not G rfl rfl (by decide) d21 rfl
          | 24 => intro ho hd; obtain rfl := (Option.some.inj ho).symm; have d21 : vs 21 = (.bool false) := hd ⟨21, .guard⟩ (by simp) rfl; clear hd ho; exact step_not G rfl rfl (by decide) d21 rfl
          | 25 => intro ho hd; obtain rfl := (Option.some.inj ho).symm; have d21 : vs 21 = (.bool false) := hd ⟨21, .guard⟩ (by simp) rfl; clear hd ho; exact step_not G rfl rfl (by decide) d21 rfl
          | 26 => intro ho hd; obtain rfl := (Option.some.inj ho).symm; have d21 : vs 21 = (.bool false) := hd ⟨21, .guard⟩ (by simp) rfl; clear hd ho; exact step_not G rfl rfl (by decide) d21 rfl
          | 27 => intro ho hd; obtain rfl := (Option.some.inj ho).symm; have d21 : vs 21 = (.bool false) := hd ⟨21, .guard⟩ (by simp) rfl; clear hd ho; exact step_not G rfl rfl (by decide) d21 rfl
          | 28 => intro ho hd; obtain rfl := (Option.some.inj ho).symm; have d21 : vs 21 = (.bool false) := hd ⟨21, .guard⟩ (by simp) rfl; clear hd ho; exact step_not G rfl rfl (by decide) d21 rfl
          | 29 => intro ho hd; obtain rfl := (Option.some.inj ho).symm; have d21 : vs 21 = (.bool false) := hd ⟨21, .guard⟩ (by simp) rfl; clear hd ho; exact step_not G rfl rfl (by decide) d21 rfl
          | 30 => intro ho hd; obtain rfl := (Option.some.inj ho).symm; have d21 : vs 21 = (.bool false) := hd ⟨21, .guard⟩ (by simp) rfl; clear hd ho; exact step_not G rfl rfl (by decide) d21 rfl
          | 31 => intro ho hd; obtain rfl := (Option.some.inj ho).symm; have d21 : vs 21 = (.bool false) := hd ⟨21, .guard⟩ (by simp) rfl; clear hd ho; exact step_not G rfl rfl (by decide) d21 rfl
          | 32 => intro ho hd; obtain rfl := (Option.some.inj ho).symm; have d21 : vs 21 = (.bool false) := hd ⟨21, .data⟩ (by simp) rfl; have d31 : vs 31 = undef := hd ⟨31, .data⟩ (by simp) rfl; have d18 : vs 18 = (.bool false) := hd ⟨18, .guard⟩ (by simp) rfl; clear hd ho; have h59 := G.h (j := 21) (d := 59) rfl (by decide) d21; have h69 := G.h (j := 31) (d := 69) rfl (by decide) d31; refine step_yes G rfl rfl (by decide) d18 ?_; clear G; exact step_run (v := (.bool false)) (by go_simp) rfl
          | 33 => intro ho hd; obtain rfl := (Option.some.inj ho).symm; have d18 : vs 18 = (.bool false) := hd ⟨18, .data⟩ (by simp) rfl; have d32 : vs 32 = (.bool false) := hd ⟨32, .data⟩ (by simp) rfl; clear hd ho; have h56 := G.h (j := 18) (d := 56) rfl (by decide) d18; have h70 := G.h (j := 32) (d := 70) rfl (by decide) d32; refine step_open rfl ?_; clear G; exact step_run (v := (.bool false)) (by go_simp) rfl
          | n + 34 => intro ho hd; simp at ho
        · intro vs w' hb hR
          have hv : vs 33 = .bool false := hR 33 (by decide)
          have hbB := HW.out.2.2.trans (hb.mono (by have := HW.out.2.2.size; omega))
          have hK0 := keep hb HW.out.1
          have hK1 := keep hb HW.out.2.1
          simp only [putAll, Act.put, List.setIfInBounds_toArray, List.set_cons_succ, List.set_cons_zero]
          rw [hv]
          clear HW hb hR hv
          clear hq p2 hlq hbw
          generalize wk.heap.size = z at *
          have s1 := cell_at hK0 1
          have s2 := cell_at hK0 2
          have hzl := lt_some hK0
          simp at s1 s2
          have eL : decide (8 < (r.ex.length : Int)) = false := by simp; omega
          by_cases hO : r.old = 0
          · have hex := hz hO
            have e7 : decide (r.old = 0) = true := by simp [hO]
            have e8 : decide (0 < (r.ex.length : Int)) = false := by simp [hex]
            go_wp2_with fail
            go_loopw [5] (fun j wi => ∃ (m : Nat), m ≤ r.ex.length ∧ j = .int .i64 m ∧ wi.heap[w.heap.size]? = some (.cells #[.int .i64 a, .int .i64 b, .slice (some ⟨q, off, none⟩) rs.length c] 101 (0, 0)) ∧ wi.heap[z]? = some (.cells #[.int .i64 r.nw, .int .i64 r.old, .slice ba r.ex.length bc] 147 (0, 0)) ∧ Below w.heap.size w wi) (fun j _ => r.ex.length - (intOf j).toNat)
            case atStart => exact ⟨0, Nat.zero_le _, rfl, hK1, hK0, hbB⟩
            case round =>
              obtain ⟨m, hm, rfl, hq2, hq3, hbi⟩ := hrel
              have t2 := cell_at hq3 2
              have hzl := lt_some hq3
              simp at t2
              by_cases hmt : m < r.ex.length
              · exact absurd hmt (by omega)
              · obtain rfl : m = r.ex.length := by omega
                go_wp2
                go_roundw
                case rel => exact ⟨0 + 1, r.nw, by omega, by go_num, by omega, HG7.out, fun h => by omega, fun k' h => ⟨r, by rw [← Nat.succ.inj h]; exact hx, rfl⟩, hq2, hbi⟩
                case measure => simp [intOf]; omega
          · have e7 : decide (r.old = 0) = false := by simp [hO]
            go_wp2_with fail
            go_loopw [5] (fun j wi => ∃ (m : Nat), m ≤ r.ex.length ∧ j = .int .i64 m ∧ wi.heap[w.heap.size]? = some (.cells #[.int .i64 a, .int .i64 b, .slice (some ⟨q, off, none⟩) rs.length c] 101 (0, 0)) ∧ wi.heap[z]? = some (.cells #[.int .i64 r.nw, .int .i64 r.old, .slice ba r.ex.length bc] 147 (0, 0)) ∧ Below w.heap.size w wi) (fun j _ => r.ex.length - (intOf j).toNat)
            case atStart => exact ⟨0, Nat.zero_le _, rfl, hK1, hK0, hbB⟩
            case round =>
              obtain ⟨m, hm, rfl, hq2, hq3, hbi⟩ := hrel
              have t2 := cell_at hq3 2
              have hzl := lt_some hq3
              simp at t2
              by_cases hmt : m < r.ex.length
              · have hy := List.getElem?_eq_getElem hmt
                generalize r.ex[m] = x at *
                have hio := all_mem HG6.out hy
                obtain ⟨q1, off1, v1, rfl, hq1, hv, hA⟩ := HROW.out m x hy
                have hv' := (hbi.cell (p := ⟨q1, off1 + m, none⟩) hq1).trans hv
                have HV := Lib.hid (hA.below hbi)
                clear hv hA
                go_wp2_with fail
                refine (enc11_any x _ T v1 HV.out hio).mono ?_
                rintro e w1 ⟨rfl, hb1⟩
                have hbel := hbi.trans (hb1.mono hbi.size)
                have hq4 := keep hb1 hq2
                have hq5 := keep hb1 hq3
                clear hb1
                go_wp2_with fail
                go_roundw
                case rel => exact ⟨m + 1, by omega, by go_num, hq4, hq5, hbel⟩
                case measure => simp [intOf]; omega
              · obtain rfl : m = r.ex.length := by omega
                go_wp2
                go_roundw
                case rel => exact ⟨0 + 1, r.nw, by omega, by go_num, by omega, HG7.out, fun h => by omega, fun k' h => ⟨r, by rw [← Nat.succ.inj h]; exact hx, rfl⟩, hq2, hbi⟩
                case measure => simp [intOf]; omega
      · obtain ⟨r', hr', hlr⟩ := hlk (k - 1) (by omega)
        obtain ⟨q', off', hqe, _, hcell'⟩ := HR.out (k - 1) r' hr'
        cases hqe
        obtain ⟨v0, c0, e0⟩ := hcell' 0 _ rfl
        obtain rfl := at_v e0
        have dp : wk.cell? ⟨q, off + (k - 1) * 3, none⟩ = some (.int .i64 r'.nw) := (hbw.cell (p := ⟨q, off + (k - 1) * 3, none⟩) hqb).trans c0
        have hw1 : wrap64 ((k : Int) - 1) = ((k - 1 : Nat) : Int) := by rw [w64_id (by omega) (by omega)]; omega
        have hw2 : IntKind.i64.wrap ((k : Int) - 1) = ((k - 1 : Nat) : Int) := by rw [IntKind.wrap_i64]; omega
        have hk1 : ((k - 1 : Nat) : Int) < (rs.length : Int) := by omega
        have hk2 : decide (0 < (k : Int)) = true := by simp; omega
        have e5 : decide (r.nw ≤ r'.nw) = false := by simp; omega
        clear hcell' c0 e0
        go_upto_region 7 with (fail)
        have hW0 := heap_alloc_new wk (.cells #[.int .i64 r.nw, .int .i64 r.old, .slice ba r.ex.length bc] 147)
        have hBW := hbw.alloc hbw.size (.cells #[.int .i64 r.nw, .int .i64 r.old, .slice ba r.ex.length bc] 147)
        have hqW := keepA (.cells #[.int .i64 r.nw, .int .i64 r.old, .slice ba r.ex.length bc] 147) hq
        have dW := fun o => ((Below.refl _ wk).alloc (Nat.le_refl _) (.cells #[.int .i64 r.nw, .int .i64 r.old, .slice ba r.ex.length bc] 147)).cell (p := ⟨q, o, none⟩) (by have := hbw.size; show q < _; omega)
        replace dp := (dW _).trans dp
        generalize hW : wk.alloc (.cells #[.int .i64 r.nw, .int .i64 r.old, .slice ba r.ex.length bc] 147) = W at *
        have HW := Lib.hid (And.intro hW0 (And.intro hqW hBW))
        have HP := Lib.hid dp
        clear hW hW0 hBW hqW dW
        have HWq := Lib.hid (show q < W.heap.size by have := lt_some HW.out.1; have := hbw.size; omega)
        refine wp_region_frame (by kernel_rfl) (by kernel_rfl) (by kernel_rfl) (byList (r12b_list wk.heap.size w.heap.size q off rs.length c k r.nw r.old r'.nw)) (lasts_list (r12b_list_lasts wk.heap.size w.heap.size q off rs.length c k r.nw r.old r'.nw)) ?_ ?_
        · intro vs w' iq o A F hb ho hd
          have m1 : A.tmps[1]?.getD undef = (.pointer (some ⟨w.heap.size, 0, none⟩)) := F.m (by kernel_rfl) rfl
          have m4 : A.tmps[4]?.getD undef = (.pointer (some ⟨wk.heap.size, 0, none⟩)) := F.m (by kernel_rfl) rfl
          have m3 : A.tmps[3]?.getD undef = (.int .i64 (k : Int)) := F.m (by kernel_rfl) rfl
          have G := F.light (n := 104) (by kernel_rfl)
          clear F
          have hK0 := keep hb HW.out.1
          have hK1 := keep hb HW.out.2.1
          have s0 := cell_at hK0 0
          have s1 := cell_at hK0 1
          have s2 := cell_at hK1 2
          simp at s0 s1 s2
          have dpp := (hb.cell (p := ⟨q, off + (k - 1) * 3, none⟩) (by have := lt_some HW.out.1; have := HWq.out; show q < _; omega)).trans HP.out
          clear hb hK0 hK1
          revert ho hd
          match iq with
          | 0 => intro ho hd; obtain rfl := (Option.some.inj ho).symm; clear hd ho; refine step_open rfl ?_; clear G; exact step_run (v := (.pointer (some ⟨wk.heap.size, 0, none⟩))) (by go_simp) rfl
          | 1 => intro ho hd; obtain rfl := (Option.some.inj ho).symm; have d0 : vs 0 = (.pointer (some ⟨wk.heap.size, 0, none⟩)) := hd ⟨0, .data⟩ (by simp) rfl; clear hd ho; have h38 := G.h (j := 0) (d := 38) rfl (by decide) d0; refine step_open rfl ?_; clear G; exact step_run (v := (.int .i64 r.nw)) (by go_simp) rfl
          | 2 => intro ho hd; obtain rfl := (Option.some.inj ho).symm; have d1 : vs 1 = (.int .i64 r.nw) := hd ⟨1, .data⟩ (by simp) rfl; clear hd ho; have h39 := G.h (j := 1) (d := 39) rfl (by decide) d1; refine step_open rfl ?_; clear G; exact step_run (v := (.bool false)) (by go_simp) rfl
          | 3 => intro ho hd; obtain rfl := (Option.some.inj ho).symm; have d2 : vs 2 = (.bool false) := hd ⟨2, .data⟩ (by simp) rfl; clear hd ho; have h40 := G.h (j := 2) (d := 40) rfl (by decide) d2; refine step_open rfl ?_; clear G; exact step_run (v := (.bool false)) (by go_simp) rfl
          | 4 => intro ho hd; obtain rfl := (Option.some.inj ho).symm; have d3 : vs 3 = (.bool false) := hd ⟨3, .guard⟩ (by simp) rfl; clear hd ho; refine step_yes G rfl rfl (by decide) d3 ?_; clear G; exact step_run (v := (.pointer (some ⟨wk.heap.size, 0, none⟩))) (by go_simp) rfl
          | 5 => intro ho hd; obtain rfl := (Option.some.inj ho).symm; have d4 : vs 4 = (.pointer (some ⟨wk.heap.size, 0, none⟩)) := hd ⟨4, .data⟩ (by simp) rfl; have d3 : vs 3 = (.bool false) := hd ⟨3, .guard⟩ (by simp) rfl; clear hd ho; have h42 := G.h (j := 4) (d := 42) rfl (by decide) d4; refine step_yes G rfl rfl (by decide) d3 ?_; clear G; exact step_run (v := (.int .i64 r.nw)) (by go_simp) rfl
          | 6 => intro ho hd; obtain rfl := (Option.some.inj ho).symm; have d5 : vs 5 = (.int .i64 r.nw) := hd ⟨5, .data⟩ (by simp) rfl; have d3 : vs 3 = (.bool false) := hd ⟨3, .guard⟩ (by simp) rfl; clear hd ho; have h43 := G.h (j := 5) (d := 43) rfl (by decide) d5; refine step_yes G rfl rfl (by decide) d3 ?_; clear G; exact step_run (v := (.bool false)) (by go_simp) rfl
          | 7 => intro ho hd; obtain rfl := (Option.some.inj ho).symm; have d3 : vs 3 = (.bool false) := hd ⟨3, .data⟩ (by simp) rfl; have d6 : vs 6 = (.bool false) := hd ⟨6, .data⟩ (by simp) rfl; clear hd ho; have h41 := G.h (j := 3) (d := 41) rfl (by decide) d3; have h44 := G.h (j := 6) (d := 44) rfl (by decide) d6; refine step_open rfl ?_; clear G; exact step_run (v := (.bool false)) (by go_simp) rfl
          | 8 => intro ho hd; obtain rfl := (Option.some.inj ho).symm; have d7 : vs 7 = (.bool false) := hd ⟨7, .data⟩ (by simp) rfl; clear hd ho; have h45 := G.h (j := 7) (d := 45) rfl (by decide) d7; refine step_open rfl ?_; clear G; exact step_run (v := (.bool false)) (by go_simp) rfl
          | 9 => intro ho hd; obtain rfl := (Option.some.inj ho).symm; have d8 : vs 8 = (.bool false) := hd ⟨8, .guard⟩ (by simp) rfl; clear hd ho; refine step_yes G rfl rfl (by decide) d8 ?_; clear G; exact step_run (v := (.pointer (some ⟨wk.heap.size, 1, none⟩))) (by go_simp) rfl
          | 10 => intro ho hd; obtain rfl := (Option.some.inj ho).symm; have d9 : vs 9 = (.pointer (some ⟨wk.heap.size, 1, none⟩)) := hd ⟨9, .data⟩ (by simp) rfl; have d8 : vs 8 = (.bool false) := hd ⟨8, .guard⟩ (by simp) rfl; clear hd ho; have h47 := G.h (j := 9) (d := 47) rfl (by decide) d9; refine step_yes G rfl rfl (by decide) d8 ?_; clear G; exact step_run (v := (.int .i64 r.old)) (by go_simp) rfl
          | 11 => intro ho hd; obtain rfl := (Option.some.inj ho).symm; have d10 : vs 10 = (.int .i64 r.old) := hd ⟨10, .data⟩ (by simp) rfl; have d8 : vs 8 = (.bool false) := hd ⟨8, .guard⟩ (by simp) rfl; clear hd ho; have h48 := G.h (j := 10) (d := 48) rfl (by decide) d10; refine step_yes G rfl rfl (by decide) d8 ?_; clear G; exact step_run (v := (.bool false)) (by go_simp) rfl
          | 12 => intro ho hd; obtain rfl := (Option.some.inj ho).symm; have d8 : vs 8 = (.bool false) := hd ⟨8, .data⟩ (by simp) rfl; have d11 : vs 11 = (.bool false) := hd ⟨11, .data⟩ (by simp) rfl; clear hd ho; have h46 := G.h (j := 8) (d := 46) rfl (by decide) d8; have h49 := G.h (j := 11) (d := 49) rfl (by decide) d11; refine step_open rfl ?_; clear G; exact step_run (v := (.bool false)) (by go_simp) rfl
          | 13 => intro ho hd; obtain rfl := (Option.some.inj ho).symm; have d12 : vs 12 = (.bool false) := hd ⟨12, .data⟩ (by simp) rfl; clear hd ho; have h50 := G.h (j := 12) (d := 50) rfl (by decide) d12; refine step_open rfl ?_; clear G; exact step_run (v := (.bool false)) (by go_simp) rfl
          | 14 => intro ho hd; obtain rfl := (Option.some.inj ho).symm; have d13 : vs 13 = (.bool false) := hd ⟨13, .guard⟩ (by simp) rfl; clear hd ho; refine step_yes G rfl rfl (by decide) d13 ?_; clear G; exact step_run (v := (.pointer (some ⟨wk.heap.size, 1, none⟩))) (by go_simp) rfl
          | 15 => intro ho hd; obtain rfl := (Option.some.inj ho).symm; have d14 : vs 14 = (.pointer (some ⟨wk.heap.size, 1, none⟩)) := hd ⟨14, .data⟩ (by simp) rfl; have d13 : vs 13 = (.bool false) := hd ⟨13, .guard⟩ (by simp) rfl; clear hd ho; have h52 := G.h (j := 14) (d := 52) rfl (by decide) d14; refine step_yes G rfl rfl (by decide) d13 ?_; clear G; exact step_run (v := (.int .i64 r.old)) (by go_simp) rfl
          | 16 => intro ho hd; obtain rfl := (Option.some.inj ho).symm; have d15 : vs 15 = (.int .i64 r.old) := hd ⟨15, .data⟩ (by simp) rfl; have d13 : vs 13 = (.bool false) := hd ⟨13, .guard⟩ (by simp) rfl; clear hd ho; have h53 := G.h (j := 15) (d := 53) rfl (by decide) d15; refine step_yes G rfl rfl (by decide) d13 ?_; clear G; exact step_run (v := (.bool false)) (by go_simp) rfl
          | 17 => intro ho hd; obtain rfl := (Option.some.inj ho).symm; have d13 : vs 13 = (.bool false) := hd ⟨13, .data⟩ (by simp) rfl; have d16 : vs 16 = (.bool false) := hd ⟨16, .data⟩ (by simp) rfl; clear hd ho; have h51 := G.h (j := 13) (d := 51) rfl (by decide) d13; have h54 := G.h (j := 16) (d := 54) rfl (by decide) d16; refine step_open rfl ?_; clear G; exact step_run (v := (.bool false)) (by go_simp) rfl
          | 18 => intro ho hd; obtain rfl := (Option.some.inj ho).symm; have d17 : vs 17 = (.bool false) := hd ⟨17, .data⟩ (by simp) rfl; clear hd ho; have h55 := G.h (j := 17) (d := 55) rfl (by decide) d17; refine step_open rfl ?_; clear G; exact step_run (v := (.bool false)) (by go_simp) rfl
          | 19 => intro ho hd; obtain rfl := (Option.some.inj ho).symm; have d18 : vs 18 = (.bool false) := hd ⟨18, .guard⟩ (by simp) rfl; clear hd ho; refine step_yes G rfl rfl (by decide) d18 ?_; clear G; exact step_run (v := (.int .i64 (k : Int))) (by go_simp) rfl
          | 20 => intro ho hd; obtain rfl := (Option.some.inj ho).symm; have d19 : vs 19 = (.int .i64 (k : Int)) := hd ⟨19, .data⟩ (by simp) rfl; have d18 : vs 18 = (.bool false) := hd ⟨18, .guard⟩ (by simp) rfl; clear hd ho; have h57 := G.h (j := 19) (d := 57) rfl (by decide) d19; refine step_yes G rfl rfl (by decide) d18 ?_; clear G; exact step_run (v := (.bool true)) (by go_simp) rfl
          | 21 => intro ho hd; obtain rfl := (Option.some.inj ho).symm; have d20 : vs 20 = (.bool true) := hd ⟨20, .data⟩ (by simp) rfl; have d18 : vs 18 = (.bool false) := hd ⟨18, .guard⟩ (by simp) rfl; clear hd ho; have h58 := G.h (j := 20) (d := 58) rfl (by decide) d20; refine step_yes G rfl rfl (by decide) d18 ?_; clear G; exact step_run (v := (.bool true)) (by go_simp) rfl
          | 22 => intro ho hd; obtain rfl := (Option.some.inj ho).symm; have d21 : vs 21 = (.bool true) := hd ⟨21, .guard⟩ (by simp) rfl; clear hd ho; refine step_yes G rfl rfl (by decide) d21 ?_; clear G; exact step_run (v := (.pointer (some ⟨w.heap.size, 2, none⟩))) (by go_simp) rfl
          | 23 => intro ho hd; obtain rfl := (Option.some.inj ho).symm; have d22 : vs 22 = (.pointer (some ⟨w.heap.size, 2, none⟩)) := hd ⟨22, .data⟩ (by simp) rfl; have d21 : vs 21 = (.bool true) := hd ⟨21, .guard⟩ (by simp) rfl; clear hd ho; have h60 := G.h (j := 22) (d := 60) rfl (by decide) d22; refine step_yes G rfl rfl (by decide) d21 ?_; clear G; exact step_run (v := (.slice (some ⟨q, off, none⟩) rs.length c)) (by go_simp) rfl
          | 24 => intro ho hd; obtain rfl := (Option.some.inj ho).symm; have d21 : vs 21 = (.bool true) := hd ⟨21, .guard⟩ (by simp) rfl; clear hd ho; refine step_yes G rfl rfl (by decide) d21 ?_; clear G; exact step_run (v := (.int .i64 (k : Int))) (by go_simp) rfl
          | 25 => intro ho hd; obtain rfl := (Option.some.inj ho).symm; have d24 : vs 24 = (.int .i64 (k : Int)) := hd ⟨24, .data⟩ (by simp) rfl; have d21 : vs 21 = (.bool true) := hd ⟨21, .guard⟩ (by simp) rfl; clear hd ho; have h62 := G.h (j := 24) (d := 62) rfl (by decide) d24; refine step_yes G rfl rfl (by decide) d21 ?_; clear G; exact step_run (v := (.int .i64 ((k - 1 : Nat) : Int))) (by go_simp) rfl
          | 26 => intro ho hd; obtain rfl := (Option.some.inj ho).symm; have d23 : vs 23 = (.slice (some ⟨q, off, none⟩) rs.length c) := hd ⟨23, .data⟩ (by simp) rfl; have d25 : vs 25 = (.int .i64 ((k - 1 : Nat) : Int)) := hd ⟨25, .data⟩ (by simp) rfl; have d21 : vs 21 = (.bool true) := hd ⟨21, .guard⟩ (by simp) rfl; clear hd ho; have h61 := G.h (j := 23) (d := 61) rfl (by decide) d23; have h63 := G.h (j := 25) (d := 63) rfl (by decide) d25; refine step_yes G rfl rfl (by decide) d21 ?_; clear G; exact step_run (v := (.pointer (some ⟨q, off + (k - 1) * 3, none⟩))) (by go_simp) rfl
          | 27 => intro ho hd; obtain rfl := (Option.some.inj ho).symm; have d26 : vs 26 = (.pointer (some ⟨q, off + (k - 1) * 3, none⟩)) := hd ⟨26, .data⟩ (by simp) rfl; have d21 : vs 21 = (.bool true) := hd ⟨21, .guard⟩ (by simp) rfl; clear hd ho; have h64 := G.h (j := 26) (d := 64) rfl (by decide) d26; refine step_yes G rfl rfl (by decide) d21 ?_; clear G; exact step_run (v := (.pointer (some ⟨q, off + (k - 1) * 3, none⟩))) (by go_simp) rfl
          | 28 => intro ho hd; obtain rfl := (Option.some.inj ho).symm; have d27 : vs 27 = (.pointer (some ⟨q, off + (k - 1) * 3, none⟩)) := hd ⟨27, .data⟩ (by simp) rfl; have d21 : vs 21 = (.bool true) := hd ⟨21, .guard⟩ (by simp) rfl; clear hd ho; have h65 := G.h (j := 27) (d := 65) rfl (by decide) d27; refine step_yes G rfl rfl (by decide) d21 ?_; clear G; exact step_run (v := (.int .i64 r'.nw)) (by go_simp) rfl
          | 29 => intro ho hd; obtain rfl := (Option.some.inj ho).symm; have d21 : vs 21 = (.bool true) := hd ⟨21, .guard⟩ (by simp) rfl; clear hd ho; refine step_yes G rfl rfl (by decide) d21 ?_; clear G; exact step_run (v := (.pointer (some ⟨wk.heap.size, 0, none⟩))) (by go_simp) rfl
          | 30 => intro ho hd; obtain rfl := (Option.some.inj ho).symm; have d29 : vs 29 = (.pointer (some ⟨wk.heap.size, 0, none⟩)) := hd ⟨29, .data⟩ (by simp) rfl; have d21 : vs 21 = (.bool true) := hd ⟨21, .guard⟩ (by simp) rfl; clear hd ho; have h67 := G.h (j := 29) (d := 67) rfl (by decide) d29; refine step_yes G rfl rfl (by decide) d21 ?_; clear G; exact step_run (v := (.int .i64 r.nw)) (by go_simp) rfl
          | 31 => intro ho hd; obtain rfl := (Option.some.inj ho).symm; have d28 : vs 28 = (.int .i64 r'.nw) := hd ⟨28, .data⟩ (by simp) rfl; have d30 : vs 30 = (.int .i64 r.nw) := hd ⟨30, .data⟩ (by simp) rfl; have d21 : vs 21 = (.bool true) := hd ⟨21, .guard⟩ (by simp) rfl; clear hd ho; have h66 := G.h (j := 28) (d := 66) rfl (by decide) d28; have h68 := G.h (j := 30) (d := 68) rfl (by decide) d30; refine step_yes G rfl rfl (by decide) d21 ?_; clear G; exact step_run (v := (.bool false)) (by go_simp) rfl
          | 32 => intro ho hd; obtain rfl := (Option.some.inj ho).symm; have d21 : vs 21 = (.bool true) := hd ⟨21, .data⟩ (by simp) rfl; have d31 : vs 31 = (.bool false) := hd ⟨31, .data⟩ (by simp) rfl; have d18 : vs 18 = (.bool false) := hd ⟨18, .guard⟩ (by simp) rfl; clear hd ho; have h59 := G.h (j := 21) (d := 59) rfl (by decide) d21; have h69 := G.h (j := 31) (d := 69) rfl (by decide) d31; refine step_yes G rfl rfl (by decide) d18 ?_; clear G; exact step_run (v := (.bool false)) (by go_simp) rfl
          | 33 => intro ho hd; obtain rfl := (Option.some.inj ho).symm; have d18 : vs 18 = (.bool false) := hd ⟨18, .data⟩ (by simp) rfl; have d32 : vs 32 = (.bool false) := hd ⟨32, .data⟩ (by simp) rfl; clear hd ho; have h56 := G.h (j := 18) (d := 56) rfl (by decide) d18; have h70 := G.h (j := 32) (d := 70) rfl (by decide) d32; refine step_open rfl ?_; clear G; exact step_run (v := (.bool false)) (by go_simp) rfl
          | n + 34 => intro ho hd; simp at ho
        · intro vs w' hb hR
          have hv : vs 33 = .bool false := hR 33 (by decide)
          have hbB := HW.out.2.2.trans (hb.mono (by have := HW.out.2.2.size; omega))
          have hK0 := keep hb HW.out.1
          have hK1 := keep hb HW.out.2.1
          simp only [putAll, Act.put, List.setIfInBounds_toArray, List.set_cons_succ, List.set_cons_zero]
          rw [hv]
          clear HW hb hR hv
          clear hq p2 hlq hbw
          generalize wk.heap.size = z at *
          have s1 := cell_at hK0 1
          have s2 := cell_at hK0 2
          have hzl := lt_some hK0
          simp at s1 s2
          have eL : decide (8 < (r.ex.length : Int)) = false := by simp; omega
          by_cases hO : r.old = 0
          · have hex := hz hO
            have e7 : decide (r.old = 0) = true := by simp [hO]
            have e8 : decide (0 < (r.ex.length : Int)) = false := by simp [hex]
            go_wp2_with fail
            go_loopw [5] (fun j wi => ∃ (m : Nat), m ≤ r.ex.length ∧ j = .int .i64 m ∧ wi.heap[w.heap.size]? = some (.cells #[.int .i64 a, .int .i64 b, .slice (some ⟨q, off, none⟩) rs.length c] 101 (0, 0)) ∧ wi.heap[z]? = some (.cells #[.int .i64 r.nw, .int .i64 r.old, .slice ba r.ex.length bc] 147 (0, 0)) ∧ Below w.heap.size w wi) (fun j _ => r.ex.length - (intOf j).toNat)
            case atStart => exact ⟨0, Nat.zero_le _, rfl, hK1, hK0, hbB⟩
            case round =>
              obtain ⟨m, hm, rfl, hq2, hq3, hbi⟩ := hrel
              have t2 := cell_at hq3 2
              have hzl := lt_some hq3
              simp at t2
              by_cases hmt : m < r.ex.length
              · exact absurd hmt (by omega)
              · obtain rfl : m = r.ex.length := by omega
                go_wp2
                go_roundw
                case rel => exact ⟨k + 1, r.nw, by omega, by go_num, by omega, HG7.out, fun h => by omega, fun k' h => ⟨r, by rw [← Nat.succ.inj h]; exact hx, rfl⟩, hq2, hbi⟩
                case measure => simp [intOf]; omega
          · have e7 : decide (r.old = 0) = false := by simp [hO]
            go_wp2_with fail
            go_loopw [5] (fun j wi => ∃ (m : Nat), m ≤ r.ex.length ∧ j = .int .i64 m ∧ wi.heap[w.heap.size]? = some (.cells #[.int .i64 a, .int .i64 b, .slice (some ⟨q, off, none⟩) rs.length c] 101 (0, 0)) ∧ wi.heap[z]? = some (.cells #[.int .i64 r.nw, .int .i64 r.old, .slice ba r.ex.length bc] 147 (0, 0)) ∧ Below w.heap.size w wi) (fun j _ => r.ex.length - (intOf j).toNat)
            case atStart => exact ⟨0, Nat.zero_le _, rfl, hK1, hK0, hbB⟩
            case round =>
              obtain ⟨m, hm, rfl, hq2, hq3, hbi⟩ := hrel
              have t2 := cell_at hq3 2
              have hzl := lt_some hq3
              simp at t2
              by_cases hmt : m < r.ex.length
              · have hy := List.getElem?_eq_getElem hmt
                generalize r.ex[m] = x at *
                have hio := all_mem HG6.out hy
                obtain ⟨q1, off1, v1, rfl, hq1, hv, hA⟩ := HROW.out m x hy
                have hv' := (hbi.cell (p := ⟨q1, off1 + m, none⟩) hq1).trans hv
                have HV := Lib.hid (hA.below hbi)
                clear hv hA
                go_wp2_with fail
                refine (enc11_any x _ T v1 HV.out hio).mono ?_
                rintro e w1 ⟨rfl, hb1⟩
                have hbel := hbi.trans (hb1.mono hbi.size)
                have hq4 := keep hb1 hq2
                have hq5 := keep hb1 hq3
                clear hb1
                go_wp2_with fail
                go_roundw
                case rel => exact ⟨m + 1, by omega, by go_num, hq4, hq5, hbel⟩
                case measure => simp [intOf]; omega
              · obtain rfl : m = r.ex.length := by omega
                go_wp2
                go_roundw
                case rel => exact ⟨k + 1, r.nw, by omega, by go_num, by omega, HG7.out, fun h => by omega, fun k' h => ⟨r, by rw [← Nat.succ.inj h]; exact hx, rfl⟩, hq2, hbi⟩
                case measure => simp [intOf]; omega
    · obtain rfl : k = rs.length := by omega
      go_wp2
      go_ret
      exact ⟨rfl, hbw⟩
end Go.Proofs.YtgnilkjdpfbjgaaGreat
