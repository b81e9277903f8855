/- The reference's systems: 22 Good, Check. -/
import Derived.Test.YtgnilkjdpfbjgaaGreatQ23
import Derived.Test.YtgnilkjdpfbjgaaGreatQ9
import Derived.Test.YtgnilkjdpfbjgaaGreatQ17
namespace Go.Proofs.YtgnilkjdpfbjgaaGreat
open Go.RowKit
set_option linter.unusedVariables false
set_option maxRecDepth 100000 in
set_option maxHeartbeats 1000000 in
theorem good22_any (x : OpT) (n : Int) (w : World) (h : opOk x = true) : Calls Tryz.prog 94 #[opV x, .int .i64 n] w fun e w' => e = .returned (.bool true) ∧ Below w.heap.size w w' := by
  obtain ⟨co, a, b, c, k⟩ := x
  unfold opV
  have h := opOk_is h
  dsimp only at h ⊢
  rcases h with ⟨rfl, rfl, rfl, rfl, _, _⟩ | ⟨rfl | rfl, h1, h2, h3, h4, rfl, rfl⟩ | ⟨rfl, rfl, rfl, rfl, rfl⟩
  all_goals
    go_enter Tryz.func94, Tryz.ntmps94
    go_wp2_with fail
    go_returns
    exact ⟨rfl, by go_grown⟩
def c22a_list (z q off n c : Nat) (x nm : ByteArray) : List (Value → World → Prop) :=
  [IsV (.pointer (some ⟨z, 2, none⟩)),
   IsV (.slice (some ⟨q, off, none⟩) n c),
   IsV (.int .i64 (0 : Int)),
   IsV (.pointer (some ⟨q, off, none⟩)),
   IsV (.string x),
   IsV (.bool true),
   IsV (.bool false),
   IsV (.bool false),
   IsV (.pointer (some ⟨z, 2, none⟩)),
   IsV (.slice (some ⟨q, off, none⟩) n c),
   IsV (.int .i64 (0 : Int)),
   IsV (.pointer (some ⟨q, off, none⟩)),
   IsV (.string x),
   IsV (.pointer (some ⟨z, 0, none⟩)),
   IsV (.string nm),
   IsV (.bool false),
   IsV (.bool false)]
theorem c22a_list_lasts (z q off n c : Nat) (x nm : ByteArray) : ∀ p ∈ c22a_list z q off n c  x nm , Lasts p := by
  simp only [c22a_list, List.mem_cons, List.not_mem_nil, or_false]
  rintro p hp
  repeat (rcases hp with rfl | hp; exact lasts_v _)
def c22b_list (z q off n c k : Nat) (x : OpT) : List (Value → World → Prop) :=
  [IsV (.pointer (some ⟨z, 5, none⟩)),
   IsV (.slice (some ⟨q, off, none⟩) n c),
   IsV (.int .i64 (k : Int)),
   IsV (.pointer (some ⟨q, off + k * 5, none⟩)),
   IsV (opV x),
   IsV (.pointer (some ⟨z, 5, none⟩)),
   IsV (.slice (some ⟨q, off, none⟩) n c),
   IsV (.int .i64 (n : Int)),
   IsV (.bool true),
   IsV (.bool false)]
theorem c22b_list_lasts (z q off n c k : Nat) (x : OpT) : ∀ p ∈ c22b_list z q off n c k  x , Lasts p := by
  simp only [c22b_list, List.mem_cons, List.not_mem_nil, or_false]
  rintro p hp
  repeat (rcases hp with rfl | hp; exact lasts_v _)
theorem bit_zero (k : Nat) : bitAt 0 k = false := by
  unfold bitAt
  simp
set_option maxRecDepth 100000 in
set_option maxHeartbeats 2000000 in
theorem check22_any (s : SysT) (w : World) (T : Nat → TypeId → Prop) (ua uc : Value) (ha : At w T (strsD s.after) ua) (hc : At w T (opsD s.code) uc) (h : sysOk s = true) :
    Calls Tryz.prog 58 #[.agg #[.string s.name, .int .i64 s.stage, ua, .int .u32 s.al, .int .u32 s.no, uc]] w fun e w' => e = .returned (.int .i64 0) ∧ Below w.heap.size w w' := by
  obtain ⟨hn, hst, hl, haf, hal, hno, hcl, hco⟩ := sysOk_is h
  obtain ⟨aa, ac, rfl, hac, _, harow⟩ := row1_at strD ha
  obtain ⟨ca, cc, rfl, hcc, _, hcrow⟩ := ops_at hc
  obtain ⟨name, stage, after, al, no, code⟩ := s
  dsimp only at hn hst hl haf hal hno hcl hco harow hcrow hac hcc ⊢
  subst hst hno
  have hsz := name_size hn
  have hs2 : is10 al = true := by rcases hal with rfl | rfl <;> decide +kernel
  have hs0 : is10 0 = true := by decide +kernel
  have hal1 : 0 ≤ al ∧ al ≤ 4294967295 := by omega
  have HF := Lib.hid haf
  have HC := Lib.hid hco
  have HA := Lib.hid harow
  have HCR := Lib.hid hcrow
  have H0 := Lib.hid (And.intro (heap_alloc_new w (.cells #[.string name, .int .i64 0, .slice aa after.length ac, .int .u32 al, .int .u32 0, .slice ca code.length cc] 81)) ((Below.refl _ w).alloc (Nat.le_refl _) (.cells #[.string name, .int .i64 0, .slice aa after.length ac, .int .u32 al, .int .u32 0, .slice ca code.length cc] 81)))
  clear ha hc h haf hco harow hcrow
  go_enter Tryz.func58, Tryz.ntmps58
  go_wp2_with fail
  refine (name07_any name _ (by unfold maxLen; omega)).mono ?_
  rintro e w1 ⟨rfl, rfl⟩
  rw [hn]
  go_wp2_with fail
  generalize w.alloc (.cells #[.string name, .int .i64 0, .slice aa after.length ac, .int .u32 al, .int .u32 0, .slice ca code.length cc] 81) = W at *
  go_loopw [3] (fun i wr => ∃ (k : Nat), k ≤ after.length ∧ i = .int .i64 k ∧ wr.heap[w.heap.size]? = some (.cells #[.string name, .int .i64 0, .slice aa after.length ac, .int .u32 al, .int .u32 0, .slice ca code.length cc] 81 (0, 0)) ∧ Below w.heap.size w wr) (fun i _ => after.length - (intOf i).toNat)
  case atStart => exact ⟨0, Nat.zero_le _, rfl, H0.out.1, H0.out.2⟩
  case round =>
    obtain ⟨k, hk, rfl, hq, hbw⟩ := hrel
    have p2 := cell_at hq 2
    simp at p2
    have hlz := lt_some hq
    by_cases hlt : k < after.length
    · obtain rfl : k = 0 := by omega
      have hx := List.getElem?_eq_getElem hlt
      generalize after[0] = x at *
      obtain ⟨hnx, hne⟩ := HF.out x (List.mem_of_getElem? hx)
      obtain ⟨q, off, v, rfl, hqb, hv, hA⟩ := HA.out 0 x hx
      obtain rfl := at_v hA
      have hvW : wr.cell? ⟨q, off, none⟩ = some (.string x) := (hbw.cell (p := ⟨q, off + 0, none⟩) hqb).trans hv
      have hqW : q < wr.heap.size := by have := hbw.size; omega
      have hsx := name_size hnx
      have hne' : (x.toList == name.toList) = false := by
        rw [beq_eq_false_iff_ne]
        intro e
        rw [ByteArray.toList_eq, ByteArray.toList_eq] at e
        exact hne (Array.toList_inj.1 e)
      clear hv hA hx hne
      go_upto_region 10 with (fail)
      refine wp_region_frame (by kernel_rfl) (by kernel_rfl) (by kernel_rfl) (byList (c22a_list w.heap.size q off after.length ac x name)) (lasts_list (c22a_list_lasts w.heap.size q off after.length ac x name)) ?_ ?_
      · intro vs w' iq o A F hb ho hd
        have m1 : A.tmps[1]?.getD undef = (.pointer (some ⟨w.heap.size, 0, none⟩)) := F.m (by kernel_rfl) rfl
        have m3 : A.tmps[3]?.getD undef = (.int .i64 (0 : Int)) := F.m (by kernel_rfl) rfl
        have G := F.light (n := 114) (by kernel_rfl)
        clear F
        have hK := keep hb hq
        have s0 := cell_at hK 0
        have s2 := cell_at hK 2
        have d0 := (hb.cell (p := ⟨q, off, none⟩) hqW).trans hvW
        simp at s0 s2
        clear hb hK
        revert ho hd
        match iq with
        | 0 => intro ho hd; obtain rfl := (Option.some.inj ho).symm; clear hd ho; refine step_open rfl ?_; clear G; exact step_run (v := (.pointer (some ⟨w.heap.size, 2, none⟩))) (by go_simp) rfl
        | 1 => intro ho hd; obtain rfl := (Option.some.inj ho).symm; have d0 : vs 0 = (.pointer (some ⟨w.heap.size, 2, none⟩)) := hd ⟨0, .data⟩ (by simp) rfl; clear hd ho; have h32 := G.h (j := 0) (d := 32) rfl (by decide) d0; refine step_open rfl ?_; clear G; exact step_run (v := (.slice (some ⟨q, off, none⟩) after.length ac)) (by go_simp) rfl
        | 2 => intro ho hd; obtain rfl := (Option.some.inj ho).symm; clear hd ho; refine step_open rfl ?_; clear G; exact step_run (v := (.int .i64 (0 : Int))) (by go_simp) rfl
        | 3 => intro ho hd; obtain rfl := (Option.some.inj ho).symm; have d1 : vs 1 = (.slice (some ⟨q, off, none⟩) after.length ac) := hd ⟨1, .data⟩ (by simp) rfl; have d2 : vs 2 = (.int .i64 (0 : Int)) := hd ⟨2, .data⟩ (by simp) rfl; clear hd ho; have h33 := G.h (j := 1) (d := 33) rfl (by decide) d1; have h34 := G.h (j := 2) (d := 34) rfl (by decide) d2; refine step_open rfl ?_; clear G; exact step_run (v := (.pointer (some ⟨q, off, none⟩))) (by go_simp) rfl
        | 4 => intro ho hd; obtain rfl := (Option.some.inj ho).symm; have d3 : vs 3 = (.pointer (some ⟨q, off, none⟩)) := hd ⟨3, .data⟩ (by simp) rfl; clear hd ho; have h35 := G.h (j := 3) (d := 35) rfl (by decide) d3; refine step_open rfl ?_; clear G; exact step_run (v := (.string x)) (by go_simp) rfl
        | 5 => intro ho hd; obtain rfl := (Option.some.inj ho).symm; have d4 : vs 4 = (.string x) := hd ⟨4, .data⟩ (by simp) rfl; clear hd ho; have h36 := G.h (j := 4) (d := 36) rfl (by decide) d4; refine step_open rfl ?_; clear G; go_simp; refine (name07_any x _ (by unfold maxLen; omega)).mono ?_; rintro e w2 ⟨rfl, rfl⟩; exact ⟨_, rfl, by rw [hnx]; rfl, Below.refl _ _⟩
        | 6 => intro ho hd; obtain rfl := (Option.some.inj ho).symm; have d5 : vs 5 = (.bool true) := hd ⟨5, .data⟩ (by simp) rfl; clear hd ho; have h37 := G.h (j := 5) (d := 37) rfl (by decide) d5; refine step_open rfl ?_; clear G; exact step_run (v := (.bool false)) (by go_simp) rfl
        | 7 => intro ho hd; obtain rfl := (Option.some.inj ho).symm; have d6 : vs 6 = (.bool false) := hd ⟨6, .data⟩ (by simp) rfl; clear hd ho; have h38 := G.h (j := 6) (d := 38) rfl (by decide) d6; refine step_open rfl ?_; clear G; exact step_run (v := (.bool false)) (by go_simp) rfl
        | 8 => intro ho hd; obtain rfl := (Option.some.inj ho).symm; have d7 : vs 7 = (.bool false) := hd ⟨7, .guard⟩ (by simp) rfl; clear hd ho; refine step_yes G rfl rfl (by decide) d7 ?_; clear G; exact step_run (v := (.pointer (some ⟨w.heap.size, 2, none⟩))) (by go_simp) rfl
        | 9 => intro ho hd; obtain rfl := (Option.some.inj ho).symm; have d8 : vs 8 = (.pointer (some ⟨w.heap.size, 2, none⟩)) := hd ⟨8, .data⟩ (by simp) rfl; have d7 : vs 7 = (.bool false) := hd ⟨7, .guard⟩ (by simp) rfl; clear hd ho; have h40 := G.h (j := 8) (d := 40) rfl (by decide) d8; refine step_yes G rfl rfl (by decide) d7 ?_; clear G; exact step_run (v := (.slice (some ⟨q, off, none⟩) after.length ac)) (by go_simp) rfl
        | 10 => intro ho hd; obtain rfl := (Option.some.inj ho).symm; have d7 : vs 7 = (.bool false) := hd ⟨7, .guard⟩ (by simp) rfl; clear hd ho; refine step_yes G rfl rfl (by decide) d7 ?_; clear G; exact step_run (v := (.int .i64 (0 : Int))) (by go_simp) rfl
        | 11 => intro ho hd; obtain rfl := (Option.some.inj ho).symm; have d9 : vs 9 = (.slice (some ⟨q, off, none⟩) after.length ac) := hd ⟨9, .data⟩ (by simp) rfl; have d10 : vs 10 = (.int .i64 (0 : Int)) := hd ⟨10, .data⟩ (by simp) rfl; have d7 : vs 7 = (.bool false) := hd ⟨7, .guard⟩ (by simp) rfl; clear hd ho; have h41 := G.h (j := 9) (d := 41) rfl (by decide) d9; have h42 := G.h (j := 10) (d := 42) rfl (by decide) d10; refine step_yes G rfl rfl (by decide) d7 ?_; clear G; exact step_run (v := (.pointer (some ⟨q, off, none⟩))) (by go_simp) rfl
        | 12 => intro ho hd; obtain rfl := (Option.some.inj ho).symm; have d11 : vs 11 = (.pointer (some ⟨q, off, none⟩)) := hd ⟨11, .data⟩ (by simp) rfl; have d7 : vs 7 = (.bool false) := hd ⟨7, .guard⟩ (by simp) rfl; clear hd ho; have h43 := G.h (j := 11) (d := 43) rfl (by decide) d11; refine step_yes G rfl rfl (by decide) d7 ?_; clear G; exact step_run (v := (.string x)) (by go_simp) rfl
        | 13 => intro ho hd; obtain rfl := (Option.some.inj ho).symm; have d7 : vs 7 = (.bool false) := hd ⟨7, .guard⟩ (by simp) rfl; clear hd ho; refine step_yes G rfl rfl (by decide) d7 ?_; clear G; exact step_run (v := (.pointer (some ⟨w.heap.size, 0, none⟩))) (by go_simp) rfl
        | 14 => intro ho hd; obtain rfl := (Option.some.inj ho).symm; have d13 : vs 13 = (.pointer (some ⟨w.heap.size, 0, none⟩)) := hd ⟨13, .data⟩ (by simp) rfl; have d7 : vs 7 = (.bool false) := hd ⟨7, .guard⟩ (by simp) rfl; clear hd ho; have h45 := G.h (j := 13) (d := 45) rfl (by decide) d13; refine step_yes G rfl rfl (by decide) d7 ?_; clear G; exact step_run (v := (.string name)) (by go_simp) rfl
        | 15 => intro ho hd; obtain rfl := (Option.some.inj ho).symm; have d12 : vs 12 = (.string x) := hd ⟨12, .data⟩ (by simp) rfl; have d14 : vs 14 = (.string name) := hd ⟨14, .data⟩ (by simp) rfl; have d7 : vs 7 = (.bool false) := hd ⟨7, .guard⟩ (by simp) rfl; clear hd ho; have h44 := G.h (j := 12) (d := 44) rfl (by decide) d12; have h46 := G.h (j := 14) (d := 46) rfl (by decide) d14; refine step_yes G rfl rfl (by decide) d7 ?_; clear G; exact step_run (v := (.bool false)) (by go_simp) rfl
        | 16 => intro ho hd; obtain rfl := (Option.some.inj ho).symm; have d7 : vs 7 = (.bool false) := hd ⟨7, .data⟩ (by simp) rfl; have d15 : vs 15 = (.bool false) := hd ⟨15, .data⟩ (by simp) rfl; clear hd ho; have h39 := G.h (j := 7) (d := 39) rfl (by decide) d7; have h47 := G.h (j := 15) (d := 47) rfl (by decide) d15; refine step_open rfl ?_; clear G; exact step_run (v := (.bool false)) (by go_simp) rfl
        | n + 17 => intro ho hd; simp at ho
      · intro vs w' hb hR
        have hv16 : vs 16 = .bool false := hR 16 (by decide)
        simp only [putAll, Act.put, List.setIfInBounds_toArray, List.set_cons_succ, List.set_cons_zero]
        rw [hv16]
        have hK := keep hb hq
        have hbe := hbw.trans (hb.mono hbw.size)
        go_wp2_with fail
        go_loop [4] (fun j => j = .int .i64 0) (fun _ => 0)
        case atStart => rfl
        case round =>
          obtain rfl := hrel
          go_wp2
          go_roundw
          case rel => exact ⟨1, by omega, by go_num, hK, hbe⟩
          case measure => simp [intOf]; omega
    · obtain rfl : k = after.length := by omega
      have p3 := cell_at hq 3
      have p4 := cell_at hq 4
      simp at p3 p4
      go_wp2_with fail
      refine (is10_any al _ hal1.1 hal1.2).mono ?_
      rintro e w1 ⟨rfl, hb1⟩
      rw [hs2]
      have hq1 := keep hb1 hq
      have hbe1 := hbw.trans (hb1.mono hbw.size)
      have p4 := cell_at hq1 4
      simp at p4
      have hlz1 := lt_some hq1
      clear p2 p3 hb1 hq hbw hlz
      go_wp2_with fail
      refine (is10_any 0 _ (by decide) (by decide)).mono ?_
      rintro e w2 ⟨rfl, hb2⟩
      rw [hs0]
      have hq2 := keep hb2 hq1
      have hbe2 := hbe1.trans (hb2.mono hbe1.size)
      have p3 := cell_at hq2 3
      simp at p3
      have hlz2 := lt_some hq2
      clear p4 hb2 hq1 hbe1 hlz1
      go_wp2_with fail
      refine (bits10_any al _ hal1.1 hal1.2).mono ?_
      rintro e w3 ⟨rfl, hb3⟩
      have hq3 := keep hb3 hq2
      have hbe3 := hbe2.trans (hb3.mono hbe2.size)
      have hlz3 := lt_some hq3
      clear p3 hb3 hq2 hbe2 hlz2
      have hsB : ∀ s, (bitsV s).size = 32 := fun s => by simp [bitsV, bitsK_len]
      have hi : ∀ s, (Tryz.prog.info? 185).map (·.size) = some (bitsV s).size := fun s => by rw [hsB s]; exact Tryz.size185
      have hz2 : ∀ s, zerosB.size = (bitsV s).size := fun s => by rw [hsB s]; rfl
      have hu3 := heap_alloc_new w3 (.cells zerosB 185)
      have hU3 := setRow_heap _ w3.heap.size zerosB (bitsV al) _ _ hu3
      have hQ3 := (setRow_other (w3.alloc (.cells zerosB 185)) w3.heap.size w.heap.size (bitsV al) (by omega)).trans (keepA (.cells zerosB 185) hq3)
      have hB3 : Below w.heap.size w ((w3.alloc (.cells zerosB 185)).setRow w3.heap.size (bitsV al)) := below_setRow (hbe3.alloc hbe3.size _) hbe3.size _
      have p4 := cell_at hQ3 4
      have hS3 := Lib.hid (And.intro hu3 (And.intro (hi al) (hz2 al)))
      have HU3 := Lib.hid (And.intro hU3 (And.intro hQ3 hB3))
      clear hu3 hU3 hQ3 hB3 hbe3 hq3
      simp at p4
      go_wp2_with (first | (refine wpList_store_row rfl 185 (.tmp 5) (.tmp 77) rfl w3.heap.size (bitsV al) rfl rfl 185 zerosB hS3.out.1 hS3.out.2.1 hS3.out.2.2 (bitsK_one al 32) ?_; rw [zerosBV]; clear hS3; generalize (w3.alloc (.cells zerosB 185)).setRow w3.heap.size (bitsV al) = W3 at *))
      refine (bits10_any 0 _ (by decide) (by decide)).mono ?_
      rintro e w4 ⟨rfl, hb4⟩
      have hU4 := keep hb4 HU3.out.1
      have hQ4 := keep hb4 HU3.out.2.1
      have hB4 := HU3.out.2.2.trans (hb4.mono HU3.out.2.2.size)
      generalize w3.heap.size = u3 at *
      have hl3 := lt_some hU4
      have hlq := lt_some hQ4
      clear HU3 p4 hb4
      have hu5 := heap_alloc_new w4 (.cells zerosB 185)
      have hU5 := setRow_heap _ w4.heap.size zerosB (bitsV 0) _ _ hu5
      have hA5 := (setRow_other (w4.alloc (.cells zerosB 185)) w4.heap.size u3 (bitsV 0) (by omega)).trans (keepA (.cells zerosB 185) hU4)
      have hQ5 := (setRow_other (w4.alloc (.cells zerosB 185)) w4.heap.size w.heap.size (bitsV 0) (by omega)).trans (keepA (.cells zerosB 185) hQ4)
      have hB5 : Below w.heap.size w ((w4.alloc (.cells zerosB 185)).setRow w4.heap.size (bitsV 0)) := below_setRow (hB4.alloc hB4.size _) hB4.size _
      have hS5 := Lib.hid (And.intro hu5 (And.intro (hi 0) (hz2 0)))
      have HU5 := Lib.hid (And.intro hU5 (And.intro hA5 (And.intro hQ5 hB5)))
      clear hu5 hU5 hQ5 hB5 hA5 hU4 hQ4 hB4 hi hz2 hsB
      go_wp2_with (first | (refine wpList_store_row rfl 185 (.tmp 6) (.tmp 80) rfl w4.heap.size (bitsV 0) rfl rfl 185 zerosB hS5.out.1 hS5.out.2.1 hS5.out.2.2 (bitsK_one 0 32) ?_; rw [zerosBV]; clear hS5; generalize (w4.alloc (.cells zerosB 185)).setRow w4.heap.size (bitsV 0) = W5 at *))
      obtain ⟨hU5, hA5, hQ5, hB5⟩ := HU5.out
      generalize w4.heap.size = u4 at *
      clear HU5 hl3 hlq
      go_loop [7] (fun i => ∃ k : Nat, k ≤ 32 ∧ i = .int .i64 k) (fun i => 32 - (intOf i).toNat)
      case atStart => exact ⟨0, by omega, rfl⟩
      case round =>
        obtain ⟨k, hk, rfl⟩ := hrel
        by_cases hlt : k < 32
        · have c1 := (cell_at hA5 k).trans (bitsV_get al hlt)
          have c2 := (cell_at hU5 k).trans (bitsV_get 0 hlt)
          rw [bit_zero] at c2
          have i1 : (0 : Int) ≤ (k : Int) := by omega
          have i2 : (k : Int) < 32 := by omega
          have hl5 := lt_some hA5
          have hl6 := lt_some hU5
          cases hb : bitAt al k <;> rw [hb] at c1
          all_goals
            clear hb
            go_wp2_with fail
            go_round
            case rel => exact ⟨k + 1, by omega, by go_num⟩
            case measure => simp [intOf]; omega
        · obtain rfl : k = 32 := by omega
          have p5 := cell_at hQ5 5
          simp at p5
          have hlz := lt_some hQ5
          go_wp2_with fail
          go_loopw [8] (fun i wr => ∃ (k : Nat), k ≤ code.length ∧ i = .int .i64 k ∧ wr.heap[w.heap.size]? = some (.cells #[.string name, .int .i64 0, .slice aa after.length ac, .int .u32 al, .int .u32 0, .slice ca code.length cc] 81 (0, 0)) ∧ Below w.heap.size w wr) (fun i _ => code.length - (intOf i).toNat)
          case atStart => exact ⟨0, Nat.zero_le _, rfl, hQ5, hB5⟩
          case round =>
            obtain ⟨k, hk, rfl, hq, hbw⟩ := hrel
            clear hA5 hU5 hQ5 hB5 p5 hlz
            have p5 := cell_at hq 5
            have hlz := lt_some hq
            simp at p5
            by_cases hlt : k < code.length
            · have hx := List.getElem?_eq_getElem hlt
              generalize code[k] = x at *
              have hxo := all_mem HC.out hx
              obtain ⟨q, off, rfl, hqb, e0, e1, e2, e3, e4⟩ := HCR.out k x hx
              have d := fun o => hbw.cell (p := ⟨q, o, none⟩) hqb
              have c0 := (d _).trans e0
              have c1 := (d _).trans e1
              have c2 := (d _).trans e2
              have c3 := (d _).trans e3
              have c4 := (d _).trans e4
              have hqW : q < wr.heap.size := by have := hbw.size; omega
              clear d e0 e1 e2 e3 e4
              go_upto_region 31 with (fail)
              refine wp_region_frame (by kernel_rfl) (by kernel_rfl) (by kernel_rfl) (byList (c22b_list w.heap.size q off code.length cc k x)) (lasts_list (c22b_list_lasts w.heap.size q off code.length cc k x)) ?_ ?_
              · intro vs w' iq o A F hb ho hd
                have m1 : A.tmps[1]?.getD undef = (.pointer (some ⟨w.heap.size, 0, none⟩)) := F.m (by kernel_rfl) rfl
                have m8 : A.tmps[8]?.getD undef = (.int .i64 (k : Int)) := F.m (by kernel_rfl) rfl
                have G := F.light (n := 114) (by kernel_rfl)
                clear F
                have hK := keep hb hq
                have s5 := cell_at hK 5
                have d := fun o => hb.cell (p := ⟨q, o, none⟩) hqW
                have d0 := (d _).trans c0
                have d1 := (d _).trans c1
                have d2 := (d _).trans c2
                have d3 := (d _).trans c3
                have d4 := (d _).trans c4
                simp at s5
                clear hb hK d
                revert ho hd
                match iq with
                | 0 => intro ho hd; obtain rfl := (Option.some.inj ho).symm; clear hd ho; refine step_open rfl ?_; clear G; exact step_run (v := (.pointer (some ⟨w.heap.size, 5, none⟩))) (by go_simp) rfl
                | 1 => intro ho hd; obtain rfl := (Option.some.inj ho).symm; have d0 : vs 0 = (.pointer (some ⟨w.heap.size, 5, none⟩)) := hd ⟨0, .data⟩ (by simp) rfl; clear hd ho; have h104 := G.h (j := 0) (d := 104) rfl (by decide) d0; refine step_open rfl ?_; clear G; exact step_run (v := (.slice (some ⟨q, off, none⟩) code.length cc)) (by go_simp) rfl
                | 2 => intro ho hd; obtain rfl := (Option.some.inj ho).symm; clear hd ho; refine step_open rfl ?_; clear G; exact step_run (v := (.int .i64 (k : Int))) (by go_simp) rfl
                | 3 => intro ho hd; obtain rfl := (Option.some.inj ho).symm; have d1 : vs 1 = (.slice (some ⟨q, off, none⟩) code.length cc) := hd ⟨1, .data⟩ (by simp) rfl; have d2 : vs 2 = (.int .i64 (k : Int)) := hd ⟨2, .data⟩ (by simp) rfl; clear hd ho; have h105 := G.h (j := 1) (d := 105) rfl (by decide) d1; have h106 := G.h (j := 2) (d := 106) rfl (by decide) d2; refine step_open rfl ?_; clear G; exact step_run (v := (.pointer (some ⟨q, off + k * 5, none⟩))) (by go_simp) rfl
                | 4 => intro ho hd; obtain rfl := (Option.some.inj ho).symm; have d3 : vs 3 = (.pointer (some ⟨q, off + k * 5, none⟩)) := hd ⟨3, .data⟩ (by simp) rfl; clear hd ho; have h107 := G.h (j := 3) (d := 107) rfl (by decide) d3; refine step_open rfl ?_; clear G; exact step_run (v := (opV x)) (by unfold opV; go_simp) rfl
                | 5 => intro ho hd; obtain rfl := (Option.some.inj ho).symm; clear hd ho; refine step_open rfl ?_; clear G; exact step_run (v := (.pointer (some ⟨w.heap.size, 5, none⟩))) (by go_simp) rfl
                | 6 => intro ho hd; obtain rfl := (Option.some.inj ho).symm; have d5 : vs 5 = (.pointer (some ⟨w.heap.size, 5, none⟩)) := hd ⟨5, .data⟩ (by simp) rfl; clear hd ho; have h109 := G.h (j := 5) (d := 109) rfl (by decide) d5; refine step_open rfl ?_; clear G; exact step_run (v := (.slice (some ⟨q, off, none⟩) code.length cc)) (by go_simp) rfl
                | 7 => intro ho hd; obtain rfl := (Option.some.inj ho).symm; have d6 : vs 6 = (.slice (some ⟨q, off, none⟩) code.length cc) := hd ⟨6, .data⟩ (by simp) rfl; clear hd ho; have h110 := G.h (j := 6) (d := 110) rfl (by decide) d6; refine step_open rfl ?_; clear G; exact step_run (v := (.int .i64 (code.length : Int))) (by go_simp) rfl
                | 8 => intro ho hd; obtain rfl := (Option.some.inj ho).symm; have d4 : vs 4 = (opV x) := hd ⟨4, .data⟩ (by simp) rfl; have d7 : vs 7 = (.int .i64 (code.length : Int)) := hd ⟨7, .data⟩ (by simp) rfl; clear hd ho; have h108 := G.h (j := 4) (d := 108) rfl (by decide) d4; have h111 := G.h (j := 7) (d := 111) rfl (by decide) d7; refine step_open rfl ?_; clear G; go_simp; refine (good22_any x _ _ hxo).mono ?_; rintro e w2 ⟨rfl, hb2⟩; exact ⟨_, rfl, rfl, hb2⟩
                | 9 => intro ho hd; obtain rfl := (Option.some.inj ho).symm; have d8 : vs 8 = (.bool true) := hd ⟨8, .data⟩ (by simp) rfl; clear hd ho; have h112 := G.h (j := 8) (d := 112) rfl (by decide) d8; refine step_open rfl ?_; clear G; exact step_run (v := (.bool false)) (by go_simp) rfl
                | n + 10 => intro ho hd; simp at ho
              · intro vs w' hb hR
                have hv9 : vs 9 = .bool false := hR 9 (by decide)
                simp only [putAll, Act.put, List.setIfInBounds_toArray, List.set_cons_succ, List.set_cons_zero]
                rw [hv9]
                have hK := keep hb hq
                have hbe := hbw.trans (hb.mono hbw.size)
                go_wp2
                go_roundw
                case rel => exact ⟨k + 1, by omega, by go_num, hK, hbe⟩
                case measure => simp [intOf]; omega
            · obtain rfl : k = code.length := by omega
              go_wp2
              go_ret
              exact ⟨rfl, hbw⟩
end Go.Proofs.YtgnilkjdpfbjgaaGreat
