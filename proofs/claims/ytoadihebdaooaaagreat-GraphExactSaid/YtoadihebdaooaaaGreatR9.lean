/- Contracts of column.Clone and table.Clone without rows, table Len, Room. -/
import Derived.Test.YtoadihebdaooaaaGreatR8
namespace Go.Proofs.YtoadihebdaooaaaGreat
open Go.RowKit
set_option linter.unusedVariables false
set_option maxRecDepth 100000 in
theorem colClone_any (cb : Nat) (size most : Int) (w : World) (h : w.heap[cb]? = some (.cells #[.int .i64 size, .int .i64 most, .int .i64 0, .slice none 0 0] 207 (0, 0))) :
    Calls Tryz.prog 86 #[.pointer (some ⟨cb, 0, none⟩)] w fun e w' => ∃ cb', e = .returned (.pointer (some ⟨cb', 0, none⟩)) ∧ w.heap.size ≤ cb' ∧ w'.heap[cb']? = some (.cells #[.int .i64 size, .int .i64 most, .int .i64 0, .slice none 0 0] 207 (0, 0)) ∧ Below w.heap.size w w' := by
  have c0 := cell_at h 0
  have c1 := cell_at h 1
  have c2 := cell_at h 2
  have c3 := cell_at h 3
  simp at c0 c1 c2 c3
  have hl := lt_some h
  have H := Lib.hid h
  clear h
  go_enter Tryz.func86, Tryz.ntmps86
  go_upto_region 5 with (fail)
  have hW := keepA (.cells #[.int .i64 size, .int .i64 most, .int .i64 0, .slice none 0 0] 207) H.out
  have hN := heap_alloc_new w (.cells #[.int .i64 size, .int .i64 most, .int .i64 0, .slice none 0 0] 207)
  have hb : Below w.heap.size w (w.alloc (.cells #[.int .i64 size, .int .i64 most, .int .i64 0, .slice none 0 0] 207)) := by go_grown
  generalize w.alloc (.cells #[.int .i64 size, .int .i64 most, .int .i64 0, .slice none 0 0] 207) = V at *
  have c3 := cell_at hW 3
  simp at c3
  have HN := Lib.hid (And.intro hN hb)
  clear hW hN hb c0 c1 c2
  go_wp2_with fail
  go_loop [17] (fun i => i = .int .i64 0) (fun _ => 0)
  case atStart => rfl
  case round =>
    obtain rfl := hrel
    go_wp2_with fail
    go_returns
    exact ⟨_, rfl, Nat.le_refl _, HN.out.1, HN.out.2⟩
theorem tlen_any (tb : Nat) (ver set most : Int) (w : World) (h : TableAt w tb ver set most) : Calls Tryz.prog 28 #[.pointer (some ⟨tb, 0, none⟩)] w fun e w' => e = .returned (.int .i64 0) ∧ w = w' := by
  obtain ⟨ca, cc, la, lc, cps, h', _⟩ := h
  have c5 := cell_at h'.blk 5
  simp at c5
  clear h'
  go_enter Tryz.func28, Tryz.ntmps28
  go_wp2_with fail
  go_returns
  exact ⟨rfl, rfl⟩
theorem troom_any (tb : Nat) (ver set most : Int) (w : World) (h : TableAt w tb ver set most) (h1 : 1 ≤ most) (h2 : most ≤ 256) : Calls Tryz.prog 29 #[.pointer (some ⟨tb, 0, none⟩)] w fun e w' => e = .returned (.int .i64 most) ∧ ∃ n, w' = w.drewN n := by
  obtain ⟨ca, cc, la, lc, cps, h', _⟩ := h
  have c3 := cell_at h'.blk 3
  have c4 := cell_at h'.blk 4
  have c5 := cell_at h'.blk 5
  simp at c3 c4 c5
  clear h'
  go_enter Tryz.func29, Tryz.ntmps29
  go_wp2_with fail
  go_quiet (fail)
  go_wp2_with fail
  go_returns
  exact ⟨by simp, _, rfl⟩
set_option maxRecDepth 100000 in
theorem entsClone_nil (w : World) : Calls Tryz.prog 81 #[.slice none 0 0] w fun e w' => e = .returned (.slice none 0 0) ∧ w = w' := by
  have hnn := fun (wx : World) (a : Option Addr) (n c : Nat) => Lib.run_eql_slice_nil (P := Tryz.prog) wx 76 61 a n c 0 0 Tryz.underlying76
  go_enter Tryz.func81, Tryz.ntmps81
  go_wp2_with fail
  go_returns
  exact ⟨rfl, rfl⟩
def onesR : List (Value → World → Prop) :=
  [ IsV (.int .u32 0),
    IsV (.int .u32 0),
    IsV (.int .u8 0),
    IsV (.int .u32 0),
    IsV (.int .u32 0),
    IsV (.int .u32 0),
    IsV (.int .u8 0),
    IsV (.int .u8 0),
    IsV (.int .u32 0),
    IsV (.int .u32 0),
    IsV (.int .u32 0),
    IsV (.int .u8 0),
    IsV (.int .u8 0),
    IsV (.int .u32 0),
    IsV (.int .u32 0),
    IsV (.int .u8 0),
    IsV (.int .u8 0),
    IsV (.int .i64 0),
    IsV (.int .i64 0) ]
theorem onesR_lasts : ∀ p ∈ onesR, Lasts p := by
  simp only [onesR, List.mem_cons, List.not_mem_nil, or_false]
  rintro p (rfl | rfl | rfl | rfl | rfl | rfl | rfl | rfl | rfl | rfl | rfl | rfl | rfl | rfl | rfl | rfl | rfl | rfl | rfl) <;> exact lasts_v _
set_option maxRecDepth 100000 in
set_option maxHeartbeats 1000000 in
theorem ones_zero (w : World) : Calls Tryz.prog 157 #[.int .u32 0] w fun e w' => e = .returned (.int .i64 0) ∧ Below w.heap.size w w' := by
  go_enter Tryz.func157, Tryz.ntmps157
  go_wp2_with fail
  refine wp_region_grow (by kernel_rfl) (by kernel_rfl) (by kernel_rfl) (byList onesR) (lasts_list onesR_lasts) ?_ ?_
  · intro vs w1' i o hb ho hd
    simp only [putAll, Act.put, List.setIfInBounds_toArray, List.set_cons_succ, List.set_cons_zero]
    clear hb
    revert ho hd
    match i with
      | 0 =>
        intro ho hd
        obtain rfl := (Option.some.inj ho).symm
        clear hd ho
        refine step_open rfl ?_
        go_simp
        exact ⟨rfl, Below.refl _ _⟩
      | 1 =>
        intro ho hd
        obtain rfl := (Option.some.inj ho).symm
        have d0 : vs 0 = (.int .u32 0) := hd ⟨0, .data⟩ (by simp) rfl
        clear hd ho
        rw [d0]
        refine step_open rfl ?_
        go_simp
        exact ⟨rfl, Below.refl _ _⟩
      | 2 =>
        intro ho hd
        obtain rfl := (Option.some.inj ho).symm
        have d1 : vs 1 = (.int .u32 0) := hd ⟨1, .data⟩ (by simp) rfl
        clear hd ho
        rw [d1]
        exact step_value rfl (by kernel_rfl) rfl
      | 3 =>
        intro ho hd
        obtain rfl := (Option.some.inj ho).symm
        clear hd ho
        refine step_open rfl ?_
        go_simp
        exact ⟨rfl, Below.refl _ _⟩
      | 4 =>
        intro ho hd
        obtain rfl := (Option.some.inj ho).symm
        have d3 : vs 3 = (.int .u32 0) := hd ⟨3, .data⟩ (by simp) rfl
        clear hd ho
        rw [d3]
        refine step_open rfl ?_
        go_simp
        exact ⟨rfl, Below.refl _ _⟩
      | 5 =>
        intro ho hd
        obtain rfl := (Option.some.inj ho).symm
        have d4 : vs 4 = (.int .u32 0) := hd ⟨4, .data⟩ (by simp) rfl
        clear hd ho
        rw [d4]
        refine step_open rfl ?_
        go_simp
        exact ⟨rfl, Below.refl _ _⟩
      | 6 =>
        intro ho hd
        obtain rfl := (Option.some.inj ho).symm
        have d5 : vs 5 = (.int .u32 0) := hd ⟨5, .data⟩ (by simp) rfl
        clear hd ho
        rw [d5]
        exact step_value rfl (by kernel_rfl) rfl
      | 7 =>
        intro ho hd
        obtain rfl := (Option.some.inj ho).symm
        have d2 : vs 2 = (.int .u8 0) := hd ⟨2, .data⟩ (by simp) rfl
        have d6 : vs 6 = (.int .u8 0) := hd ⟨6, .data⟩ (by simp) rfl
        clear hd ho
        rw [d2, d6]
        refine step_open rfl ?_
        go_simp
        exact ⟨rfl, Below.refl _ _⟩
      | 8 =>
        intro ho hd
        obtain rfl := (Option.some.inj ho).symm
        clear hd ho
        refine step_open rfl ?_
        go_simp
        exact ⟨rfl, Below.refl _ _⟩
      | 9 =>
        intro ho hd
        obtain rfl := (Option.some.inj ho).symm
        have d8 : vs 8 = (.int .u32 0) := hd ⟨8, .data⟩ (by simp) rfl
        clear hd ho
        rw [d8]
        refine step_open rfl ?_
        go_simp
        exact ⟨rfl, Below.refl _ _⟩
      | 10 =>
        intro ho hd
        obtain rfl := (Option.some.inj ho).symm
        have d9 : vs 9 = (.int .u32 0) := hd ⟨9, .data⟩ (by simp) rfl
        clear hd ho
        rw [d9]
        refine step_open rfl ?_
        go_simp
        exact ⟨rfl, Below.refl _ _⟩
      | 11 =>
        intro ho hd
        obtain rfl := (Option.some.inj ho).symm
        have d10 : vs 10 = (.int .u32 0) := hd ⟨10, .data⟩ (by simp) rfl
        clear hd ho
        rw [d10]
        exact step_value rfl (by kernel_rfl) rfl
      | 12 =>
        intro ho hd
        obtain rfl := (Option.some.inj ho).symm
        have d7 : vs 7 = (.int .u8 0) := hd ⟨7, .data⟩ (by simp) rfl
        have d11 : vs 11 = (.int .u8 0) := hd ⟨11, .data⟩ (by simp) rfl
        clear hd ho
        rw [d7, d11]
        refine step_open rfl ?_
        go_simp
        exact ⟨rfl, Below.refl _ _⟩
      | 13 =>
        intro ho hd
        obtain rfl := (Option.some.inj ho).symm
        clear hd ho
        refine step_open rfl ?_
        go_simp
        exact ⟨rfl, Below.refl _ _⟩
      | 14 =>
        intro ho hd
        obtain rfl := (Option.some.inj ho).symm
        have d13 : vs 13 = (.int .u32 0) := hd ⟨13, .data⟩ (by simp) rfl
        clear hd ho
        rw [d13]
        refine step_open rfl ?_
        go_simp
        exact ⟨rfl, Below.refl _ _⟩
      | 15 =>
        intro ho hd
        obtain rfl := (Option.some.inj ho).symm
        have d14 : vs 14 = (.int .u32 0) := hd ⟨14, .data⟩ (by simp) rfl
        clear hd ho
        rw [d14]
        exact step_value rfl (by kernel_rfl) rfl
      | 16 =>
        intro ho hd
        obtain rfl := (Option.some.inj ho).symm
        have d12 : vs 12 = (.int .u8 0) := hd ⟨12, .data⟩ (by simp) rfl
        have d15 : vs 15 = (.int .u8 0) := hd ⟨15, .data⟩ (by simp) rfl
        clear hd ho
        rw [d12, d15]
        refine step_open rfl ?_
        go_simp
        exact ⟨rfl, Below.refl _ _⟩
      | 17 =>
        intro ho hd
        obtain rfl := (Option.some.inj ho).symm
        have d16 : vs 16 = (.int .u8 0) := hd ⟨16, .data⟩ (by simp) rfl
        clear hd ho
        rw [d16]
        refine step_open rfl ?_
        go_simp
        exact ⟨rfl, Below.refl _ _⟩
      | 18 =>
        intro ho hd
        obtain rfl := (Option.some.inj ho).symm
        have d17 : vs 17 = (.int .i64 0) := hd ⟨17, .data⟩ (by simp) rfl
        clear hd ho
        rw [d17]
        refine step_open rfl ?_
        go_simp
        exact ⟨rfl, Below.refl _ _⟩
      | n + 19 =>
        intro ho hd
        simp at ho
  · intro vs w1' hb hR
    have hv : vs 18 = .int .i64 0 := hR 18 (by simp)
    simp only [putAll, Act.put, List.setIfInBounds_toArray, List.set_cons_succ, List.set_cons_zero]
    rw [hv]
    clear hR hv
    go_wp2_with fail
    go_returns
    exact ⟨rfl, hb⟩
set_option maxRecDepth 100000 in
theorem sigLen_zero (w : World) : Calls Tryz.prog 131 #[.int .u32 0] w fun e w' => e = .returned (.int .i64 0) ∧ Below w.heap.size w w' := by
  go_enter Tryz.func131, Tryz.ntmps131
  go_wp2_with fail
  refine (ones_zero _).mono ?_
  rintro e w' ⟨rfl, hb⟩
  go_wp2_with fail
  go_returns
  exact ⟨rfl, hb⟩
set_option maxRecDepth 100000 in
theorem sigOf_nil (w : World) : Calls Tryz.prog 130 #[.slice none 0 0] w fun e w' => e = .returned (.tuple #[.int .u32 0, .int .i64 0]) ∧ w = w' := by
  go_enter Tryz.func130, Tryz.ntmps130
  go_wp2_with fail
  go_loop [4, 9] (fun s i => s = .int .u32 0 ∧ i = .int .i64 0) (fun _ _ => 0)
  case atStart => exact ⟨rfl, rfl⟩
  case round =>
    obtain ⟨rfl, rfl⟩ := hrel
    go_wp2_with fail
    go_returns
    exact ⟨rfl, rfl⟩
set_option maxRecDepth 100000 in
theorem parts_nil (w : World) : Calls Tryz.prog 101 #[.slice none 0 0] w fun e w' => e = .returned (.tuple #[.int .u32 0, .int .i64 0]) ∧ Below w.heap.size w w' := by
  go_enter Tryz.func101, Tryz.ntmps101
  go_wp2_with fail
  go_loop [4, 11] (fun s i => s = .slice none 0 0 ∧ i = .int .i64 0) (fun _ _ => 0)
  case atStart => exact ⟨rfl, rfl⟩
  case round =>
    obtain ⟨rfl, rfl⟩ := hrel
    go_wp2_with fail
    refine (sigOf_nil _).mono ?_
    rintro e w' ⟨rfl, rfl⟩
    go_wp2_with fail
    refine (sigLen_zero _).mono ?_
    rintro e w' ⟨rfl, hb⟩
    go_wp2_with fail
    go_returns
    exact ⟨rfl, hb⟩
set_option maxRecDepth 100000 in
set_option maxHeartbeats 1000000 in
theorem checkParts_nil (ver : Int) (a : Option Addr) (len cap : Nat) (w : World) : Calls Tryz.prog 102 #[.agg #[.int .i64 ver, .slice a len cap], .slice none 0 0] w fun e w' => e = .returned (.int .i64 0) ∧ Below w.heap.size w w' := by
  have hb : Below w.heap.size w (w.alloc (.cells #[.int .i64 ver, .slice a len cap] 24)) := by go_grown
  have HB := Lib.hid hb
  clear hb
  go_enter Tryz.func102, Tryz.ntmps102
  go_wp2_with fail
  go_loop [10] (fun i => i = .int .i64 0) (fun _ => 0)
  case atStart => rfl
  case round =>
    obtain rfl := hrel
    go_wp2_with fail
    go_returns
    exact ⟨rfl, HB.out⟩
end Go.Proofs.YtoadihebdaooaaaGreat
