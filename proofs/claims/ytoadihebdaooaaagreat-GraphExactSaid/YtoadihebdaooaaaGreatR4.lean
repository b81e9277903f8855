/- Contracts of retrofitref07.Fields, Comp, Same where both are the same. -/
import Derived.Test.YtoadihebdaooaaaGreatR3
import Derived.Test.YtoadihebdaooaaaGreatH1
import Derived.Laws.StructEq
namespace Go.Proofs.YtoadihebdaooaaaGreat
open Go.RowKit
set_option linter.unusedVariables false
set_option maxRecDepth 100000 in
set_option maxHeartbeats 1000000 in
theorem fields07_eq (fs : List Fld) (a a' : Option Addr) (len cap cap' : Nat) (w : World) (h1 : FieldsAt w.heap.size w a len fs) (h2 : FieldsAt w.heap.size w a' len fs) :
    Calls Tryz.prog 114 #[.slice a len cap, .slice a' len cap'] w fun e w' => e = .returned (.bool true) ∧ Below w.heap.size w w' := by
  have hmx : len ≤ maxLen := h1.2.1
  unfold maxLen at hmx
  go_enter Tryz.func114, Tryz.ntmps114
  go_wp2_with fail
  go_loopw [5] (fun i wr => ∃ k : Nat, k ≤ len ∧ i = .int .i64 k ∧ Below w.heap.size w wr) (fun i _ => len - (intOf i).toNat)
  case atStart => exact ⟨0, by omega, rfl, Below.refl _ _⟩
  case round =>
    obtain ⟨k, hk, rfl, hbw⟩ := hrel
    by_cases hlt : k < len
    · obtain ⟨b, off, f, rfl, hB, hf, c0, c1, c2⟩ := h1.get hbw hlt
      obtain ⟨b', off', f', rfl, hB', hf', d0, d1, d2⟩ := h2.get hbw hlt
      obtain rfl : f' = f := by rw [hf] at hf'; exact (Option.some.inj hf').symm
      have i1 : (0 : Int) ≤ (k : Int) := by omega
      have i2 : (k : Int) < (len : Int) := by omega
      have HBW := Lib.hid hbw
      clear hbw hf hf'
      go_wp2_with fail
      go_quiet (fail)
      go_wp2_with fail
      go_roundw
      case rel => exact ⟨k + 1, by omega, by go_num, below_drewN HBW.out _⟩
      case measure => simp [intOf]; omega
    · obtain rfl : k = len := by omega
      have HBW := Lib.hid hbw
      clear hbw
      go_wp2_with fail
      go_returns
      exact ⟨rfl, HBW.out⟩
set_option maxRecDepth 100000 in
set_option maxHeartbeats 1000000 in
theorem comp07_eq (c : Cmp) (a a' : Option Addr) (fl fc fl' fc' : Nat) (w : World) (h1 : FieldsAt w.heap.size w a fl c.fields) (h2 : FieldsAt w.heap.size w a' fl' c.fields) :
    Calls Tryz.prog 71 #[.agg #[.int .i64 c.id, .string c.name, .slice a fl fc], .agg #[.int .i64 c.id, .string c.name, .slice a' fl' fc']] w fun e w' => e = .returned (.bool true) ∧ Below w.heap.size w w' := by
  obtain rfl : fl' = fl := by rw [← h1.1, ← h2.1]
  have hbel0 : Below w.heap.size w ((w.alloc (.cells #[.int .i64 c.id, .string c.name, .slice a fl' fc] 112)).alloc (.cells #[.int .i64 c.id, .string c.name, .slice a' fl' fc'] 112)) := by go_grown
  have hx := keepA (.cells #[.int .i64 c.id, .string c.name, .slice a' fl' fc'] 112) (heap_alloc_new w (.cells #[.int .i64 c.id, .string c.name, .slice a fl' fc] 112))
  have hy := heap_alloc_new (w.alloc (.cells #[.int .i64 c.id, .string c.name, .slice a fl' fc] 112)) (.cells #[.int .i64 c.id, .string c.name, .slice a' fl' fc'] 112)
  rw [World.size_alloc] at hy
  have H12 := Lib.hid (And.intro ((h1.below hbel0).mono hbel0.size) (And.intro ((h2.below hbel0).mono hbel0.size) (And.intro hbel0 (And.intro hx hy))))
  clear h1 h2 hbel0 hx hy
  go_enter Tryz.func71, Tryz.ntmps71
  go_upto_region 1 with (fail)
  obtain ⟨h1, h2, hbel, hx, hy⟩ := H12.out
  clear H12
  generalize (w.alloc (.cells #[.int .i64 c.id, .string c.name, .slice a fl' fc] 112)).alloc (.cells #[.int .i64 c.id, .string c.name, .slice a' fl' fc'] 112) = V at *
  have x0 := cell_at hx 0
  have x1 := cell_at hx 1
  have x2 := cell_at hx 2
  have y0 := cell_at hy 0
  have y1 := cell_at hy 1
  have y2 := cell_at hy 2
  simp at x0 x1 x2 y0 y1 y2
  have HF := Lib.hid (And.intro h1 (And.intro h2 hbel))
  clear h1 h2 hbel hx hy
  go_wp2_with fail
  refine (fields07_eq c.fields _ _ _ _ _ _ HF.out.1 HF.out.2.1).mono ?_
  rintro e w2 ⟨rfl, hb2⟩
  go_wp2_with fail
  go_returns
  exact ⟨rfl, HF.out.2.2.trans (hb2.mono HF.out.2.2.size)⟩
def sameR (sx sy b off len cap b' off' cap' k : Nat) (c : Cmp) (fa ga : Option Addr) (fl fc gl gc : Nat) : List (Value → World → Prop) :=
  [ IsV (.pointer (some ⟨sx, 1, none⟩)),
    IsV (.slice (some ⟨b, off, none⟩) len cap),
    IsV (.int .i64 k),
    IsV (.pointer (some ⟨b, off + k * 3, none⟩)),
    IsV (.agg #[.int .i64 c.id, .string c.name, .slice fa fl fc]),
    IsV (.pointer (some ⟨sy, 1, none⟩)),
    IsV (.slice (some ⟨b', off', none⟩) len cap'),
    IsV (.int .i64 k),
    IsV (.pointer (some ⟨b', off' + k * 3, none⟩)),
    IsV (.agg #[.int .i64 c.id, .string c.name, .slice ga gl gc]),
    IsV (.bool true),
    IsV (.bool false) ]
theorem sameR_lasts (sx sy b off len cap b' off' cap' k : Nat) (c : Cmp) (fa ga : Option Addr) (fl fc gl gc : Nat) : ∀ p ∈ sameR sx sy b off len cap b' off' cap' k c fa ga fl fc gl gc, Lasts p := by
  simp only [sameR, List.mem_cons, List.not_mem_nil, or_false]
  rintro p (rfl | rfl | rfl | rfl | rfl | rfl | rfl | rfl | rfl | rfl | rfl | rfl) <;> exact lasts_v _
set_option maxRecDepth 100000 in
set_option maxHeartbeats 4000000 in
/-- Two schemas of equal components: 'Same' says so. -/
theorem same07_eq (ver : Int) (cs : List Cmp) (a a' : Option Addr) (len cap cap' : Nat) (w : World) (h1 : CompsAt w.heap.size w a len cs) (h2 : CompsAt w.heap.size w a' len cs) :
    Calls Tryz.prog 30 #[.agg #[.int .i64 ver, .slice a len cap], .agg #[.int .i64 ver, .slice a' len cap']] w fun e w' => e = .returned (.bool true) ∧ Below w.heap.size w w' := by
  have hmx : len ≤ maxLen := h1.2.1
  unfold maxLen at hmx
  have hbel0 : Below w.heap.size w ((w.alloc (.cells #[.int .i64 ver, .slice a len cap] 24)).alloc (.cells #[.int .i64 ver, .slice a' len cap'] 24)) := by go_grown
  have hx := keepA (.cells #[.int .i64 ver, .slice a' len cap'] 24) (heap_alloc_new w (.cells #[.int .i64 ver, .slice a len cap] 24))
  have hy := heap_alloc_new (w.alloc (.cells #[.int .i64 ver, .slice a len cap] 24)) (.cells #[.int .i64 ver, .slice a' len cap'] 24)
  rw [World.size_alloc] at hy
  have H12 := Lib.hid (And.intro ((h1.below hbel0).mono hbel0.size) (And.intro ((h2.below hbel0).mono hbel0.size) (And.intro hbel0 (And.intro hx hy))))
  clear h1 h2 hbel0 hx hy
  go_enter Tryz.func30, Tryz.ntmps30
  go_upto_region 1 with (fail)
  obtain ⟨h1, h2, hbel, hx, hy⟩ := H12.out
  clear H12
  generalize (w.alloc (.cells #[.int .i64 ver, .slice a len cap] 24)).alloc (.cells #[.int .i64 ver, .slice a' len cap'] 24) = V at *
  generalize hsy : w.heap.size + 1 = sy at *
  generalize hsx : w.heap.size = sx at *
  have HSX := Lib.hid hsx
  have x0 := cell_at hx 0
  have x1 := cell_at hx 1
  have y0 := cell_at hy 0
  have y1 := cell_at hy 1
  simp at x0 x1 y0 y1
  have HF := Lib.hid (And.intro h1 (And.intro h2 (And.intro hbel (And.intro hx hy))))
  clear h1 h2 hbel hx hy hsx hsy
  go_wp2_with fail
  clear x0 x1 y0 y1
  go_loopw [5] (fun i wr => ∃ k : Nat, k ≤ len ∧ i = .int .i64 k ∧ Below V.heap.size V wr) (fun i _ => len - (intOf i).toNat)
  case atStart => exact ⟨0, by omega, rfl, Below.refl _ _⟩
  case round =>
    obtain ⟨k, hk, rfl, hbw⟩ := hrel
    have hx := keep hbw HF.out.2.2.2.1
    have hy := keep hbw HF.out.2.2.2.2
    have x1 := cell_at hx 1
    have y1 := cell_at hy 1
    simp at x1 y1
    by_cases hlt : k < len
    · obtain ⟨b, off, c, rfl, hB, hc, c0, c1, fa, fl, fc, c2, hF, hnil⟩ := HF.out.1.get hbw hlt
      obtain ⟨b', off', c', rfl, hB', hc', d0, d1, ga, gl, gc, d2, hG, hnil'⟩ := HF.out.2.1.get hbw hlt
      obtain rfl : c' = c := by rw [hc] at hc'; exact (Option.some.inj hc').symm
      have i1 : (0 : Int) ≤ (k : Int) := by omega
      have i2 : (k : Int) < (len : Int) := by omega
      have HBW := Lib.hid hbw
      have HC := Lib.hid (And.intro x1 (And.intro y1 (And.intro c0 (And.intro c1 (And.intro c2 (And.intro d0 (And.intro d1 d2)))))))
      have hXl := lt_some hx
      have hYl := lt_some hy
      have hBl : b < wr.heap.size := World.block_lt_of_cell? wr _ c0
      have hBl' : b' < wr.heap.size := World.block_lt_of_cell? wr _ d0
      have HFG := Lib.hid (And.intro hF hG)
      clear hbw hc hc' hx hy hF hG
      go_wp2_with fail
      clear x1 y1 c0 c1 c2 d0 d1 d2
      refine wp_region_grow (by kernel_rfl) (by kernel_rfl) (by kernel_rfl) (byList (sameR sx sy b off len cap b' off' cap' k c' fa ga fl fc gl gc)) (lasts_list (sameR_lasts sx sy b off len cap b' off' cap' k c' fa ga fl fc gl gc)) ?_ ?_
      · intro vs w1' i o hb ho hd
        simp only [putAll, Act.put, List.setIfInBounds_toArray, List.set_cons_succ, List.set_cons_zero]
        obtain ⟨x1, y1, c0, c1, c2, d0, d1, d2⟩ := HC.out
        have x1 := (hb.cell (p := ⟨sx, 1, none⟩) hXl).trans x1
        have y1 := (hb.cell (p := ⟨sy, 1, none⟩) hYl).trans y1
        have c0 := (hb.cell (p := ⟨b, _, none⟩) hBl).trans c0
        have c1 := (hb.cell (p := ⟨b, _, none⟩) hBl).trans c1
        have c2 := (hb.cell (p := ⟨b, _, none⟩) hBl).trans c2
        have d0 := (hb.cell (p := ⟨b', _, none⟩) hBl').trans d0
        have d1 := (hb.cell (p := ⟨b', _, none⟩) hBl').trans d1
        have d2 := (hb.cell (p := ⟨b', _, none⟩) hBl').trans d2
        have HW1 : Hid (FieldsAt w1'.heap.size w1' fa fl c'.fields ∧ FieldsAt w1'.heap.size w1' ga gl c'.fields) := Lib.hid ⟨(HFG.out.1.below (hb.mono HBW.out.size)).mono (Nat.le_trans HBW.out.size hb.size), (HFG.out.2.below (hb.mono HBW.out.size)).mono (Nat.le_trans HBW.out.size hb.size)⟩
        clear hb
        revert ho hd
        match i with
        | 0 =>
          intro ho hd
          obtain rfl := (Option.some.inj ho).symm
          clear hd ho
          refine step_open rfl ?_
          go_simp
          exact ⟨rfl, Below.refl _ _⟩
        | 1 =>
          intro ho hd
          obtain rfl := (Option.some.inj ho).symm
          have d0 : vs 0 = (.pointer (some ⟨sx, 1, none⟩)) := hd ⟨0, .data⟩ (by simp) rfl
          clear hd ho
          rw [d0]
          refine step_open rfl ?_
          go_simp
          exact ⟨rfl, Below.refl _ _⟩
        | 2 =>
          intro ho hd
          obtain rfl := (Option.some.inj ho).symm
          clear hd ho
          refine step_open rfl ?_
          go_simp
          exact ⟨rfl, Below.refl _ _⟩
        | 3 =>
          intro ho hd
          obtain rfl := (Option.some.inj ho).symm
          have d1 : vs 1 = (.slice (some ⟨b, off, none⟩) len cap) := hd ⟨1, .data⟩ (by simp) rfl
          have d2 : vs 2 = (.int .i64 k) := hd ⟨2, .data⟩ (by simp) rfl
          clear hd ho
          rw [d1, d2]
          refine step_open rfl ?_
          go_simp
          exact ⟨rfl, Below.refl _ _⟩
        | 4 =>
          intro ho hd
          obtain rfl := (Option.some.inj ho).symm
          have d3 : vs 3 = (.pointer (some ⟨b, off + k * 3, none⟩)) := hd ⟨3, .data⟩ (by simp) rfl
          clear hd ho
          rw [d3]
          refine step_open rfl ?_
          go_simp
          exact ⟨rfl, Below.refl _ _⟩
        | 5 =>
          intro ho hd
          obtain rfl := (Option.some.inj ho).symm
          clear hd ho
          refine step_open rfl ?_
          go_simp
          exact ⟨rfl, Below.refl _ _⟩
        | 6 =>
          intro ho hd
          obtain rfl := (Option.some.inj ho).symm
          have d5 : vs 5 = (.pointer (some ⟨sy, 1, none⟩)) := hd ⟨5, .data⟩ (by simp) rfl
          clear hd ho
          rw [d5]
          refine step_open rfl ?_
          go_simp
          exact ⟨rfl, Below.refl _ _⟩
        | 7 =>
          intro ho hd
          obtain rfl := (Option.some.inj ho).symm
          clear hd ho
          refine step_open rfl ?_
          go_simp
          exact ⟨rfl, Below.refl _ _⟩
        | 8 =>
          intro ho hd
          obtain rfl := (Option.some.inj ho).symm
          have d6 : vs 6 = (.slice (some ⟨b', off', none⟩) len cap') := hd ⟨6, .data⟩ (by simp) rfl
          have d7 : vs 7 = (.int .i64 k) := hd ⟨7, .data⟩ (by simp) rfl
          clear hd ho
          rw [d6, d7]
          refine step_open rfl ?_
          go_simp
          exact ⟨rfl, Below.refl _ _⟩
        | 9 =>
          intro ho hd
          obtain rfl := (Option.some.inj ho).symm
          have d8 : vs 8 = (.pointer (some ⟨b', off' + k * 3, none⟩)) := hd ⟨8, .data⟩ (by simp) rfl
          clear hd ho
          rw [d8]
          refine step_open rfl ?_
          go_simp
          exact ⟨rfl, Below.refl _ _⟩
        | 10 =>
          intro ho hd
          obtain rfl := (Option.some.inj ho).symm
          have d4 : vs 4 = (.agg #[.int .i64 c'.id, .string c'.name, .slice fa fl fc]) := hd ⟨4, .data⟩ (by simp) rfl
          have d9 : vs 9 = (.agg #[.int .i64 c'.id, .string c'.name, .slice ga gl gc]) := hd ⟨9, .data⟩ (by simp) rfl
          clear hd ho
          rw [d4, d9]
          refine step_open rfl ?_
          go_simp
          refine (comp07_eq c' _ _ _ _ _ _ _ HW1.out.1 HW1.out.2).mono ?_
          rintro e w2 ⟨rfl, hb2⟩
          exact ⟨rfl, hb2⟩
        | 11 =>
          intro ho hd
          obtain rfl := (Option.some.inj ho).symm
          have d10 : vs 10 = (.bool true) := hd ⟨10, .data⟩ (by simp) rfl
          clear hd ho
          rw [d10]
          refine step_open rfl ?_
          go_simp
          exact ⟨rfl, Below.refl _ _⟩
        | n + 12 =>
          intro ho hd
          simp at ho
      · intro vs w1' hb hR
        have hv : vs 11 = .bool false := hR 11 (by simp)
        have HB2 := Lib.hid (HBW.out.trans (hb.mono HBW.out.size))
        simp only [putAll, Act.put, List.setIfInBounds_toArray, List.set_cons_succ, List.set_cons_zero]
        rw [hv]
        clear hR hb hv
        go_wp2_with fail
        go_roundw
        case rel => exact ⟨k + 1, by omega, by go_num, HB2.out⟩
        case measure => simp [intOf]; omega
    · obtain rfl : k = len := by omega
      have HBW := Lib.hid (HF.out.2.2.1.trans (hbw.mono (by have := HF.out.2.2.1.size; rw [HSX.out] at this; exact this)))
      clear hbw
      go_wp2_with fail
      go_returns
      exact ⟨rfl, by rw [HSX.out]; exact HBW.out⟩
end Go.Proofs.YtoadihebdaooaaaGreat
