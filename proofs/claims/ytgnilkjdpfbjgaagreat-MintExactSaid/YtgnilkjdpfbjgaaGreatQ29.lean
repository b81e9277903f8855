/- Contracts of retrofitref07.Fields, Comp, Same where both are the same. · MintExact: its walk. Printed by mkPG.py out of PG.in. -/
import Derived.Test.YtgnilkjdpfbjgaaGreatQ19
import Derived.Test.YtgnilkjdpfbjgaaGreatQ3
import Derived.Laws.StructEq
import Derived.Test.YtgnilkjdpfbjgaaGreatQ28
namespace Go.Proofs.YtgnilkjdpfbjgaaGreat
open Go.RowKit
set_option linter.unusedVariables false
set_option maxRecDepth 100000 in
set_option maxHeartbeats 1000000 in
theorem fields07_eq (fs : List Fld) (a a' : Option Addr) (len cap cap' : Nat) (w : World) (h1 : FieldsAt w.heap.size w a len fs) (h2 : FieldsAt w.heap.size w a' len fs) :
    Calls Tryz.prog 40 #[.slice a len cap, .slice a' len cap'] w fun e w' => e = .returned (.bool true) ∧ Below w.heap.size w w' := by
  have hmx : len ≤ maxLen := h1.2.1
  unfold maxLen at hmx
  go_enter Tryz.func40, Tryz.ntmps40
  go_wp2_with fail
  go_loopw [5] (fun i wr => ∃ k : Nat, k ≤ len ∧ i = .int .i64 k ∧ Below w.heap.size w wr) (fun i _ => len - (intOf i).toNat)
  case atStart => exact ⟨0, by omega, rfl, Below.refl _ _⟩
  case round =>
    obtain ⟨k, hk, rfl, hbw⟩ := hrel
    by_cases hlt : k < len
    · obtain ⟨b, off, f, rfl, hB, hf, c0, c1, c2⟩ := h1.get hbw hlt
      obtain ⟨b', off', f', rfl, hB', hf', d0, d1, d2⟩ := h2.get hbw hlt
      obtain rfl : f' = f := by rw [hf] at hf'; exact (Option.some.inj hf').symm
      have i1 : (0 : Int) ≤ (k : Int) := by omega
      have i2 : (k : Int) < (len : Int) := by omega
      have HBW := Lib.hid hbw
      clear hbw hf hf'
      go_wp2_with fail
      go_quiet (fail)
      go_wp2_with fail
      go_roundw
      case rel => exact ⟨k + 1, by omega, by go_num, below_drewN HBW.out _⟩
      case measure => simp [intOf]; omega
    · obtain rfl : k = len := by omega
      have HBW := Lib.hid hbw
      clear hbw
      go_wp2_with fail
      go_returns
      exact ⟨rfl, HBW.out⟩
set_option maxRecDepth 100000 in
set_option maxHeartbeats 1000000 in
theorem comp07_eq (c : Cmp) (a a' : Option Addr) (fl fc fl' fc' : Nat) (w : World) (h1 : FieldsAt w.heap.size w a fl c.fields) (h2 : FieldsAt w.heap.size w a' fl' c.fields) :
    Calls Tryz.prog 21 #[.agg #[.int .i64 c.id, .string c.name, .slice a fl fc], .agg #[.int .i64 c.id, .string c.name, .slice a' fl' fc']] w fun e w' => e = .returned (.bool true) ∧ Below w.heap.size w w' := by
  obtain rfl : fl' = fl := by rw [← h1.1, ← h2.1]
  have hbel0 : Below w.heap.size w ((w.alloc (.cells #[.int .i64 c.id, .string c.name, .slice a fl' fc] 67)).alloc (.cells #[.int .i64 c.id, .string c.name, .slice a' fl' fc'] 67)) := by go_grown
  have hx := keepA (.cells #[.int .i64 c.id, .string c.name, .slice a' fl' fc'] 67) (heap_alloc_new w (.cells #[.int .i64 c.id, .string c.name, .slice a fl' fc] 67))
  have hy := heap_alloc_new (w.alloc (.cells #[.int .i64 c.id, .string c.name, .slice a fl' fc] 67)) (.cells #[.int .i64 c.id, .string c.name, .slice a' fl' fc'] 67)
  rw [World.size_alloc] at hy
  have H12 := Lib.hid (And.intro ((h1.below hbel0).mono hbel0.size) (And.intro ((h2.below hbel0).mono hbel0.size) (And.intro hbel0 (And.intro hx hy))))
  clear h1 h2 hbel0 hx hy
  go_enter Tryz.func21, Tryz.ntmps21
  go_upto_region 1 with (fail)
  obtain ⟨h1, h2, hbel, hx, hy⟩ := H12.out
  clear H12
  generalize (w.alloc (.cells #[.int .i64 c.id, .string c.name, .slice a fl' fc] 67)).alloc (.cells #[.int .i64 c.id, .string c.name, .slice a' fl' fc'] 67) = V at *
  have x0 := cell_at hx 0
  have x1 := cell_at hx 1
  have x2 := cell_at hx 2
  have y0 := cell_at hy 0
  have y1 := cell_at hy 1
  have y2 := cell_at hy 2
  simp at x0 x1 x2 y0 y1 y2
  have HF := Lib.hid (And.intro h1 (And.intro h2 hbel))
  clear h1 h2 hbel hx hy
  go_wp2_with fail
  refine (fields07_eq c.fields _ _ _ _ _ _ HF.out.1 HF.out.2.1).mono ?_
  rintro e w2 ⟨rfl, hb2⟩
  go_wp2_with fail
  go_returns
  exact ⟨rfl, HF.out.2.2.trans (hb2.mono HF.out.2.2.size)⟩
def sameR (sx sy b off len cap b' off' cap' k : Nat) (c : Cmp) (fa ga : Option Addr) (fl fc gl gc : Nat) : List (Value → World → Prop) :=
  [ IsV (.pointer (some ⟨sx, 1, none⟩)),
    IsV (.slice (some ⟨b, off, none⟩) len cap),
    IsV (.int .i64 k),
    IsV (.pointer (some ⟨b, off + k * 3, none⟩)),
    IsV (.agg #[.int .i64 c.id, .string c.name, .slice fa fl fc]),
    IsV (.pointer (some ⟨sy, 1, none⟩)),
    IsV (.slice (some ⟨b', off', none⟩) len cap'),
    IsV (.int .i64 k),
    IsV (.pointer (some ⟨b', off' + k * 3, none⟩)),
    IsV (.agg #[.int .i64 c.id, .string c.name, .slice ga gl gc]),
    IsV (.bool true),
    IsV (.bool false) ]
theorem sameR_lasts (sx sy b off len cap b' off' cap' k : Nat) (c : Cmp) (fa ga : Option Addr) (fl fc gl gc : Nat) : ∀ p ∈ sameR sx sy b off len cap b' off' cap' k c fa ga fl fc gl gc, Lasts p := by
  simp only [sameR, List.mem_cons, List.not_mem_nil, or_false]
  rintro p (rfl | rfl | rfl | rfl | rfl | rfl | rfl | rfl | rfl | rfl | rfl | rfl) <;> exact lasts_v _
set_option maxRecDepth 100000 in
set_option maxHeartbeats 4000000 in
/-- Two schemas of equal components: 'Same' says so. -/
theorem same07_eq (ver : Int) (cs : List Cmp) (a a' : Option Addr) (len cap cap' : Nat) (w : World) (h1 : CompsAt w.heap.size w a len cs) (h2 : CompsAt w.heap.size w a' len cs) :
    Calls Tryz.prog 7 #[.agg #[.int .i64 ver, .slice a len cap], .agg #[.int .i64 ver, .slice a' len cap']] w fun e w' => e = .returned (.bool true) ∧ Below w.heap.size w w' := by
  have hmx : len ≤ maxLen := h1.2.1
  unfold maxLen at hmx
  have hbel0 : Below w.heap.size w ((w.alloc (.cells #[.int .i64 ver, .slice a len cap] 25)).alloc (.cells #[.int .i64 ver, .slice a' len cap'] 25)) := by go_grown
  have hx := keepA (.cells #[.int .i64 ver, .slice a' len cap'] 25) (heap_alloc_new w (.cells #[.int .i64 ver, .slice a len cap] 25))
  have hy := heap_alloc_new (w.alloc (.cells #[.int .i64 ver, .slice a len cap] 25)) (.cells #[.int .i64 ver, .slice a' len cap'] 25)
  rw [World.size_alloc] at hy
  have H12 := Lib.hid (And.intro ((h1.below hbel0).mono hbel0.size) (And.intro ((h2.below hbel0).mono hbel0.size) (And.intro hbel0 (And.intro hx hy))))
  clear h1 h2 hbel0 hx hy
  go_enter Tryz.func7, Tryz.ntmps7
  go_upto_region 1 with (fail)
  obtain ⟨h1, h2, hbel, hx, hy⟩ := H12.out
  clear H12
  generalize (w.alloc (.cells #[.int .i64 ver, .slice a len cap] 25)).alloc (.cells #[.int .i64 ver, .slice a' len cap'] 25) = V at *
  generalize hsy : w.heap.size + 1 = sy at *
  generalize hsx : w.heap.size = sx at *
  have HSX := Lib.hid hsx
  have x0 := cell_at hx 0
  have x1 := cell_at hx 1
  have y0 := cell_at hy 0
  have y1 := cell_at hy 1
  simp at x0 x1 y0 y1
  have HF := Lib.hid (And.intro h1 (And.intro h2 (And.intro hbel (And.intro hx hy))))
  clear h1 h2 hbel hx hy hsx hsy
  go_wp2_with fail
  clear x0 x1 y0 y1
  go_loopw [5] (fun i wr => ∃ k : Nat, k ≤ len ∧ i = .int .i64 k ∧ Below V.heap.size V wr) (fun i _ => len - (intOf i).toNat)
  case atStart => exact ⟨0, by omega, rfl, Below.refl _ _⟩
  case round =>
    obtain ⟨k, hk, rfl, hbw⟩ := hrel
    have hx := keep hbw HF.out.2.2.2.1
    have hy := keep hbw HF.out.2.2.2.2
    have x1 := cell_at hx 1
    have y1 := cell_at hy 1
    simp at x1 y1
    by_cases hlt : k < len
    · obtain ⟨b, off, c, rfl, hB, hc, c0, c1, fa, fl, fc, c2, hF, hnil⟩ := HF.out.1.get hbw hlt
      obtain ⟨b', off', c', rfl, hB', hc', d0, d1, ga, gl, gc, d2, hG, hnil'⟩ := HF.out.2.1.get hbw hlt
      obtain rfl : c' = c := by rw [hc] at hc'; exact (Option.some.inj hc').symm
      have i1 : (0 : Int) ≤ (k : Int) := by omega
      have i2 : (k : Int) < (len : Int) := by omega
      have HBW := Lib.hid hbw
      have HC := Lib.hid (And.intro x1 (And.intro y1 (And.intro c0 (And.intro c1 (And.intro c2 (And.intro d0 (And.intro d1 d2)))))))
      have hXl := lt_some hx
      have hYl := lt_some hy
      have hBl : b < wr.heap.size := World.block_lt_of_cell? wr _ c0
      have hBl' : b' < wr.heap.size := World.block_lt_of_cell? wr _ d0
      have HFG := Lib.hid (And.intro hF hG)
      clear hbw hc hc' hx hy hF hG
      go_wp2_with fail
      clear x1 y1 c0 c1 c2 d0 d1 d2
      refine wp_region_grow (by kernel_rfl) (by kernel_rfl) (by kernel_rfl) (byList (sameR sx sy b off len cap b' off' cap' k c' fa ga fl fc gl gc)) (lasts_list (sameR_lasts sx sy b off len cap b' off' cap' k c' fa ga fl fc gl gc)) ?_ ?_
      · intro vs w1' i o hb ho hd
        simp only [putAll, Act.put, List.setIfInBounds_toArray, List.set_cons_succ, List.set_cons_zero]
        obtain ⟨x1, y1, c0, c1, c2, d0, d1, d2⟩ := HC.out
        have x1 := (hb.cell (p := ⟨sx, 1, none⟩) hXl).trans x1
        have y1 := (hb.cell (p := ⟨sy, 1, none⟩) hYl).trans y1
        have c0 := (hb.cell (p := ⟨b, _, none⟩) hBl).trans c0
        have c1 := (hb.cell (p := ⟨b, _, none⟩) hBl).trans c1
        have c2 := (hb.cell (p := ⟨b, _, none⟩) hBl).trans c2
        have d0 := (hb.cell (p := ⟨b', _, none⟩) hBl').trans d0
        have d1 := (hb.cell (p := ⟨b', _, none⟩) hBl').trans d1
        have d2 := (hb.cell (p := ⟨b', _, none⟩) hBl').trans d2
        have HW1 : Hid (FieldsAt w1'.heap.size w1' fa fl c'.fields ∧ FieldsAt w1'.heap.size w1' ga gl c'.fields) := Lib.hid ⟨(HFG.out.1.below (hb.mono HBW.out.size)).mono (Nat.le_trans HBW.out.size hb.size), (HFG.out.2.below (hb.mono HBW.out.size)).mono (Nat.le_trans HBW.out.size hb.size)⟩
        clear hb
        revert ho hd
        match i with
        | 0 =>
          intro ho hd
          obtain rfl := (Option.some.inj ho).symm
          clear hd ho
          refine step_open rfl ?_
          go_simp
          exact ⟨rfl, Below.refl _ _⟩
        | 1 =>
          intro ho hd
          obtain rfl := (Option.some.inj ho).symm
          have d0 : vs 0 = (.pointer (some ⟨sx, 1, none⟩)) := hd ⟨0, .data⟩ (by simp) rfl
          clear hd ho
          rw [d0]
          refine step_open rfl ?_
          go_simp
          exact ⟨rfl, Below.refl _ _⟩
        | 2 =>
          intro ho hd
          obtain rfl := (Option.some.inj ho).symm
          clear hd ho
          refine step_open rfl ?_
          go_simp
          exact ⟨rfl, Below.refl _ _⟩
        | 3 =>
          intro ho hd
          obtain rfl := (Option.some.inj ho).symm
          have d1 : vs 1 = (.slice (some ⟨b, off, none⟩) len cap) := hd ⟨1, .data⟩ (by simp) rfl
          have d2 : vs 2 = (.int .i64 k) := hd ⟨2, .data⟩ (by simp) rfl
          clear hd ho
          rw [d1, d2]
          refine step_open rfl ?_
          go_simp
          exact ⟨rfl, Below.refl _ _⟩
        | 4 =>
          intro ho hd
          obtain rfl := (Option.some.inj ho).symm
          have d3 : vs 3 = (.pointer (some ⟨b, off + k * 3, none⟩)) := hd ⟨3, .data⟩ (by simp) rfl
          clear hd ho
          rw [d3]
          refine step_open rfl ?_
          go_simp
          exact ⟨rfl, Below.refl _ _⟩
        | 5 =>
          intro ho hd
          obtain rfl := (Option.some.inj ho).symm
          clear hd ho
          refine step_open rfl ?_
          go_simp
          exact ⟨rfl, Below.refl _ _⟩
        | 6 =>
          intro ho hd
          obtain rfl := (Option.some.inj ho).symm
          have d5 : vs 5 = (.pointer (some ⟨sy, 1, none⟩)) := hd ⟨5, .data⟩ (by simp) rfl
          clear hd ho
          rw [d5]
          refine step_open rfl ?_
          go_simp
          exact ⟨rfl, Below.refl _ _⟩
        | 7 =>
          intro ho hd
          obtain rfl := (Option.some.inj ho).symm
          clear hd ho
          refine step_open rfl ?_
          go_simp
          exact ⟨rfl, Below.refl _ _⟩
        | 8 =>
          intro ho hd
          obtain rfl := (Option.some.inj ho).symm
          have d6 : vs 6 = (.slice (some ⟨b', off', none⟩) len cap') := hd ⟨6, .data⟩ (by simp) rfl
          have d7 : vs 7 = (.int .i64 k) := hd ⟨7, .data⟩ (by simp) rfl
          clear hd ho
          rw [d6, d7]
          refine step_open rfl ?_
          go_simp
          exact ⟨rfl, Below.refl _ _⟩
        | 9 =>
          intro ho hd
          obtain rfl := (Option.some.inj ho).symm
          have d8 : vs 8 = (.pointer (some ⟨b', off' + k * 3, none⟩)) := hd ⟨8, .data⟩ (by simp) rfl
          clear hd ho
          rw [d8]
          refine step_open rfl ?_
          go_simp
          exact ⟨rfl, Below.refl _ _⟩
        | 10 =>
          intro ho hd
          obtain rfl := (Option.some.inj ho).symm
          have d4 : vs 4 = (.agg #[.int .i64 c'.id, .string c'.name, .slice fa fl fc]) := hd ⟨4, .data⟩ (by simp) rfl
          have d9 : vs 9 = (.agg #[.int .i64 c'.id, .string c'.name, .slice ga gl gc]) := hd ⟨9, .data⟩ (by simp) rfl
          clear hd ho
          rw [d4, d9]
          refine step_open rfl ?_
          go_simp
          refine (comp07_eq c' _ _ _ _ _ _ _ HW1.out.1 HW1.out.2).mono ?_
          rintro e w2 ⟨rfl, hb2⟩
          exact ⟨rfl, hb2⟩
        | 11 =>
          intro ho hd
          obtain rfl := (Option.some.inj ho).symm
          have d10 : vs 10 = (.bool true) := hd ⟨10, .data⟩ (by simp) rfl
          clear hd ho
          rw [d10]
          refine step_open rfl ?_
          go_simp
          exact ⟨rfl, Below.refl _ _⟩
        | n + 12 =>
          intro ho hd
          simp at ho
      · intro vs w1' hb hR
        have hv : vs 11 = .bool false := hR 11 (by simp)
        have HB2 := Lib.hid (HBW.out.trans (hb.mono HBW.out.size))
        simp only [putAll, Act.put, List.setIfInBounds_toArray, List.set_cons_succ, List.set_cons_zero]
        rw [hv]
        clear hR hb hv
        go_wp2_with fail
        go_roundw
        case rel => exact ⟨k + 1, by omega, by go_num, HB2.out⟩
        case measure => simp [intOf]; omega
    · obtain rfl : k = len := by omega
      have HBW := Lib.hid (HF.out.2.2.1.trans (hbw.mono (by have := HF.out.2.2.1.size; rw [HSX.out] at this; exact this)))
      clear hbw
      go_wp2_with fail
      go_returns
      exact ⟨rfl, by rw [HSX.out]; exact HBW.out⟩
end Go.Proofs.YtgnilkjdpfbjgaaGreat
namespace Go.Proofs.YtgnilkjdpfbjgaaGreat
open Go.RowKit
set_option linter.unusedVariables false
/-- A schema of so many components. -/
def IsScL (ver : Int) (cs : List Cmp) (l : Nat) (u : Value) (w : World) : Prop := ∃ a c, u = .agg #[.int .i64 ver, .slice a l c] ∧ CompsAt w.heap.size w a l cs
theorem lasts_scl (ver : Int) (cs : List Cmp) (l : Nat) : Lasts (IsScL ver cs l) := fun u w w' ⟨a, c, h1, h2⟩ hb => ⟨a, c, h1, (h2.below hb).mono hb.size⟩
theorem ver_1 : verV 1 = 1 ∧ verC 1 = mintC 1 ∧ verS 1 = mintS 1 := ⟨by kernel_rfl, by kernel_rfl, by kernel_rfl⟩
theorem schema34_1 (l : Nat) (hl : (mintC 1).length = l) (w : World) : Calls Tryz.prog 9 #[.int .i64 1] w fun e w' => (∃ u, e = .returned u ∧ IsScL 1 (mintC 1) l u w') ∧ Below w.heap.size w w' := by
  have h := schema34_any 1 w
  rw [ver_1.1, ver_1.2.1] at h
  refine h.mono ?_
  rintro e w1 ⟨⟨u, h1, a, c, h2, h3⟩, hb⟩
  rw [hl] at h2 h3
  exact ⟨⟨u, h1, a, c, h2, h3⟩, hb⟩
theorem systems34_1 (w : World) : Calls Tryz.prog 12 #[.int .i64 1] w fun e w' => (∃ u, e = .returned u ∧ IsSy (mintS 1) u w') ∧ Below w.heap.size w w' := by
  have h := systems34_any 1 w
  rw [ver_1.2.2] at h
  exact h
def mx_list (v seed : Int) (sb q l k n sc a b c d : Nat) (sa : Option Addr) (B : ByteArray) : List (Value → World → Prop) :=
  [IsV (.int .i64 v),
   IsSc (verV v) (verC v),
   IsV (.int .i64 v),
   IsSc (verV v) (verC v),
   IsV (.bool true),
   IsV (.bool true),
   IsV (.int .i64 v),
   IsSy (verS v),
   IsV (.int .i64 v),
   IsSy (verS v),
   IsV (.bool true),
   IsV (.bool true),
   IsV (.bool true),
   IsV (.int .i64 v),
   IsV (.string B),
   IsV (.int .i64 v),
   IsV (.string B),
   IsV (.bool true),
   IsV (.bool true),
   IsV (.bool true),
   IsV (.pointer (some ⟨sb, 0, none⟩)),
   IsV (.agg #[.int .i64 1, .slice (some ⟨q, 0, none⟩) l k]),
   IsScL 1 (mintC 1) l,
   IsV (.bool true),
   IsV (.bool true),
   IsV (.bool true),
   IsV (.pointer (some ⟨sb, 2, none⟩)),
   IsV (.slice sa n sc),
   IsSy (mintS 1),
   IsV (.bool true),
   IsV (.bool true),
   IsV (.bool true),
   IsV (.pointer (some ⟨sb, 3, none⟩)),
   IsV (.agg #[.int .i64 (4 + (a : Int)), .int .i64 (3 + (b : Int)), .int .i64 6, .int .i64 4, .int .i64 (40 + (c : Int)), .int .i64 (1 + (d : Int))]),
   IsV (.int .i64 seed),
   IsV (.agg #[.int .i64 (4 + (a : Int)), .int .i64 (3 + (b : Int)), .int .i64 6, .int .i64 4, .int .i64 (40 + (c : Int)), .int .i64 (1 + (d : Int))]),
   IsV (.bool true),
   IsV (.bool true),
   IsV (.bool true)]
theorem mx_list_lasts (v seed : Int) (sb q l k n sc a b c d : Nat) (sa : Option Addr) (B : ByteArray) : ∀ p ∈ mx_list v seed  sb q l k n sc a b c d  sa  B , Lasts p := by
  simp only [mx_list, List.mem_cons, List.not_mem_nil, or_false]
  rintro p hp
  repeat (rcases hp with rfl | hp; first | exact lasts_sc _ _ | exact lasts_scl _ _ _ | exact lasts_sy _ | exact lasts_v _ | exact lasts_emp _ _ _ | exact lasts_rowO _ _ _ _ _ | exact lasts_with _ _ _ _ _ _ | exact lasts_oneW _ _ _ _ _ _ _ | exact lasts_one _ _)
set_option maxRecDepth 100000 in
set_option maxHeartbeats 4000000 in
theorem mint_exact_v (v seed : Int) (x0 x1 x2 x3 x4 a b c d : Nat) (w : World) (hx0 : (seed % 18446744073709551616).toNat = x0) (e1 : drawX x0 = x1) (ea : drawN x0 8 = a) (e2 : drawX x1 = x2) (eb : drawN x1 4 = b) (e3 : drawX x2 = x3) (ec : drawN x2 100 = c) (e4 : drawX x3 = x4) (ed : drawN x3 3 = d) :
    Calls Tryz.prog 3 #[.int .i64 v, .int .i64 seed] w fun e w' => e = .returned (.bool true) ∧ Below w.heap.size w w' := by
  have KS := Lib.hid (fun W => mSetup_v seed x0 x1 x2 x3 x4 a b c d W hx0 e1 ea e2 eb e3 ec e4 ed)
  have KC := Lib.hid (fun W => caps34_v seed x0 x1 x2 x3 x4 a b c d W hx0 e1 ea e2 eb e3 ec e4 ed)
  obtain ⟨B, hB, hBz⟩ : ∃ B : ByteArray, B = ⟨(mintB v).toArray⟩ ∧ True := ⟨_, rfl, trivial⟩
  have KB1 := Lib.hid (fun W => mBundle_any v W)
  have KB2 := Lib.hid (fun W => bundle34_any v W)
  rw [← hB] at KB1 KB2
  clear hB hBz hx0 e1 ea e2 eb e3 ec e4 ed
  go_enter Tryz.func3, Tryz.ntmps3
  go_wp2_with fail
  refine (awake34_any _).mono ?_
  rintro e w1 ⟨rfl, hb1⟩
  go_wp2_with fail
  refine (KS.out _).mono ?_
  rintro e w2 ⟨q, k, u, rfl, hc, hs, hb2⟩
  obtain ⟨sa, sc, rfl, _⟩ := hs.row
  generalize hn : (mintS 1).length = n at *
  generalize hl : (mintC 1).length = l at *
  have KS1 := Lib.hid (fun W => schema34_1 l hl W)
  clear hl hn
  have HB2 := Lib.hid (hb1.trans (hb2.mono hb1.size))
  have HC := Lib.hid hc
  have HS := Lib.hid hs.tt
  clear hb1 hb2 hc hs KS
  go_upto_region 4 with (fail)
  generalize hW : World.alloc w2 _ = W at *
  have hS : W.heap[w2.heap.size]? = some (.cells #[.int .i64 1, .slice (some ⟨q, 0, none⟩) l k, .slice sa n sc, .int .i64 (4 + (a : Int)), .int .i64 (3 + (b : Int)), .int .i64 6, .int .i64 4, .int .i64 (40 + (c : Int)), .int .i64 (1 + (d : Int))] 30 (0, 0)) := by rw [← hW]; exact heap_alloc_new w2 _
  have hbW : Below w2.heap.size w2 W := by rw [← hW]; go_grown
  have HW := Lib.hid (And.intro (HB2.out.trans (hbW.mono HB2.out.size)) hS)
  have HCW : Hid (CompsAt W.heap.size W (some ⟨q, 0, none⟩) l (mintC 1)) := Lib.hid ((HC.out.below hbW).mono hbW.size)
  have HSW : Hid (At W TT (syssD (mintS 1)) (.slice sa n sc)) := Lib.hid (HS.out.below hbW)
  generalize w2.heap.size = sb at *
  clear hW hS hbW HB2 HC HS
  refine wp_region_frame (by kernel_rfl) (by kernel_rfl) (by kernel_rfl) (byList (mx_list v seed sb q l k n sc a b c d sa B)) (lasts_list (mx_list_lasts v seed sb q l k n sc a b c d sa B)) ?_ ?_
  · intro vs w' iq o A F hb ho hd
    have m0 : A.tmps[0]?.getD undef = (.int .i64 v) := F.m (by kernel_rfl) rfl
    have m1 : A.tmps[1]?.getD undef = (.int .i64 seed) := F.m (by kernel_rfl) rfl
    have m5 : A.tmps[5]?.getD undef = (.pointer (some ⟨sb, 0, none⟩)) := F.m (by kernel_rfl) rfl
    have G := F.light (n := 48) (by kernel_rfl)
    clear F
    have HBX := Lib.hid hb
    have hk := keep hb HW.out.2
    have s0 := cell_at hk 0
    have s1 := cell_at hk 1
    have s2 := cell_at hk 2
    have s3 := cell_at hk 3
    have s4 := cell_at hk 4
    have s5 := cell_at hk 5
    have s6 := cell_at hk 6
    have s7 := cell_at hk 7
    have s8 := cell_at hk 8
    simp at s0 s1 s2 s3 s4 s5 s6 s7 s8
    clear hb hk
    revert ho hd
    match iq with
    | 0 => intro ho hd; obtain rfl := (Option.some.inj ho).symm; clear hd ho; refine step_open rfl ?_; clear G; exact step_run (v := (.int .i64 v)) (by go_simp) rfl
    | 1 => intro ho hd; obtain rfl := (Option.some.inj ho).symm; have d0 : vs 0 = (.int .i64 v) := hd ⟨0, .data⟩ (by simp) rfl; clear hd ho; have h10 := G.h (j := 0) (d := 10) rfl (by decide) d0; refine step_open rfl ?_; clear G; go_simp; refine (mSchema_any v w').mono ?_; rintro e w9 ⟨⟨u, rfl, h9⟩, hb9⟩; exact ⟨_, rfl, h9, hb9⟩
    | 2 => intro ho hd; obtain rfl := (Option.some.inj ho).symm; clear hd ho; refine step_open rfl ?_; clear G; exact step_run (v := (.int .i64 v)) (by go_simp) rfl
    | 3 => intro ho hd; obtain rfl := (Option.some.inj ho).symm; have d2 : vs 2 = (.int .i64 v) := hd ⟨2, .data⟩ (by simp) rfl; clear hd ho; have h12 := G.h (j := 2) (d := 12) rfl (by decide) d2; refine step_open rfl ?_; clear G; go_simp; refine (schema34_any v w').mono ?_; rintro e w9 ⟨⟨u, rfl, h9⟩, hb9⟩; exact ⟨_, rfl, h9, hb9⟩
    | 4 => intro ho hd; obtain rfl := (Option.some.inj ho).symm; obtain ⟨a1, c1, d1, k1⟩ : IsSc (verV v) (verC v) (vs 1) w' := hd ⟨1, .data⟩ (by simp) rfl; obtain ⟨a3, c3, d3, k3⟩ : IsSc (verV v) (verC v) (vs 3) w' := hd ⟨3, .data⟩ (by simp) rfl; clear hd ho; have h11 := G.h (j := 1) (d := 11) rfl (by decide) d1; have h13 := G.h (j := 3) (d := 13) rfl (by decide) d3; refine step_open rfl ?_; clear G; go_simp; refine (same07_eq _ _ _ _ _ _ _ w' k1 k3).mono ?_; rintro e w9 ⟨rfl, hb9⟩; exact ⟨_, rfl, rfl, hb9⟩
    | 5 => intro ho hd; obtain rfl := (Option.some.inj ho).symm; have d4 : vs 4 = (.bool true) := hd ⟨4, .data⟩ (by simp) rfl; clear hd ho; have h14 := G.h (j := 4) (d := 14) rfl (by decide) d4; refine step_open rfl ?_; clear G; exact step_run (v := (.bool true)) (by go_simp) rfl
    | 6 => intro ho hd; obtain rfl := (Option.some.inj ho).symm; have d5 : vs 5 = (.bool true) := hd ⟨5, .guard⟩ (by simp) rfl; clear hd ho; refine step_yes G rfl rfl (by decide) d5 ?_; clear G; exact step_run (v := (.int .i64 v)) (by go_simp) rfl
    | 7 => intro ho hd; obtain rfl := (Option.some.inj ho).symm; have d6 : vs 6 = (.int .i64 v) := hd ⟨6, .data⟩ (by simp) rfl; have d5 : vs 5 = (.bool true) := hd ⟨5, .guard⟩ (by simp) rfl; clear hd ho; have h16 := G.h (j := 6) (d := 16) rfl (by decide) d6; refine step_yes G rfl rfl (by decide) d5 ?_; clear G; go_simp; refine (mSystems_any v w').mono ?_; rintro e w9 ⟨⟨u, rfl, h9⟩, hb9⟩; exact ⟨_, rfl, h9, hb9⟩
    | 8 => intro ho hd; obtain rfl := (Option.some.inj ho).symm; have d5 : vs 5 = (.bool true) := hd ⟨5, .guard⟩ (by simp) rfl; clear hd ho; refine step_yes G rfl rfl (by decide) d5 ?_; clear G; exact step_run (v := (.int .i64 v)) (by go_simp) rfl
    | 9 => intro ho hd; obtain rfl := (Option.some.inj ho).symm; have d8 : vs 8 = (.int .i64 v) := hd ⟨8, .data⟩ (by simp) rfl; have d5 : vs 5 = (.bool true) := hd ⟨5, .guard⟩ (by simp) rfl; clear hd ho; have h18 := G.h (j := 8) (d := 18) rfl (by decide) d8; refine step_yes G rfl rfl (by decide) d5 ?_; clear G; go_simp; refine (systems34_any v w').mono ?_; rintro e w9 ⟨⟨u, rfl, h9⟩, hb9⟩; exact ⟨_, rfl, h9, hb9⟩
    | 10 => intro ho hd; obtain rfl := (Option.some.inj ho).symm; obtain ⟨a7, n7, c7, d7, k7⟩ : IsSy (verS v) (vs 7) w' := hd ⟨7, .data⟩ (by simp) rfl; obtain ⟨a9, n9, c9, d9, k9⟩ : IsSy (verS v) (vs 9) w' := hd ⟨9, .data⟩ (by simp) rfl; have d5 : vs 5 = (.bool true) := hd ⟨5, .guard⟩ (by simp) rfl; clear hd ho; have h17 := G.h (j := 7) (d := 17) rfl (by decide) d7; have h19 := G.h (j := 9) (d := 19) rfl (by decide) d9; refine step_yes G rfl rfl (by decide) d5 ?_; clear G; go_simp; refine (sys34_any (verS v) w' _ _ _ _ k7 k9 (verS_ok v).1 (verS_ok v).2).mono ?_; rintro e w9 ⟨rfl, hb9⟩; exact ⟨_, rfl, rfl, hb9⟩
    | 11 => intro ho hd; obtain rfl := (Option.some.inj ho).symm; have d5 : vs 5 = (.bool true) := hd ⟨5, .data⟩ (by simp) rfl; have d10 : vs 10 = (.bool true) := hd ⟨10, .data⟩ (by simp) rfl; clear hd ho; have h15 := G.h (j := 5) (d := 15) rfl (by decide) d5; have h20 := G.h (j := 10) (d := 20) rfl (by decide) d10; refine step_open rfl ?_; clear G; exact step_run (v := (.bool true)) (by go_simp) rfl
    | 12 => intro ho hd; obtain rfl := (Option.some.inj ho).symm; have d11 : vs 11 = (.bool true) := hd ⟨11, .data⟩ (by simp) rfl; clear hd ho; have h21 := G.h (j := 11) (d := 21) rfl (by decide) d11; refine step_open rfl ?_; clear G; exact step_run (v := (.bool true)) (by go_simp) rfl
    | 13 => intro ho hd; obtain rfl := (Option.some.inj ho).symm; have d12 : vs 12 = (.bool true) := hd ⟨12, .guard⟩ (by simp) rfl; clear hd ho; refine step_yes G rfl rfl (by decide) d12 ?_; clear G; exact step_run (v := (.int .i64 v)) (by go_simp) rfl
    | 14 => intro ho hd; obtain rfl := (Option.some.inj ho).symm; have d13 : vs 13 = (.int .i64 v) := hd ⟨13, .data⟩ (by simp) rfl; have d12 : vs 12 = (.bool true) := hd ⟨12, .guard⟩ (by simp) rfl; clear hd ho; have h23 := G.h (j := 13) (d := 23) rfl (by decide) d13; refine step_yes G rfl rfl (by decide) d12 ?_; clear G; go_simp; refine (KB1.out w').mono ?_; rintro e w9 ⟨rfl, hb9⟩; exact ⟨_, rfl, rfl, hb9⟩
    | 15 => intro ho hd; obtain rfl := (Option.some.inj ho).symm; have d12 : vs 12 = (.bool true) := hd ⟨12, .guard⟩ (by simp) rfl; clear hd ho; refine step_yes G rfl rfl (by decide) d12 ?_; clear G; exact step_run (v := (.int .i64 v)) (by go_simp) rfl
    | 16 => intro ho hd; obtain rfl := (Option.some.inj ho).symm; have d15 : vs 15 = (.int .i64 v) := hd ⟨15, .data⟩ (by simp) rfl; have d12 : vs 12 = (.bool true) := hd ⟨12, .guard⟩ (by simp) rfl; clear hd ho; have h25 := G.h (j := 15) (d := 25) rfl (by decide) d15; refine step_yes G rfl rfl (by decide) d12 ?_; clear G; go_simp; refine (KB2.out w').mono ?_; rintro e w9 ⟨rfl, hb9⟩; exact ⟨_, rfl, rfl, hb9⟩
    | 17 => intro ho hd; obtain rfl := (Option.some.inj ho).symm; have d14 : vs 14 = (.string B) := hd ⟨14, .data⟩ (by simp) rfl; have d16 : vs 16 = (.string B) := hd ⟨16, .data⟩ (by simp) rfl; have d12 : vs 12 = (.bool true) := hd ⟨12, .guard⟩ (by simp) rfl; clear hd ho; have h24 := G.h (j := 14) (d := 24) rfl (by decide) d14; have h26 := G.h (j := 16) (d := 26) rfl (by decide) d16; refine step_yes G rfl rfl (by decide) d12 ?_; clear G; exact step_run (v := (.bool true)) (by go_simp) rfl
    | 18 => intro ho hd; obtain rfl := (Option.some.inj ho).symm; have d12 : vs 12 = (.bool true) := hd ⟨12, .data⟩ (by simp) rfl; have d17 : vs 17 = (.bool true) := hd ⟨17, .data⟩ (by simp) rfl; clear hd ho; have h22 := G.h (j := 12) (d := 22) rfl (by decide) d12; have h27 := G.h (j := 17) (d := 27) rfl (by decide) d17; refine step_open rfl ?_; clear G; exact step_run (v := (.bool true)) (by go_simp) rfl
    | 19 => intro ho hd; obtain rfl := (Option.some.inj ho).symm; have d18 : vs 18 = (.bool true) := hd ⟨18, .data⟩ (by simp) rfl; clear hd ho; have h28 := G.h (j := 18) (d := 28) rfl (by decide) d18; refine step_open rfl ?_; clear G; exact step_run (v := (.bool true)) (by go_simp) rfl
    | 20 => intro ho hd; obtain rfl := (Option.some.inj ho).symm; have d19 : vs 19 = (.bool true) := hd ⟨19, .guard⟩ (by simp) rfl; clear hd ho; refine step_yes G rfl rfl (by decide) d19 ?_; clear G; exact step_run (v := (.pointer (some ⟨sb, 0, none⟩))) (by go_simp) rfl
    | 21 => intro ho hd; obtain rfl := (Option.some.inj ho).symm; have d20 : vs 20 = (.pointer (some ⟨sb, 0, none⟩)) := hd ⟨20, .data⟩ (by simp) rfl; have d19 : vs 19 = (.bool true) := hd ⟨19, .guard⟩ (by simp) rfl; clear hd ho; have h30 := G.h (j := 20) (d := 30) rfl (by decide) d20; refine step_yes G rfl rfl (by decide) d19 ?_; clear G; exact step_run (v := (.agg #[.int .i64 1, .slice (some ⟨q, 0, none⟩) l k])) (by go_simp) rfl
    | 22 => intro ho hd; obtain rfl := (Option.some.inj ho).symm; have d19 : vs 19 = (.bool true) := hd ⟨19, .guard⟩ (by simp) rfl; clear hd ho; refine step_yes G rfl rfl (by decide) d19 ?_; clear G; go_simp; refine (KS1.out w').mono ?_; rintro e w9 ⟨⟨u, rfl, h9⟩, hb9⟩; exact ⟨_, rfl, h9, hb9⟩
    | 23 => intro ho hd; obtain rfl := (Option.some.inj ho).symm; have d21 : vs 21 = (.agg #[.int .i64 1, .slice (some ⟨q, 0, none⟩) l k]) := hd ⟨21, .data⟩ (by simp) rfl; obtain ⟨a22, c22, d22, k22⟩ : IsScL 1 (mintC 1) l (vs 22) w' := hd ⟨22, .data⟩ (by simp) rfl; have d19 : vs 19 = (.bool true) := hd ⟨19, .guard⟩ (by simp) rfl; clear hd ho; have h31 := G.h (j := 21) (d := 31) rfl (by decide) d21; have h32 := G.h (j := 22) (d := 32) rfl (by decide) d22; refine step_yes G rfl rfl (by decide) d19 ?_; clear G; go_simp; refine (same07_eq 1 (mintC 1) _ _ l _ _ w' ((HCW.out.below HBX.out).mono HBX.out.size) k22).mono ?_; rintro e w9 ⟨rfl, hb9⟩; exact ⟨_, rfl, rfl, hb9⟩
    | 24 => intro ho hd; obtain rfl := (Option.some.inj ho).symm; have d19 : vs 19 = (.bool true) := hd ⟨19, .data⟩ (by simp) rfl; have d23 : vs 23 = (.bool true) := hd ⟨23, .data⟩ (by simp) rfl; clear hd ho; have h29 := G.h (j := 19) (d := 29) rfl (by decide) d19; have h33 := G.h (j := 23) (d := 33) rfl (by decide) d23; refine step_open rfl ?_; clear G; exact step_run (v := (.bool true)) (by go_simp) rfl
    | 25 => intro ho hd; obtain rfl := (Option.some.inj ho).symm; have d24 : vs 24 = (.bool true) := hd ⟨24, .data⟩ (by simp) rfl; clear hd ho; have h34 := G.h (j := 24) (d := 34) rfl (by decide) d24; refine step_open rfl ?_; clear G; exact step_run (v := (.bool true)) (by go_simp) rfl
    | 26 => intro ho hd; obtain rfl := (Option.some.inj ho).symm; have d25 : vs 25 = (.bool true) := hd ⟨25, .guard⟩ (by simp) rfl; clear hd ho; refine step_yes G rfl rfl (by decide) d25 ?_; clear G; exact step_run (v := (.pointer (some ⟨sb, 2, none⟩))) (by go_simp) rfl
    | 27 => intro ho hd; obtain rfl := (Option.some.inj ho).symm; have d26 : vs 26 = (.pointer (some ⟨sb, 2, none⟩)) := hd ⟨26, .data⟩ (by simp) rfl; have d25 : vs 25 = (.bool true) := hd ⟨25, .guard⟩ (by simp) rfl; clear hd ho; have h36 := G.h (j := 26) (d := 36) rfl (by decide) d26; refine step_yes G rfl rfl (by decide) d25 ?_; clear G; exact step_run (v := (.slice sa n sc)) (by go_simp) rfl
    | 28 => intro ho hd; obtain rfl := (Option.some.inj ho).symm; have d25 : vs 25 = (.bool true) := hd ⟨25, .guard⟩ (by simp) rfl; clear hd ho; refine step_yes G rfl rfl (by decide) d25 ?_; clear G; go_simp; refine (systems34_1 w').mono ?_; rintro e w9 ⟨⟨u, rfl, h9⟩, hb9⟩; exact ⟨_, rfl, h9, hb9⟩
    | 29 => intro ho hd; obtain rfl := (Option.some.inj ho).symm; have d27 : vs 27 = (.slice sa n sc) := hd ⟨27, .data⟩ (by simp) rfl; obtain ⟨a28, n28, c28, d28, k28⟩ : IsSy (mintS 1) (vs 28) w' := hd ⟨28, .data⟩ (by simp) rfl; have d25 : vs 25 = (.bool true) := hd ⟨25, .guard⟩ (by simp) rfl; clear hd ho; have h37 := G.h (j := 27) (d := 37) rfl (by decide) d27; have h38 := G.h (j := 28) (d := 38) rfl (by decide) d28; refine step_yes G rfl rfl (by decide) d25 ?_; clear G; go_simp; refine (sys34_any (mintS 1) w' _ _ _ _ (HSW.out.below HBX.out) k28 (sysOk_mint (by decide)) (by simp [mintS])).mono ?_; rintro e w9 ⟨rfl, hb9⟩; exact ⟨_, rfl, rfl, hb9⟩
    | 30 => intro ho hd; obtain rfl := (Option.some.inj ho).symm; have d25 : vs 25 = (.bool true) := hd ⟨25, .data⟩ (by simp) rfl; have d29 : vs 29 = (.bool true) := hd ⟨29, .data⟩ (by simp) rfl; clear hd ho; have h35 := G.h (j := 25) (d := 35) rfl (by decide) d25; have h39 := G.h (j := 29) (d := 39) rfl (by decide) d29; refine step_open rfl ?_; clear G; exact step_run (v := (.bool true)) (by go_simp) rfl
    | 31 => intro ho hd; obtain rfl := (Option.some.inj ho).symm; have d30 : vs 30 = (.bool true) := hd ⟨30, .data⟩ (by simp) rfl; clear hd ho; have h40 := G.h (j := 30) (d := 40) rfl (by decide) d30; refine step_open rfl ?_; clear G; exact step_run (v := (.bool true)) (by go_simp) rfl
    | 32 => intro ho hd; obtain rfl := (Option.some.inj ho).symm; have d31 : vs 31 = (.bool true) := hd ⟨31, .guard⟩ (by simp) rfl; clear hd ho; refine step_yes G rfl rfl (by decide) d31 ?_; clear G; exact step_run (v := (.pointer (some ⟨sb, 3, none⟩))) (by go_simp) rfl
    | 33 => intro ho hd; obtain rfl := (Option.some.inj ho).symm; have d32 : vs 32 = (.pointer (some ⟨sb, 3, none⟩)) := hd ⟨32, .data⟩ (by simp) rfl; have d31 : vs 31 = (.bool true) := hd ⟨31, .guard⟩ (by simp) rfl; clear hd ho; have h42 := G.h (j := 32) (d := 42) rfl (by decide) d32; refine step_yes G rfl rfl (by decide) d31 ?_; clear G; exact step_run (v := (.agg #[.int .i64 (4 + (a : Int)), .int .i64 (3 + (b : Int)), .int .i64 6, .int .i64 4, .int .i64 (40 + (c : Int)), .int .i64 (1 + (d : Int))])) (by go_simp) rfl
    | 34 => intro ho hd; obtain rfl := (Option.some.inj ho).symm; have d31 : vs 31 = (.bool true) := hd ⟨31, .guard⟩ (by simp) rfl; clear hd ho; refine step_yes G rfl rfl (by decide) d31 ?_; clear G; exact step_run (v := (.int .i64 seed)) (by go_simp) rfl
    | 35 => intro ho hd; obtain rfl := (Option.some.inj ho).symm; have d34 : vs 34 = (.int .i64 seed) := hd ⟨34, .data⟩ (by simp) rfl; have d31 : vs 31 = (.bool true) := hd ⟨31, .guard⟩ (by simp) rfl; clear hd ho; have h44 := G.h (j := 34) (d := 44) rfl (by decide) d34; refine step_yes G rfl rfl (by decide) d31 ?_; clear G; go_simp; refine (KC.out w').mono ?_; rintro e w9 ⟨rfl, hb9⟩; exact ⟨_, rfl, rfl, hb9⟩
    | 36 => intro ho hd; obtain rfl := (Option.some.inj ho).symm; have d33 : vs 33 = (.agg #[.int .i64 (4 + (a : Int)), .int .i64 (3 + (b : Int)), .int .i64 6, .int .i64 4, .int .i64 (40 + (c : Int)), .int .i64 (1 + (d : Int))]) := hd ⟨33, .data⟩ (by simp) rfl; have d35 : vs 35 = (.agg #[.int .i64 (4 + (a : Int)), .int .i64 (3 + (b : Int)), .int .i64 6, .int .i64 4, .int .i64 (40 + (c : Int)), .int .i64 (1 + (d : Int))]) := hd ⟨35, .data⟩ (by simp) rfl; have d31 : vs 31 = (.bool true) := hd ⟨31, .guard⟩ (by simp) rfl; clear hd ho; have h43 := G.h (j := 33) (d := 43) rfl (by decide) d33; have h45 := G.h (j := 35) (d := 45) rfl (by decide) d35; refine step_yes G rfl rfl (by decide) d31 ?_; clear G; exact step_run (v := (.bool true)) (by go_simp) rfl
    | 37 => intro ho hd; obtain rfl := (Option.some.inj ho).symm; have d31 : vs 31 = (.bool true) := hd ⟨31, .data⟩ (by simp) rfl; have d36 : vs 36 = (.bool true) := hd ⟨36, .data⟩ (by simp) rfl; clear hd ho; have h41 := G.h (j := 31) (d := 41) rfl (by decide) d31; have h46 := G.h (j := 36) (d := 46) rfl (by decide) d36; refine step_open rfl ?_; clear G; exact step_run (v := (.bool true)) (by go_simp) rfl
    | 38 => intro ho hd; obtain rfl := (Option.some.inj ho).symm; have d37 : vs 37 = (.bool true) := hd ⟨37, .data⟩ (by simp) rfl; clear hd ho; have h47 := G.h (j := 37) (d := 47) rfl (by decide) d37; refine step_open rfl ?_; clear G; exact step_run (v := (.bool true)) (by go_simp) rfl
    | n + 39 => intro ho hd; simp at ho
  · intro vs w' hb hR
    have hv : vs 38 = .bool true := hR 38 (by decide)
    have hbe := HW.out.1.trans (hb.mono HW.out.1.size)
    simp only [putAll, Act.put, List.setIfInBounds_toArray, List.set_cons_succ, List.set_cons_zero, Nat.zero_add, Nat.reduceAdd]
    simp only [hv]
    clear hb hR hv
    go_wp2_with fail
    go_ret
    exact ⟨rfl, hbe⟩
end Go.Proofs.YtgnilkjdpfbjgaaGreat
