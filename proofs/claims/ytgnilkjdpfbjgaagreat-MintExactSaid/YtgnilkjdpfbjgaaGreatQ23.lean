/- The reference's rules: 12 Encode. · Contracts of retrofitref10.Bits, Is, Ids. -/
import Derived.Test.YtgnilkjdpfbjgaaGreatQ22
import Derived.Test.YtgnilkjdpfbjgaaGreatQ1
import Derived.Deep.DeepCutAuto
namespace Go.Proofs.YtgnilkjdpfbjgaaGreat
open Go.RowKit
set_option linter.unusedVariables false
/-- The text of bytes that lie in a block. -/
theorem conv_blk {w : World} {q : Nat} {cells : Array Value} (bs : List UInt8) (hc : (Lib.byteCells bs).toArray = cells) (n : Nat) (hn : bs.length = n) (hl : n ≤ 1000) (hq : w.heap[q]? = some (.cells cells 5 (0, 0))) : (convert 131 9 (.slice (some ⟨q, 0, none⟩) n n)).run Tryz.prog w = .ok (.string ⟨bs.toArray⟩) w := by
  subst hn hc
  refine conv_row (B := 0) ⟨by simp [Lib.byteCells], .inr ⟨q, bs.length, _, rfl, Nat.zero_le _, hq, Nat.le_refl _, by unfold maxLen; omega, by simp [Lib.byteCells], ?_⟩⟩
  rw [List.take_of_length_le (by simp [Lib.byteCells])]
def e12_list (U n c : Nat) (a b : Int) (ra : Option Addr) : List (Value → World → Prop) :=
  [IsV (.pointer (some ⟨U, 0, none⟩)),
   IsV (.int .i64 a),
   IsV (.string (ByteArray.mk (leB a.toNat 4).toArray)),
   IsV (.string (ByteArray.mk #[77] ++ ByteArray.mk (leB a.toNat 4).toArray)),
   IsV (.pointer (some ⟨U, 1, none⟩)),
   IsV (.int .i64 b),
   IsV (.string (ByteArray.mk (leB b.toNat 4).toArray)),
   IsV (.string (ByteArray.mk #[77] ++ ByteArray.mk (leB a.toNat 4).toArray ++ ByteArray.mk (leB b.toNat 4).toArray)),
   IsV (.pointer (some ⟨U, 2, none⟩)),
   IsV (.slice ra n c),
   IsV (.int .i64 (n : Int)),
   IsV (.int .u8 (n : Int)),
   IsRow #[.int .u8 (n : Int)] 1 5,
   IsV (.string (ByteArray.mk (leB n 1).toArray)),
   IsV (.string (ByteArray.mk #[77] ++ ByteArray.mk (leB a.toNat 4).toArray ++ ByteArray.mk (leB b.toNat 4).toArray ++ ByteArray.mk (leB n 1).toArray)),
   IsV (.string (ByteArray.mk #[77] ++ ByteArray.mk (leB a.toNat 4).toArray ++ ByteArray.mk (leB b.toNat 4).toArray ++ ByteArray.mk (leB n 1).toArray))]
theorem e12_list_lasts (U n c : Nat) (a b : Int) (ra : Option Addr) : ∀ p ∈ e12_list U n c  a b  ra , Lasts p := by
  simp only [e12_list, List.mem_cons, List.not_mem_nil, or_false]
  rintro p hp
  repeat (rcases hp with rfl | hp; first | exact lasts_row _ _ _ | exact lasts_v _ | exact lasts_emp _ _ _ | exact lasts_rowO _ _ _ _ _ | exact lasts_with _ _ _ _ _ _ | exact lasts_oneW _ _ _ _ _ _ _ | exact lasts_one _ _)
theorem conv_three (x y z : Int) (x0 : 0 ≤ x) (x1 : x < 256) (y0 : 0 ≤ y) (y1 : y < 256) (z0 : 0 ≤ z) (z1 : z < 256) (W : World) (q : Nat) (hq : q = W.heap.size) : (convert 131 9 (.slice (some ⟨q, 0, none⟩) 3 3)).run Tryz.prog (W.alloc (.cells #[.int .u8 x, .int .u8 y, .int .u8 z] 5)) = .ok (.string ⟨(leB x.toNat 1 ++ leB y.toNat 1 ++ leB z.toNat 1).toArray⟩) (W.alloc (.cells #[.int .u8 x, .int .u8 y, .int .u8 z] 5)) := by
  refine conv_lit W (leB x.toNat 1 ++ leB y.toNat 1 ++ leB z.toNat 1) _ ?_ 3 (by simp [leB_len]) (by decide) q hq
  simp only [leB, List.cons_append, List.nil_append, Lib.byteCells, List.map_cons, List.map_nil]
  simp
  omega
set_option maxRecDepth 100000 in
set_option maxHeartbeats 2000000 in
theorem enc12_any (a b : Int) (rs : List RuT) (w : World) (T : Nat → TypeId → Prop) (u : Value) (hu : At w T (rusD rs) u) (h : rusOk 0 rs = true) (hrs : rs.length ≤ 24) (a0 : 1 ≤ a) (a1 : a ≤ 1073741824) (b0 : 1 ≤ b) (b1 : b ≤ 1073741824) :
    Calls Tryz.prog 57 #[.agg #[.int .i64 a, .int .i64 b, u]] w fun e w' => e = .returned (.string ⟨(prBytes a b rs).toArray⟩) ∧ Below w.heap.size w w' := by
  obtain ⟨ra, c, rfl, hc0, hc1, hrow⟩ := row_at ruD 3 (fun _ => rfl) (by decide) hu
  have HR := Lib.hid hrow
  have HO := Lib.hid h
  have hb0 := (Below.refl _ w).alloc (Nat.le_refl _) (.cells #[.int .i64 a, .int .i64 b, .slice ra rs.length c] 101)
  have H0 := Lib.hid (And.intro (heap_alloc_new w (.cells #[.int .i64 a, .int .i64 b, .slice ra rs.length c] 101)) hb0)
  have hL : ∀ n k, (leB n k).length = k := leB_len
  clear hu hrow h hb0
  go_enter Tryz.func57, Tryz.ntmps57
  go_wp2_with fail
  refine wp_region_frame (by kernel_rfl) (by kernel_rfl) (by kernel_rfl) (byList (e12_list w.heap.size rs.length c a b ra)) (lasts_list (e12_list_lasts w.heap.size rs.length c a b ra)) ?_ ?_
  · intro vs w' iq o A F hb ho hd
    have m1 : A.tmps[1]?.getD undef = (.pointer (some ⟨w.heap.size, 0, none⟩)) := F.m (by kernel_rfl) rfl
    have G := F.light (n := 74) (by kernel_rfl)
    clear F
    have hz0 := keep hb H0.out.1
    have s0 := cell_at hz0 0
    have s1 := cell_at hz0 1
    have s2 := cell_at hz0 2
    simp at s0 s1 s2
    clear hb hz0
    revert ho hd
    match iq with
    | 0 => intro ho hd; obtain rfl := (Option.some.inj ho).symm; clear hd ho; refine step_open rfl ?_; clear G; exact step_run (v := (.pointer (some ⟨w.heap.size, 0, none⟩))) (by go_simp) rfl
    | 1 => intro ho hd; obtain rfl := (Option.some.inj ho).symm; have d0 : vs 0 = (.pointer (some ⟨w.heap.size, 0, none⟩)) := hd ⟨0, .data⟩ (by simp) rfl; clear hd ho; have h9 := G.h (j := 0) (d := 9) rfl (by decide) d0; refine step_open rfl ?_; clear G; exact step_run (v := (.int .i64 a)) (by go_simp) rfl
    | 2 => intro ho hd; obtain rfl := (Option.some.inj ho).symm; have d1 : vs 1 = (.int .i64 a) := hd ⟨1, .data⟩ (by simp) rfl; clear hd ho; have h10 := G.h (j := 1) (d := 10) rfl (by decide) d1; refine step_open rfl ?_; clear G; go_simp; refine (quad_any a _ (by omega) (by omega)).mono ?_; rintro e w2 ⟨rfl, hb2⟩; exact ⟨_, rfl, rfl, hb2⟩
    | 3 => intro ho hd; obtain rfl := (Option.some.inj ho).symm; have d2 : vs 2 = (.string (ByteArray.mk (leB a.toNat 4).toArray)) := hd ⟨2, .data⟩ (by simp) rfl; clear hd ho; have h11 := G.h (j := 2) (d := 11) rfl (by decide) d2; refine step_open rfl ?_; clear G; exact step_run (v := (.string (ByteArray.mk #[77] ++ ByteArray.mk (leB a.toNat 4).toArray))) (by go_simp) rfl
    | 4 => intro ho hd; obtain rfl := (Option.some.inj ho).symm; clear hd ho; refine step_open rfl ?_; clear G; exact step_run (v := (.pointer (some ⟨w.heap.size, 1, none⟩))) (by go_simp) rfl
    | 5 => intro ho hd; obtain rfl := (Option.some.inj ho).symm; have d4 : vs 4 = (.pointer (some ⟨w.heap.size, 1, none⟩)) := hd ⟨4, .data⟩ (by simp) rfl; clear hd ho; have h13 := G.h (j := 4) (d := 13) rfl (by decide) d4; refine step_open rfl ?_; clear G; exact step_run (v := (.int .i64 b)) (by go_simp) rfl
    | 6 => intro ho hd; obtain rfl := (Option.some.inj ho).symm; have d5 : vs 5 = (.int .i64 b) := hd ⟨5, .data⟩ (by simp) rfl; clear hd ho; have h14 := G.h (j := 5) (d := 14) rfl (by decide) d5; refine step_open rfl ?_; clear G; go_simp; refine (quad_any b _ (by omega) (by omega)).mono ?_; rintro e w2 ⟨rfl, hb2⟩; exact ⟨_, rfl, rfl, hb2⟩
    | 7 => intro ho hd; obtain rfl := (Option.some.inj ho).symm; have d3 : vs 3 = (.string (ByteArray.mk #[77] ++ ByteArray.mk (leB a.toNat 4).toArray)) := hd ⟨3, .data⟩ (by simp) rfl; have d6 : vs 6 = (.string (ByteArray.mk (leB b.toNat 4).toArray)) := hd ⟨6, .data⟩ (by simp) rfl; clear hd ho; have h12 := G.h (j := 3) (d := 12) rfl (by decide) d3; have h15 := G.h (j := 6) (d := 15) rfl (by decide) d6; refine step_open rfl ?_; clear G; exact step_run (v := (.string (ByteArray.mk #[77] ++ ByteArray.mk (leB a.toNat 4).toArray ++ ByteArray.mk (leB b.toNat 4).toArray))) (by go_simp) rfl
    | 8 => intro ho hd; obtain rfl := (Option.some.inj ho).symm; clear hd ho; refine step_open rfl ?_; clear G; exact step_run (v := (.pointer (some ⟨w.heap.size, 2, none⟩))) (by go_simp) rfl
    | 9 => intro ho hd; obtain rfl := (Option.some.inj ho).symm; have d8 : vs 8 = (.pointer (some ⟨w.heap.size, 2, none⟩)) := hd ⟨8, .data⟩ (by simp) rfl; clear hd ho; have h17 := G.h (j := 8) (d := 17) rfl (by decide) d8; refine step_open rfl ?_; clear G; exact step_run (v := (.slice ra rs.length c)) (by go_simp) rfl
    | 10 => intro ho hd; obtain rfl := (Option.some.inj ho).symm; have d9 : vs 9 = (.slice ra rs.length c) := hd ⟨9, .data⟩ (by simp) rfl; clear hd ho; have h18 := G.h (j := 9) (d := 18) rfl (by decide) d9; refine step_open rfl ?_; clear G; exact step_run (v := (.int .i64 (rs.length : Int))) (by go_simp) rfl
    | 11 => intro ho hd; obtain rfl := (Option.some.inj ho).symm; have d10 : vs 10 = (.int .i64 (rs.length : Int)) := hd ⟨10, .data⟩ (by simp) rfl; clear hd ho; have h19 := G.h (j := 10) (d := 19) rfl (by decide) d10; refine step_open rfl ?_; clear G; have e8 : IntKind.u8.wrap (rs.length : Int) = (rs.length : Int) := (by rw [IntKind.wrap_u8]; omega); exact step_run (v := (.int .u8 (rs.length : Int))) (by go_simp) rfl
    | 12 => intro ho hd; obtain rfl := (Option.some.inj ho).symm; have d11 : vs 11 = (.int .u8 (rs.length : Int)) := hd ⟨11, .data⟩ (by simp) rfl; clear hd ho; have h20 := G.h (j := 11) (d := 20) rfl (by decide) d11; refine step_open rfl ?_; clear G; go_simp; exact ⟨_, rfl, (show IsRow _ _ _ _ _ from ⟨_, rfl, heap_alloc_new _ _⟩), by go_grown⟩
    | 13 => intro ho hd; obtain rfl := (Option.some.inj ho).symm; obtain ⟨q12, d12, b12⟩ : IsRow #[.int .u8 (rs.length : Int)] 1 5 (vs 12) w' := hd ⟨12, .data⟩ (by simp) rfl; clear hd ho; have h21 := G.h (j := 12) (d := 21) rfl (by decide) d12; refine step_open rfl ?_; clear G; have cv := conv_blk (leB rs.length 1) (by rw [leB_succ]; simp [leB, Lib.byteCells]; omega) 1 (leB_len _ _) (by decide) b12; exact step_run (v := (.string (ByteArray.mk (leB rs.length 1).toArray))) (by go_simp) rfl
    | 14 => intro ho hd; obtain rfl := (Option.some.inj ho).symm; have d7 : vs 7 = (.string (ByteArray.mk #[77] ++ ByteArray.mk (leB a.toNat 4).toArray ++ ByteArray.mk (leB b.toNat 4).toArray)) := hd ⟨7, .data⟩ (by simp) rfl; have d13 : vs 13 = (.string (ByteArray.mk (leB rs.length 1).toArray)) := hd ⟨13, .data⟩ (by simp) rfl; clear hd ho; have h16 := G.h (j := 7) (d := 16) rfl (by decide) d7; have h22 := G.h (j := 13) (d := 22) rfl (by decide) d13; refine step_open rfl ?_; clear G; exact step_run (v := (.string (ByteArray.mk #[77] ++ ByteArray.mk (leB a.toNat 4).toArray ++ ByteArray.mk (leB b.toNat 4).toArray ++ ByteArray.mk (leB rs.length 1).toArray))) (by go_simp) rfl
    | 15 => intro ho hd; obtain rfl := (Option.some.inj ho).symm; have d14 : vs 14 = (.string (ByteArray.mk #[77] ++ ByteArray.mk (leB a.toNat 4).toArray ++ ByteArray.mk (leB b.toNat 4).toArray ++ ByteArray.mk (leB rs.length 1).toArray)) := hd ⟨14, .data⟩ (by simp) rfl; clear hd ho; have h23 := G.h (j := 14) (d := 23) rfl (by decide) d14; refine step_open rfl ?_; clear G; exact step_run (v := (.string (ByteArray.mk #[77] ++ ByteArray.mk (leB a.toNat 4).toArray ++ ByteArray.mk (leB b.toNat 4).toArray ++ ByteArray.mk (leB rs.length 1).toArray))) (by go_simp) rfl
    | n + 16 => intro ho hd; simp at ho
  · intro vs w' hb hR
    have hv : vs 15 = .string (ByteArray.mk #[77] ++ ByteArray.mk (leB a.toNat 4).toArray ++ ByteArray.mk (leB b.toNat 4).toArray ++ ByteArray.mk (leB rs.length 1).toArray) := hR 15 (by decide)
    have hbB := H0.out.2.trans (hb.mono (by have := H0.out.2.size; omega))
    have hK0 := keep hb H0.out.1
    simp only [putAll, Act.put, List.setIfInBounds_toArray, List.set_cons_succ, List.set_cons_zero]
    rw [show (ByteArray.mk #[77]) = ByteArray.mk ([77] : List UInt8).toArray from rfl, ba_cat, ba_cat, ba_cat] at hv
    obtain ⟨S, hS⟩ : ∃ S, S = [77] ++ leB a.toNat 4 ++ leB b.toNat 4 ++ leB rs.length 1 := ⟨_, rfl⟩
    rw [← hS] at hv
    have hSl : S.length = 10 := by rw [hS]; simp [leB_len]
    have HSS := Lib.hid hS
    rw [hv]
    clear H0 hb hR hv hS
    go_wp2_with fail
    go_loopw [3, 4] (fun s i wr => ∃ (k : Nat), k ≤ rs.length ∧ i = .int .i64 k ∧ s = .string ⟨(S ++ (rs.take k).flatMap ruBytes).toArray⟩ ∧ wr.heap[w.heap.size]? = some (.cells #[.int .i64 a, .int .i64 b, .slice ra rs.length c] 101 (0, 0)) ∧ Below w.heap.size w wr) (fun _ i _ => rs.length - (intOf i).toNat)
    case atStart => exact ⟨0, Nat.zero_le _, rfl, by simp, hK0, hbB⟩
    case round =>
      obtain ⟨k, hk, rfl, rfl, hq, hbw⟩ := hrel
      obtain ⟨wk, rfl⟩ : ∃ wk, wk = wr := ⟨wr, rfl⟩
      have p2 := cell_at hq 2
      simp at p2
      by_cases hlt : k < rs.length
      · have hx := List.getElem?_eq_getElem hlt
        generalize rs[k] = r at *
        obtain ⟨m0, hm0, hok⟩ := rusOk_get (Int.le_refl 0) HO.out hx
        have hsn := Lib.hid (flat_snoc ruBytes hx)
        have hlen := flat_len_le ruBytes 59 (rs.take k) (fun x hx => by
          obtain ⟨j, hj⟩ := List.mem_iff_getElem?.1 (List.mem_of_mem_take hx)
          obtain ⟨m, _, hm⟩ := rusOk_get (Int.le_refl 0) HO.out hj
          unfold ruOk at hm
          simp only [Bool.and_eq_true, decide_eq_true_eq] at hm
          rw [ruBytes_len]; omega)
        rw [List.length_take] at hlen
        obtain ⟨S1, hS1⟩ : ∃ S1, S1 = S ++ (rs.take k).flatMap ruBytes := ⟨_, rfl⟩
        have hS1l : S1.length ≤ 2000 := by rw [hS1, List.length_append]; omega
        have HS1 := Lib.hid hS1
        rw [← hS1]
        clear hS1 hlen
        unfold ruOk at hok
        simp only [Bool.and_eq_true, decide_eq_true_eq, Bool.or_eq_true, List.isEmpty_iff] at hok
        obtain ⟨⟨⟨⟨⟨⟨g0, g1⟩, g2⟩, g3⟩, g4⟩, g5⟩, hall⟩ := hok
        obtain ⟨q, off, rfl, hqb, hcell⟩ := HR.out k r hx
        obtain ⟨v0, c0, e0⟩ := hcell 0 _ rfl
        obtain rfl := at_v e0
        obtain ⟨v1, c1, e1⟩ := hcell 1 _ rfl
        obtain rfl := at_v e1
        obtain ⟨v2, c2, e2⟩ := hcell 2 _ rfl
        have d := fun o => hbw.cell (p := ⟨q, o, none⟩) hqb
        have d0 : wk.cell? ⟨q, off + k * 3, none⟩ = some (.int .i64 r.nw) := (d _).trans c0
        have d1 : wk.cell? ⟨q, off + k * 3 + 1, none⟩ = some (.int .i64 r.old) := (d _).trans c1
        have d2 : wk.cell? ⟨q, off + k * 3 + 2, none⟩ = some v2 := (d _).trans c2
        obtain ⟨ba, bc, rfl, _, _, hrow⟩ := row1_at codeD e2
        have HROW := Lib.hid hrow
        have HALL := Lib.hid hall
        clear hcell c0 c1 c2 e0 d hrow hall e1
        have k3 := conv_three r.nw r.old (r.ex.length : Int) (by omega) (by omega) (by omega) (by omega) (by omega) (by omega)
        have hBW := hbw.alloc hbw.size (.cells #[.int .i64 r.nw, .int .i64 r.old, .slice ba r.ex.length bc] 147)
        have hqW := keepA (.cells #[.int .i64 r.nw, .int .i64 r.old, .slice ba r.ex.length bc] 147) hq
        have hrW := heap_alloc_new wk (.cells #[.int .i64 r.nw, .int .i64 r.old, .slice ba r.ex.length bc] 147)
        have HW := Lib.hid (And.intro (hBW.alloc hBW.size (.cells #[.int .u8 r.nw, .int .u8 r.old, .int .u8 (r.ex.length : Int)] 5)) (And.intro (keepA (.cells #[.int .u8 r.nw, .int .u8 r.old, .int .u8 (r.ex.length : Int)] 5) hqW) (keepA (.cells #[.int .u8 r.nw, .int .u8 r.old, .int .u8 (r.ex.length : Int)] 5) hrW)))
        clear hBW hqW hrW
        go_wp2_with fail
        obtain ⟨S2, hS2⟩ : ∃ S2, S2 = S1 ++ (leB r.nw.toNat 1 ++ leB r.old.toNat 1 ++ leB r.ex.length 1) := ⟨_, rfl⟩
        have hS2l : S2.length ≤ 2003 := by rw [hS2]; simp [leB_len]; omega
        have HS2 := Lib.hid hS2
        go_loopw [3, 6] (fun s j wi => ∃ (m : Nat), m ≤ r.ex.length ∧ j = .int .i64 m ∧ s = .string ⟨(S2 ++ (r.ex.take m).flatMap fun x => partB (codeBytes x)).toArray⟩ ∧ wi.heap[w.heap.size]? = some (.cells #[.int .i64 a, .int .i64 b, .slice (some ⟨q, off, none⟩) rs.length c] 101 (0, 0)) ∧ wi.heap[wk.heap.size]? = some (.cells #[.int .i64 r.nw, .int .i64 r.old, .slice ba r.ex.length bc] 147 (0, 0)) ∧ Below w.heap.size w wi) (fun _ j _ => r.ex.length - (intOf j).toNat)
        case atStart => exact ⟨0, Nat.zero_le _, rfl, by rw [hS2]; simp [ba_cat], HW.out.2.1, HW.out.2.2, HW.out.1⟩
        case round =>
          obtain ⟨m, hm, rfl, rfl, hq2, hq3, hbi⟩ := hrel
          clear HW hS2
          have t2 := cell_at hq3 2
          have hzl := lt_some hq3
          generalize wk.heap.size = z at *
          simp at t2
          by_cases hmt : m < r.ex.length
          · have hy := List.getElem?_eq_getElem hmt
            generalize r.ex[m] = x at *
            have hio := all_mem HALL.out hy
            have hsn2 := Lib.hid (flat_snoc (fun x => partB (codeBytes x)) hy)
            obtain ⟨q1, off1, v1, rfl, hq1, hv, hA⟩ := HROW.out m x hy
            have hv' := (hbi.cell (p := ⟨q1, off1 + m, none⟩) hq1).trans hv
            have HV := Lib.hid (hA.below hbi)
            obtain ⟨S3, hS3⟩ : ∃ S3, S3 = S2 ++ (r.ex.take m).flatMap fun x => partB (codeBytes x) := ⟨_, rfl⟩
            have hS3l : S3.length ≤ 2100 := by rw [hS3, List.length_append, exs_len, List.length_take]; omega
            have HS3 := Lib.hid hS3
            have hcl := codeBytes_len x
            rw [← hS3]
            clear hv hA hS3
            go_wp2_with fail
            refine (enc11_any x _ T v1 HV.out hio).mono ?_
            rintro e w1 ⟨rfl, hb1⟩
            have hbel := hbi.trans (hb1.mono hbi.size)
            have hq4 := keep hb1 hq2
            have hq5 := keep hb1 hq3
            clear hb1
            go_wp2_with fail
            refine (quad_any _ _ (by simp) (by simp)).mono ?_
            rintro e w2 ⟨rfl, hb2⟩
            have hbel2 := hbel.trans (hb2.mono hbel.size)
            have hq6 := keep hb2 hq4
            have hq7 := keep hb2 hq5
            clear hb2 hq4 hq5 hbel
            go_wp2_with fail

            refine ⟨?_, ?measure⟩
            apply Exists.intro
            apply Exists.intro
            (repeat apply Exists.intro)
            refine ⟨?rel, rfl⟩
            case rel =>
              refine ⟨m + 1, by omega, by go_num, ?_, hq6, hq7, hbel2⟩
              rw [hsn2.out, ← List.append_assoc, ← HS3.out]
              unfold partB
              simp [ba_cat, hcl]
            case measure => simp [intOf]; omega
          · obtain rfl : m = r.ex.length := by omega
            go_wp2
            go_roundw
            case rel =>
              refine ⟨k + 1, by omega, by go_num, ?_, hq2, hbi⟩
              rw [hsn.out, ← List.append_assoc, ← HS1.out, HS2.out, List.take_length]
              unfold ruBytes
              simp
            case measure => simp [intOf]; omega
      · obtain rfl : k = rs.length := by omega
        rw [List.take_length]
        have hfin := HSS.out
        go_wp2
        go_ret
        refine ⟨?_, hbw⟩
        rw [hfin]; rfl
end Go.Proofs.YtgnilkjdpfbjgaaGreat
namespace Go.Proofs.YtgnilkjdpfbjgaaGreat
open Go.RowKit
set_option linter.unusedVariables false
/-- A bit of a number. -/
def bitAt (s : Int) (i : Nat) : Bool := s / 2 ^ i % 2 == 1
/-- The first k of 32 bits, the others not set. -/
def bitsK (s : Int) (k : Nat) : List Value := (List.range 32).map fun i => .bool (decide (i < k) && bitAt s i)
def bitsV (s : Int) : Array Value := (bitsK s 32).toArray
theorem bitsK_len (s : Int) (k : Nat) : (bitsK s k).length = 32 := by simp [bitsK]
theorem bitsK_get (s : Int) (k : Nat) {i : Nat} (h : i < 32) : (bitsK s k)[i]? = some (.bool (decide (i < k) && bitAt s i)) := by
  unfold bitsK; rw [List.getElem?_map, List.getElem?_range h]; rfl
theorem bitsV_get (s : Int) {i : Nat} (h : i < 32) : (bitsV s)[i]? = some (.bool (bitAt s i)) := by
  unfold bitsV
  rw [List.getElem?_toArray, bitsK_get s 32 h]; simp [h]
theorem bitsK_set (s : Int) (k : Nat) (h : k < 32) : (bitsK s k).set k (.bool (bitAt s k)) = bitsK s (k + 1) := by
  apply List.ext_getElem?
  intro i
  rw [List.getElem?_set]
  by_cases hi : i < 32
  · rw [bitsK_get _ _ hi, bitsK_get _ _ hi]
    by_cases hk : k = i
    · subst hk; rw [if_pos rfl, if_pos (by rw [bitsK_len]; omega)]; simp
    · rw [if_neg hk]
      congr 3
      have : (i < k) ↔ (i < k + 1) := by omega
      simp [this]
  · rw [List.getElem?_eq_none (by rw [bitsK_len]; omega), List.getElem?_eq_none (by rw [bitsK_len]; omega), if_neg (by omega)]
theorem bitsK_one (s : Int) (k : Nat) : (bitsK s k).toArray.all (·.oneCell') = true := by
  rw [Array.all_eq_true_iff_forall_mem]; intro v hv; simp [bitsK] at hv; obtain ⟨x, _, rfl⟩ := hv; rfl
def zerosB : Array Value := #[.bool false, .bool false, .bool false, .bool false, .bool false, .bool false, .bool false, .bool false, .bool false, .bool false, .bool false, .bool false, .bool false, .bool false, .bool false, .bool false, .bool false, .bool false, .bool false, .bool false, .bool false, .bool false, .bool false, .bool false, .bool false, .bool false, .bool false, .bool false, .bool false, .bool false, .bool false, .bool false]
theorem zerosBV : (#[.bool false, .bool false, .bool false, .bool false, .bool false, .bool false, .bool false, .bool false, .bool false, .bool false, .bool false, .bool false, .bool false, .bool false, .bool false, .bool false, .bool false, .bool false, .bool false, .bool false, .bool false, .bool false, .bool false, .bool false, .bool false, .bool false, .bool false, .bool false, .bool false, .bool false, .bool false, .bool false] : Array Value) = zerosB := rfl
theorem zerosB_eq (s : Int) : zerosB = (bitsK s 0).toArray := by
  unfold bitsK zerosB
  simp [List.range, List.range.loop]
theorem zerosB_one : zerosB.all (·.oneCell') = true := by
  rw [Array.all_eq_true_iff_forall_mem]; intro v hv; simp [zerosB] at hv; subst hv; rfl
theorem Tryz.size185 : (Tryz.prog.info? 185).map (·.size) = some 32 := by kernel_rfl
theorem pow_nn (k : Nat) : (0 : Int) ≤ 2 ^ k := by
  induction k with
  | zero => simp
  | succ k ih => rw [Int.pow_succ]; omega
theorem shift_succ (s : Int) (k : Nat) : s / 2 ^ (k + 1) = s / 2 ^ k / 2 := by
  rw [Int.pow_succ, Int.ediv_ediv_of_nonneg (pow_nn k)]
theorem shift_bd {s : Int} (h0 : 0 ≤ s) (hs : s ≤ 4294967295) (k : Nat) : 0 ≤ s / 2 ^ k ∧ s / 2 ^ k ≤ 4294967295 := by
  induction k with
  | zero => simp; omega
  | succ k ih => rw [shift_succ]; omega
theorem bset {s : Int} {k : Nat} {ub : Nat} {w : World} (hk : k < 32) (h : w.heap[ub]? = some (.cells (bitsK s k).toArray 185 (0, 0))) : (w.setCell ⟨ub, k, none⟩ (.bool (bitAt s k))).heap[ub]? = some (.cells (bitsK s (k + 1)).toArray 185 (0, 0)) := by
  rw [hset _ _ _ _ _ _ _ h, List.setIfInBounds_toArray, bitsK_set _ _ hk]
set_option maxRecDepth 100000 in
set_option maxHeartbeats 1000000 in
theorem bits10_any (s : Int) (w : World) (h0 : 0 ≤ s) (hs : s ≤ 4294967295) : Calls Tryz.prog 93 #[.int .u32 s] w fun e w' => e = .returned (.agg (bitsV s)) ∧ Below w.heap.size w w' := by
  have hR0 := keepA (.cells zerosB 185) (heap_alloc_new w (.cells zerosB 185))
  have hU0 := heap_alloc_new (w.alloc (.cells zerosB 185)) (.cells zerosB 185)
  have hi0 : (Tryz.prog.info? 185).map (·.size) = some zerosB.size := Tryz.size185
  rw [World.size_alloc] at hU0
  have hbel0 : Below w.heap.size w ((w.alloc (.cells zerosB 185)).alloc (.cells zerosB 185)) := by go_grown
  have HB := Lib.hid (And.intro hR0 (And.intro hU0 (And.intro hi0 hbel0)))
  clear hR0 hU0 hi0 hbel0
  go_enter Tryz.func93, Tryz.ntmps93
  go_wp2_with (first | (refine wpList_store_row rfl 185 (.tmp 3) (.tmp 5) rfl (w.heap.size + 1) zerosB rfl rfl 185 zerosB HB.out.2.1 HB.out.2.2.1 rfl zerosB_one ?_))
  rw [zerosBV]
  obtain ⟨hR, hU, hi, hbel⟩ := HB.out
  clear HB
  have hR := (setRow_other _ (w.heap.size + 1) w.heap.size zerosB (by omega)).trans hR
  have hU := setRow_heap _ (w.heap.size + 1) zerosB zerosB _ _ hU
  have hbel := below_setRow hbel (by omega : w.heap.size ≤ w.heap.size + 1) zerosB
  generalize ((w.alloc (.cells zerosB 185)).alloc (.cells zerosB 185)).setRow (w.heap.size + 1) zerosB = W at hR hU hbel ⊢
  rw [zerosB_eq s] at hU
  generalize hub : w.heap.size + 1 = ub at *
  have nub : w.heap.size < ub := by omega
  have HI := Lib.hid (And.intro hR (And.intro hU hbel))
  have HNU := Lib.hid nub
  clear hR hU hbel hub nub
  go_loopw [0, 4] (fun x i wr => ∃ k : Nat, k ≤ 32 ∧ x = .int .u32 (s / 2 ^ k) ∧ i = .int .i64 k ∧ wr.heap[w.heap.size]? = some (.cells zerosB 185 (0, 0)) ∧ wr.heap[ub]? = some (.cells (bitsK s k).toArray 185 (0, 0)) ∧ Below w.heap.size w wr) (fun _ i _ => 32 - (intOf i).toNat)
  case atStart => exact ⟨0, by omega, by simp, rfl, HI.out.1, HI.out.2.1, HI.out.2.2⟩
  case round =>
    obtain ⟨k, hk, rfl, rfl, hR, hU, hbw⟩ := hrel
    have hsb := shift_bd h0 hs k
    have hsc := Lib.hid (shift_succ s k)
    by_cases hlt : k < 32
    · have hbs := bset hlt hU
      have f1 := free_at hU k
      have c1 := (cell_at hU k).trans (show (bitsK s k).toArray[k]? = _ by rw [List.getElem?_toArray, bitsK_get s k hlt])
      have i1 : (0 : Int) ≤ (k : Int) := by omega
      have i2 : (k : Int) < 32 := by omega
      have HH := Lib.hid (And.intro hR (And.intro hbs hbw))
      unfold bitAt at hbs
      clear hR hU hbw hbs
      obtain ⟨q0, q1⟩ := hsb
      have HQ : Hid (bitAt s k = (s / 2 ^ k % 2 == 1)) := Lib.hid rfl
      generalize s / 2 ^ k = q at *
      have hm := Int.tmod_eq_emod_of_nonneg (a := q) (b := 2) q0
      have hd := Int.tdiv_eq_ediv_of_nonneg (a := q) (b := 2) q0
      go_wp2_with fail
      go_roundw
      case rel =>
        refine ⟨k + 1, by omega, by rw [hsc.out], by go_num, ?_, ?_, HH.out.2.2.setCell (by have := HNU.out; simp; omega) _⟩
        · rw [hset_ne _ _ _ _ (by have := HNU.out; simp; omega)]; exact HH.out.1
        · have h := HH.out.2.1; rw [HQ.out] at h; exact h
      case measure => simp [intOf]; omega
    · obtain rfl : k = 32 := by omega
      have hsz : (bitsV s).size = 32 := by simp [bitsV, bitsK_len]
      have hi : (Tryz.prog.info? 185).map (·.size) = some (bitsV s).size := by rw [hsz]; exact Tryz.size185
      have hs2 : zerosB.size = (bitsV s).size := by rw [hsz]; rfl
      have HT := Lib.hid (setRow_heap wr w.heap.size zerosB (bitsV s) 185 (0, 0) hR)
      have HS := Lib.hid (And.intro (show wr.heap[ub]? = some (.cells (bitsV s) 185 (0, 0)) from hU) (And.intro hR (And.intro hi (And.intro hs2 hbw))))
      clear hU hR hi hs2 hbw hsz hsb
      go_wp2_with (first | (refine wpList_load_row rfl 185 (.tmp 3) rfl ub rfl 185 (bitsV s) (0, 0) _ HS.out.1 Tryz.underlying185 rfl HS.out.2.2.1 ?_) | (refine wpList_store_row rfl 185 (.tmp 2) (.tmp 17) rfl w.heap.size (bitsV s) rfl rfl 185 zerosB HS.out.2.1 HS.out.2.2.1 HS.out.2.2.2.1 (bitsK_one s 32) ?_))
      refine bodyPost_ret (v := .agg (bitsV s)) (results_cell_row rfl _ _ w.heap.size 185 (bitsV s) (0, 0) _ rfl HT.out Tryz.underlying185 rfl HS.out.2.2.1) rfl ⟨rfl, ?_⟩
      exact below_setRow HS.out.2.2.2.2 (Nat.le_refl _) _
/-- No bit beside 1 to 24. -/
def is10 (s : Int) : Bool := (List.range 32).all fun i => !(bitAt s i) || decide (1 ≤ i ∧ i ≤ 24)
set_option maxRecDepth 100000 in
set_option maxHeartbeats 1000000 in
theorem is10_any (s : Int) (w : World) (h0 : 0 ≤ s) (hs : s ≤ 4294967295) : Calls Tryz.prog 69 #[.int .u32 s] w fun e w' => e = .returned (.bool (is10 s)) ∧ Below w.heap.size w w' := by
  go_enter Tryz.func69, Tryz.ntmps69
  go_wp2_with fail
  refine (bits10_any s _ h0 hs).mono ?_
  rintro e w1 ⟨rfl, hb1⟩
  have hz1 := hb1.size
  have hsz : (bitsV s).size = 32 := by simp [bitsV, bitsK_len]
  have hi : (Tryz.prog.info? 185).map (·.size) = some (bitsV s).size := by rw [hsz]; exact Tryz.size185
  have hs2 : zerosB.size = (bitsV s).size := by rw [hsz]; rfl
  have hU0 := heap_alloc_new w1 (.cells zerosB 185)
  have hU := setRow_heap _ w1.heap.size zerosB (bitsV s) _ _ hU0
  have hbw : Below w.heap.size w ((w1.alloc (.cells zerosB 185)).setRow w1.heap.size (bitsV s)) := below_setRow (hb1.alloc hz1 _) hz1 _
  have HS := Lib.hid (And.intro hU0 (And.intro hi hs2))
  have HU := Lib.hid (And.intro hU hbw)
  clear hU0 hi hs2 hU hbw hsz hb1
  go_wp2_with (first | (refine wpList_store_row rfl 185 (.tmp 3) (.tmp 6) rfl w1.heap.size (bitsV s) rfl rfl 185 zerosB HS.out.1 HS.out.2.1 HS.out.2.2 (bitsK_one s 32) ?_))
  rw [zerosBV]
  obtain ⟨hU, hbw⟩ := HU.out
  clear HU HS
  generalize (w1.alloc (.cells zerosB 185)).setRow w1.heap.size (bitsV s) = W at *
  generalize w1.heap.size = ub at *
  go_loop [4] (fun i => ∃ k : Nat, k ≤ 32 ∧ i = .int .i64 k ∧ ∀ j, j < k → (!(bitAt s j) || decide (1 ≤ j ∧ j ≤ 24)) = true) (fun i => 32 - (intOf i).toNat)
  case atStart => exact ⟨0, by omega, rfl, fun j h => by omega⟩
  case round =>
    obtain ⟨k, hk, rfl, hall⟩ := hrel
    have HA := Lib.hid hall
    clear hall
    by_cases hlt : k < 32
    · have c1 := (cell_at hU k).trans (bitsV_get s hlt)
      have i1 : (0 : Int) ≤ (k : Int) := by omega
      have i2 : (k : Int) < 32 := by omega
      cases hb : bitAt s k
      · rw [hb] at c1
        have HB := Lib.hid hb
        clear hb
        go_wp2_with fail
        go_round
        case rel =>
          refine ⟨k + 1, by omega, by go_num, fun j hj => ?_⟩
          rcases (by omega : j < k ∨ j = k) with h | rfl
          · exact HA.out j h
          · rw [HB.out]; rfl
        case measure => simp [intOf]; omega
      · rw [hb] at c1
        have HB := Lib.hid hb
        clear hb
        rcases (by omega : k < 1 ∨ (1 ≤ k ∧ 24 < k) ∨ (1 ≤ k ∧ k ≤ 24)) with h | ⟨h, h'⟩ | ⟨h, h'⟩
        · have H : Hid (is10 s = false) := Lib.hid (by
            unfold is10; rw [List.all_eq_false]; exact ⟨k, List.mem_range.2 hlt, by rw [HB.out]; simp; omega⟩)
          have t1 : (k : Int) < 1 := by omega
          go_wp2_with fail
          go_returns
          exact ⟨ret_bool H.out.symm, hbw⟩
        · have H : Hid (is10 s = false) := Lib.hid (by
            unfold is10; rw [List.all_eq_false]; exact ⟨k, List.mem_range.2 hlt, by rw [HB.out]; simp; omega⟩)
          have t1 : ¬ (k : Int) < 1 := by omega
          have t2 : (24 : Int) < (k : Int) := by omega
          go_wp2_with fail
          go_returns
          exact ⟨ret_bool H.out.symm, hbw⟩
        · have t1 : ¬ (k : Int) < 1 := by omega
          have t2 : ¬ (24 : Int) < (k : Int) := by omega
          go_wp2_with fail
          go_round
          case rel =>
            refine ⟨k + 1, by omega, by go_num, fun j hj => ?_⟩
            rcases (by omega : j < k ∨ j = k) with h | rfl
            · exact HA.out j h
            · simp; omega
          case measure => simp [intOf]; omega
    · obtain rfl : k = 32 := by omega
      have H : Hid (is10 s = true) := Lib.hid (by
        unfold is10; rw [List.all_eq_true]; exact fun j hj => HA.out j (List.mem_range.1 hj))
      go_wp2_with fail
      go_returns
      exact ⟨ret_bool H.out.symm, hbw⟩
end Go.Proofs.YtgnilkjdpfbjgaaGreat
