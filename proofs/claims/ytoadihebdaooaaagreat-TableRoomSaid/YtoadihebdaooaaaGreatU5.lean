/- Sets of parts: OnesCount32, Sig.Len, sig.Of, sig.Parts. Printed by mkU5.py. -/
import Derived.Test.YtoadihebdaooaaaGreatU4
import Derived.Test.YtoadihebdaooaaaGreatB2
import Derived.Lib.BitFns
namespace Go.Proofs.YtoadihebdaooaaaGreat
open Go.RowKit
set_option linter.unusedVariables false
/-! ### Bits, counted -/
def bcount (x n : Nat) : Nat := (List.range n).countP fun j => x.testBit j
theorem bcount_zero (x : Nat) : bcount x 0 = 0 := rfl
theorem range_split (m n : Nat) : List.range (m + n) = List.range m ++ (List.range n).map (m + ·) := by
  induction n with
  | zero => simp
  | succ n ih => rw [← Nat.add_assoc, List.range_succ, ih, List.range_succ, List.map_append, List.append_assoc]; rfl
theorem bcount_add (x m n : Nat) : bcount x (m + n) = bcount x m + bcount (x / 2 ^ m) n := by
  unfold bcount
  rw [range_split, List.countP_append, List.countP_map]
  congr 1
  refine List.countP_congr (fun j _ => ?_)
  simp only [Function.comp]
  rw [Nat.testBit_div_two_pow, Nat.add_comm]
theorem bcount_mod (x m : Nat) : bcount (x % 2 ^ m) m = bcount x m := by
  unfold bcount
  refine List.countP_congr (fun j hj => ?_)
  rw [Nat.testBit_mod_two_pow]
  simp [List.mem_range.1 hj]
theorem pop_bits : ∀ (f x : Nat), Lib.popAux f x = bcount x f
  | 0, _ => rfl
  | f + 1, x => by
    rw [Lib.popAux, pop_bits f (x / 2), Nat.add_comm f 1, bcount_add x 1 f, Nat.pow_one]
    congr 1
    unfold bcount
    simp [Nat.testBit_zero]
    rcases Nat.mod_two_eq_zero_or_one x with h | h <;> simp [h]
theorem bcount_small {x : Nat} (h : x < 256) : Lib.onesCount x = bcount x 8 := by
  unfold Lib.onesCount
  rw [pop_bits, show 64 = 8 + 56 from rfl, bcount_add, show x / 2 ^ 8 = 0 from Nat.div_eq_of_lt (by simpa using h)]
  simp [bcount]
theorem bcount32 (x : Nat) : bcount x 32 = Lib.onesCount (x / 16777216 % 256) + Lib.onesCount (x / 65536 % 256) + Lib.onesCount (x / 256 % 256) + Lib.onesCount (x % 256) := by
  rw [bcount_small (Nat.mod_lt _ (by decide)), bcount_small (Nat.mod_lt _ (by decide)), bcount_small (Nat.mod_lt _ (by decide)), bcount_small (Nat.mod_lt _ (by decide))]
  rw [show (256 : Nat) = 2 ^ 8 from rfl, bcount_mod, bcount_mod, bcount_mod, bcount_mod]
  rw [show 32 = 8 + (8 + (8 + 8)) from rfl, bcount_add, bcount_add, bcount_add, Nat.div_div_eq_div_mul, Nat.div_div_eq_div_mul]
  simp
  omega
theorem pop8_nat {b : Nat} (h : b < 256) : Lib.pop8 (b : Int) = (Lib.onesCount b : Int) := Lib.pop8_eq ⟨b, h⟩
theorem ones_le {b : Nat} (h : b < 256) : Lib.onesCount b ≤ 8 := Lib.onesCount_le8 ⟨b, h⟩
theorem andByte (x : Nat) (h : x < 4294967296) : bits BinOp.and .u32 (x : Int) 255 = ((x % 256 : Nat) : Int) := by
  have := u32_and_nat x 255 h (by decide)
  rw [show ((255 : Nat) : Int) = 255 from rfl] at this
  rw [this, show (255 : Nat) = 2 ^ 8 - 1 from rfl, Nat.and_two_pow_sub_one_eq_mod]
def ones_list (x a b b' c c' d' k1 k2 k3 k4 : Nat) : List (Value → World → Prop) :=
  [IsV (.int .u32 (x : Int)),
   IsV (.int .u32 (a : Int)),
   IsV (.int .u8 (k1 : Int)),
   IsV (.int .u32 (x : Int)),
   IsV (.int .u32 (b : Int)),
   IsV (.int .u32 (b' : Int)),
   IsV (.int .u8 (k2 : Int)),
   IsV (.int .u8 (((k1 : Nat) : Int) + ((k2 : Nat) : Int))),
   IsV (.int .u32 (x : Int)),
   IsV (.int .u32 (c : Int)),
   IsV (.int .u32 (c' : Int)),
   IsV (.int .u8 (k3 : Int)),
   IsV (.int .u8 (((k1 : Nat) : Int) + ((k2 : Nat) : Int) + ((k3 : Nat) : Int))),
   IsV (.int .u32 (x : Int)),
   IsV (.int .u32 (d' : Int)),
   IsV (.int .u8 (k4 : Int)),
   IsV (.int .u8 (((k1 : Nat) : Int) + ((k2 : Nat) : Int) + ((k3 : Nat) : Int) + ((k4 : Nat) : Int))),
   IsV (.int .i64 (((k1 : Nat) : Int) + ((k2 : Nat) : Int) + ((k3 : Nat) : Int) + ((k4 : Nat) : Int))),
   IsV (.int .i64 (((k1 : Nat) : Int) + ((k2 : Nat) : Int) + ((k3 : Nat) : Int) + ((k4 : Nat) : Int)))]
theorem ones_list_lasts (x a b b' c c' d' k1 k2 k3 k4 : Nat) : ∀ p ∈ ones_list x a b b' c c' d' k1 k2 k3 k4 , Lasts p := by
  simp only [ones_list, List.mem_cons, List.not_mem_nil, or_false]
  rintro p hp
  repeat (rcases hp with rfl | hp; exact lasts_v _)
set_option maxRecDepth 100000 in
set_option maxHeartbeats 1000000 in
theorem ones_any (x : Nat) (w : World) (hx : x < 4294967296) : Calls Tryz.prog 157 #[.int .u32 (x : Int)] w fun e w' => e = .returned (.int .i64 (bcount x 32 : Int)) ∧ Below w.heap.size w w' := by
  obtain ⟨a, ha⟩ : ∃ a, x / 16777216 = a := ⟨_, rfl⟩
  obtain ⟨b, hb⟩ : ∃ b, x / 65536 = b := ⟨_, rfl⟩
  obtain ⟨c, hc⟩ : ∃ c, x / 256 = c := ⟨_, rfl⟩
  have q1 : (x : Int) / 16777216 = (a : Int) := by omega
  have q2 : (x : Int) / 65536 = (b : Int) := by omega
  have q3 : (x : Int) / 256 = (c : Int) := by omega
  have m1 := andByte b (by omega)
  have m2 := andByte c (by omega)
  have m3 := andByte x hx
  obtain ⟨b', hb'⟩ : ∃ b', b % 256 = b' := ⟨_, rfl⟩
  obtain ⟨c', hc'⟩ : ∃ c', c % 256 = c' := ⟨_, rfl⟩
  obtain ⟨d', hd'⟩ : ∃ d', x % 256 = d' := ⟨_, rfl⟩
  rw [hb'] at m1; rw [hc'] at m2; rw [hd'] at m3
  have pa := pop8_nat (show a < 256 by omega)
  have pb := pop8_nat (show b' < 256 by omega)
  have pc := pop8_nat (show c' < 256 by omega)
  have pd := pop8_nat (show d' < 256 by omega)
  have la := ones_le (show a < 256 by omega)
  have lb := ones_le (show b' < 256 by omega)
  have lc := ones_le (show c' < 256 by omega)
  have ld := ones_le (show d' < 256 by omega)
  have hr : bcount x 32 = Lib.onesCount a + Lib.onesCount b' + Lib.onesCount c' + Lib.onesCount d' := by rw [bcount32, hb, hc, hb', hc', hd', Nat.mod_eq_of_lt (show x / 16777216 < 256 by omega), ha]
  have r1 : (a : Int) ≤ 255 := by omega
  have r2 : (b' : Int) ≤ 255 := by omega
  have r3 : (c' : Int) ≤ 255 := by omega
  have r4 : (d' : Int) ≤ 255 := by omega
  have z1 : (0 : Int) ≤ (a : Int) := by omega
  have z2 : (0 : Int) ≤ (b' : Int) := by omega
  have z3 : (0 : Int) ≤ (c' : Int) := by omega
  have z4 : (0 : Int) ≤ (d' : Int) := by omega
  generalize Lib.onesCount a = k1 at *
  generalize Lib.onesCount b' = k2 at *
  generalize Lib.onesCount c' = k3 at *
  generalize Lib.onesCount d' = k4 at *
  have s1 : IntKind.u8.wrap ((k1 : Int) + (k2 : Int)) = (k1 : Int) + (k2 : Int) := by rw [IntKind.wrap_u8']; omega
  have s2 : IntKind.u8.wrap ((k1 : Int) + (k2 : Int) + (k3 : Int)) = (k1 : Int) + (k2 : Int) + (k3 : Int) := by rw [IntKind.wrap_u8']; omega
  have s3 : IntKind.u8.wrap ((k1 : Int) + (k2 : Int) + (k3 : Int) + (k4 : Int)) = (k1 : Int) + (k2 : Int) + (k3 : Int) + (k4 : Int) := by rw [IntKind.wrap_u8']; omega
  have s4 : IntKind.i64.wrap ((k1 : Int) + (k2 : Int) + (k3 : Int) + (k4 : Int)) = (k1 : Int) + (k2 : Int) + (k3 : Int) + (k4 : Int) := IntWalk.i64_in _ (by omega)
  have HR := Lib.hid (show (k1 : Int) + (k2 : Int) + (k3 : Int) + (k4 : Int) = (bcount x 32 : Int) by omega)
  clear hr ha hb hc hb' hc' hd' la lb lc ld hx
  go_enter Tryz.func157, Tryz.ntmps157
  go_wp2_with fail
  refine wp_region_frame (by kernel_rfl) (by kernel_rfl) (by kernel_rfl) (byList (ones_list x a b b' c c' d' k1 k2 k3 k4)) (lasts_list (ones_list_lasts x a b b' c c' d' k1 k2 k3 k4)) ?_ ?_
  · intro vs w' iq o A F hb ho hd
    have m0 : A.tmps[0]?.getD undef = (.int .u32 (x : Int)) := F.m (by kernel_rfl) rfl
    have G := F.light (n := 21) (by kernel_rfl)
    clear F
    revert ho hd
    match iq with
    | 0 =>
      intro ho hd
      obtain rfl := (Option.some.inj ho).symm
      clear hd ho
      refine step_open rfl ?_
      clear G
      exact step_run (v := (.int .u32 (x : Int))) (by go_simp) rfl
    | 1 =>
      intro ho hd
      obtain rfl := (Option.some.inj ho).symm
      have d0 : vs 0 = (.int .u32 (x : Int)) := hd ⟨0, .data⟩ (by simp) rfl
      clear hd ho
      have h3 := G.h (j := 0) (d := 3) rfl (by decide) d0
      refine step_open rfl ?_
      clear G
      exact step_run (v := (.int .u32 (a : Int))) (by go_simp) rfl
    | 2 =>
      intro ho hd
      obtain rfl := (Option.some.inj ho).symm
      have d1 : vs 1 = (.int .u32 (a : Int)) := hd ⟨1, .data⟩ (by simp) rfl
      clear hd ho
      have h4 := G.h (j := 1) (d := 4) rfl (by decide) d1
      refine step_open rfl ?_
      clear G
      exact step_run (v := (.int .u8 (k1 : Int))) (by go_simp) rfl
    | 3 =>
      intro ho hd
      obtain rfl := (Option.some.inj ho).symm
      clear hd ho
      refine step_open rfl ?_
      clear G
      exact step_run (v := (.int .u32 (x : Int))) (by go_simp) rfl
    | 4 =>
      intro ho hd
      obtain rfl := (Option.some.inj ho).symm
      have d3 : vs 3 = (.int .u32 (x : Int)) := hd ⟨3, .data⟩ (by simp) rfl
      clear hd ho
      have h6 := G.h (j := 3) (d := 6) rfl (by decide) d3
      refine step_open rfl ?_
      clear G
      exact step_run (v := (.int .u32 (b : Int))) (by go_simp) rfl
    | 5 =>
      intro ho hd
      obtain rfl := (Option.some.inj ho).symm
      have d4 : vs 4 = (.int .u32 (b : Int)) := hd ⟨4, .data⟩ (by simp) rfl
      clear hd ho
      have h7 := G.h (j := 4) (d := 7) rfl (by decide) d4
      refine step_open rfl ?_
      clear G
      exact step_run (v := (.int .u32 (b' : Int))) (by go_simp) rfl
    | 6 =>
      intro ho hd
      obtain rfl := (Option.some.inj ho).symm
      have d5 : vs 5 = (.int .u32 (b' : Int)) := hd ⟨5, .data⟩ (by simp) rfl
      clear hd ho
      have h8 := G.h (j := 5) (d := 8) rfl (by decide) d5
      refine step_open rfl ?_
      clear G
      exact step_run (v := (.int .u8 (k2 : Int))) (by go_simp) rfl
    | 7 =>
      intro ho hd
      obtain rfl := (Option.some.inj ho).symm
      have d2 : vs 2 = (.int .u8 (k1 : Int)) := hd ⟨2, .data⟩ (by simp) rfl
      have d6 : vs 6 = (.int .u8 (k2 : Int)) := hd ⟨6, .data⟩ (by simp) rfl
      clear hd ho
      have h5 := G.h (j := 2) (d := 5) rfl (by decide) d2
      have h9 := G.h (j := 6) (d := 9) rfl (by decide) d6
      refine step_open rfl ?_
      clear G
      exact step_run (v := (.int .u8 (((k1 : Nat) : Int) + ((k2 : Nat) : Int)))) (by go_simp) rfl
    | 8 =>
      intro ho hd
      obtain rfl := (Option.some.inj ho).symm
      clear hd ho
      refine step_open rfl ?_
      clear G
      exact step_run (v := (.int .u32 (x : Int))) (by go_simp) rfl
    | 9 =>
      intro ho hd
      obtain rfl := (Option.some.inj ho).symm
      have d8 : vs 8 = (.int .u32 (x : Int)) := hd ⟨8, .data⟩ (by simp) rfl
      clear hd ho
      have h11 := G.h (j := 8) (d := 11) rfl (by decide) d8
      refine step_open rfl ?_
      clear G
      exact step_run (v := (.int .u32 (c : Int))) (by go_simp) rfl
    | 10 =>
      intro ho hd
      obtain rfl := (Option.some.inj ho).symm
      have d9 : vs 9 = (.int .u32 (c : Int)) := hd ⟨9, .data⟩ (by simp) rfl
      clear hd ho
      have h12 := G.h (j := 9) (d := 12) rfl (by decide) d9
      refine step_open rfl ?_
      clear G
      exact step_run (v := (.int .u32 (c' : Int))) (by go_simp) rfl
    | 11 =>
      intro ho hd
      obtain rfl := (Option.some.inj ho).symm
      have d10 : vs 10 = (.int .u32 (c' : Int)) := hd ⟨10, .data⟩ (by simp) rfl
      clear hd ho
      have h13 := G.h (j := 10) (d := 13) rfl (by decide) d10
      refine step_open rfl ?_
      clear G
      exact step_run (v := (.int .u8 (k3 : Int))) (by go_simp) rfl
    | 12 =>
      intro ho hd
      obtain rfl := (Option.some.inj ho).symm
      have d7 : vs 7 = (.int .u8 (((k1 : Nat) : Int) + ((k2 : Nat) : Int))) := hd ⟨7, .data⟩ (by simp) rfl
      have d11 : vs 11 = (.int .u8 (k3 : Int)) := hd ⟨11, .data⟩ (by simp) rfl
      clear hd ho
      have h10 := G.h (j := 7) (d := 10) rfl (by decide) d7
      have h14 := G.h (j := 11) (d := 14) rfl (by decide) d11
      refine step_open rfl ?_
      clear G
      exact step_run (v := (.int .u8 (((k1 : Nat) : Int) + ((k2 : Nat) : Int) + ((k3 : Nat) : Int)))) (by go_simp) rfl
    | 13 =>
      intro ho hd
      obtain rfl := (Option.some.inj ho).symm
      clear hd ho
      refine step_open rfl ?_
      clear G
      exact step_run (v := (.int .u32 (x : Int))) (by go_simp) rfl
    | 14 =>
      intro ho hd
      obtain rfl := (Option.some.inj ho).symm
      have d13 : vs 13 = (.int .u32 (x : Int)) := hd ⟨13, .data⟩ (by simp) rfl
      clear hd ho
      have h16 := G.h (j := 13) (d := 16) rfl (by decide) d13
      refine step_open rfl ?_
      clear G
      exact step_run (v := (.int .u32 (d' : Int))) (by go_simp) rfl
    | 15 =>
      intro ho hd
      obtain rfl := (Option.some.inj ho).symm
      have d14 : vs 14 = (.int .u32 (d' : Int)) := hd ⟨14, .data⟩ (by simp) rfl
      clear hd ho
      have h17 := G.h (j := 14) (d := 17) rfl (by decide) d14
      refine step_open rfl ?_
      clear G
      exact step_run (v := (.int .u8 (k4 : Int))) (by go_simp) rfl
    | 16 =>
      intro ho hd
      obtain rfl := (Option.some.inj ho).symm
      have d12 : vs 12 = (.int .u8 (((k1 : Nat) : Int) + ((k2 : Nat) : Int) + ((k3 : Nat) : Int))) := hd ⟨12, .data⟩ (by simp) rfl
      have d15 : vs 15 = (.int .u8 (k4 : Int)) := hd ⟨15, .data⟩ (by simp) rfl
      clear hd ho
      have h15 := G.h (j := 12) (d := 15) rfl (by decide) d12
      have h18 := G.h (j := 15) (d := 18) rfl (by decide) d15
      refine step_open rfl ?_
      clear G
      exact step_run (v := (.int .u8 (((k1 : Nat) : Int) + ((k2 : Nat) : Int) + ((k3 : Nat) : Int) + ((k4 : Nat) : Int)))) (by go_simp) rfl
    | 17 =>
      intro ho hd
      obtain rfl := (Option.some.inj ho).symm
      have d16 : vs 16 = (.int .u8 (((k1 : Nat) : Int) + ((k2 : Nat) : Int) + ((k3 : Nat) : Int) + ((k4 : Nat) : Int))) := hd ⟨16, .data⟩ (by simp) rfl
      clear hd ho
      have h19 := G.h (j := 16) (d := 19) rfl (by decide) d16
      refine step_open rfl ?_
      clear G
      exact step_run (v := (.int .i64 (((k1 : Nat) : Int) + ((k2 : Nat) : Int) + ((k3 : Nat) : Int) + ((k4 : Nat) : Int)))) (by go_simp) rfl
    | 18 =>
      intro ho hd
      obtain rfl := (Option.some.inj ho).symm
      have d17 : vs 17 = (.int .i64 (((k1 : Nat) : Int) + ((k2 : Nat) : Int) + ((k3 : Nat) : Int) + ((k4 : Nat) : Int))) := hd ⟨17, .data⟩ (by simp) rfl
      clear hd ho
      have h20 := G.h (j := 17) (d := 20) rfl (by decide) d17
      refine step_open rfl ?_
      clear G
      exact step_run (v := (.int .i64 (((k1 : Nat) : Int) + ((k2 : Nat) : Int) + ((k3 : Nat) : Int) + ((k4 : Nat) : Int)))) (by go_simp) rfl
    | n + 19 =>
      intro ho hd
      simp at ho
  · intro vs w' hb hR
    have hv : vs 18 = (.int .i64 ((k1 : Int) + (k2 : Int) + (k3 : Int) + (k4 : Int))) := hR 18 (by simp)
    have HB2 := Lib.hid hb
    simp only [putAll, Act.put, List.setIfInBounds_toArray, List.set_cons_succ, List.set_cons_zero]
    rw [hv]
    clear hR hb hv
    go_wp2_with fail
    go_ret
    exact ⟨ret_intk HR.out, HB2.out⟩
end Go.Proofs.YtoadihebdaooaaaGreat
