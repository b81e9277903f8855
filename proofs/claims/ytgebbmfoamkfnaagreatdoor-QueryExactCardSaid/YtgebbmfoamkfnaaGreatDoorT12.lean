/- Sets of parts: OnesCount32, Sig.Len, sig.Of, sig.Parts. Printed by mkU5.py. · Sets of parts: Sig.Len, sig.Of, sig.Parts. · Parts as they lie; sig.Parts. -/
import Derived.Test.YtgebbmfoamkfnaaGreatDoorT11
import Derived.Test.YtgebbmfoamkfnaaGreatDoorT7
import Derived.Lib.BitFns
namespace Go.Proofs.YtgebbmfoamkfnaaGreatDoor
open Go.RowKit
set_option linter.unusedVariables false
/-! ### Bits, counted -/
def bcount (x n : Nat) : Nat := (List.range n).countP fun j => x.testBit j
theorem range_split (m n : Nat) : List.range (m + n) = List.range m ++ (List.range n).map (m + ·) := by
 induction n with
 | zero => simp
 | succ n ih => rw [← Nat.add_assoc, List.range_succ, ih, List.range_succ, List.map_append, List.append_assoc]; rfl
theorem bcount_add (x m n : Nat) : bcount x (m + n) = bcount x m + bcount (x / 2 ^ m) n := by
 unfold bcount
 rw [range_split, List.countP_append, List.countP_map]
 congr 1
 refine List.countP_congr (fun j _ => ?_)
 simp only [Function.comp]
 rw [Nat.testBit_div_two_pow, Nat.add_comm]
theorem bcount_mod (x m : Nat) : bcount (x % 2 ^ m) m = bcount x m := by
 unfold bcount
 refine List.countP_congr (fun j hj => ?_)
 rw [Nat.testBit_mod_two_pow]
 simp [List.mem_range.1 hj]
theorem pop_bits : ∀ (f x : Nat), Lib.popAux f x = bcount x f
 | 0, _ => rfl
 | f + 1, x => by
  rw [Lib.popAux, pop_bits f (x / 2), Nat.add_comm f 1, bcount_add x 1 f, Nat.pow_one]
  congr 1
  unfold bcount
  simp [Nat.testBit_zero]
  rcases Nat.mod_two_eq_zero_or_one x with h | h <;> simp [h]
theorem bcount_small {x : Nat} (h : x < 256) : Lib.onesCount x = bcount x 8 := by
 unfold Lib.onesCount
 rw [pop_bits, show 64 = 8 + 56 from rfl, bcount_add, show x / 2 ^ 8 = 0 from Nat.div_eq_of_lt (by simpa using h)]
 simp [bcount]
theorem bcount32 (x : Nat) : bcount x 32 = Lib.onesCount (x / 16777216 % 256) + Lib.onesCount (x / 65536 % 256) + Lib.onesCount (x / 256 % 256) + Lib.onesCount (x % 256) := by
 rw [bcount_small (Nat.mod_lt _ (by decide)), bcount_small (Nat.mod_lt _ (by decide)), bcount_small (Nat.mod_lt _ (by decide)), bcount_small (Nat.mod_lt _ (by decide))]
 rw [show (256 : Nat) = 2 ^ 8 from rfl, bcount_mod, bcount_mod, bcount_mod, bcount_mod]
 rw [show 32 = 8 + (8 + (8 + 8)) from rfl, bcount_add, bcount_add, bcount_add, Nat.div_div_eq_div_mul, Nat.div_div_eq_div_mul]
 simp
 omega
theorem pop8_nat {b : Nat} (h : b < 256) : Lib.pop8 (b : Int) = (Lib.onesCount b : Int) := Lib.pop8_eq ⟨b, h⟩
theorem ones_le {b : Nat} (h : b < 256) : Lib.onesCount b ≤ 8 := Lib.onesCount_le8 ⟨b, h⟩
theorem andByte (x : Nat) (h : x < 4294967296) : bits BinOp.and .u32 (x : Int) 255 = ((x % 256 : Nat) : Int) := by
 have := u32_and_nat x 255 h (by decide)
 rw [show ((255 : Nat) : Int) = 255 from rfl] at this
 rw [this, show (255 : Nat) = 2 ^ 8 - 1 from rfl, Nat.and_two_pow_sub_one_eq_mod]
def ones_list (x a b b' c c' d' k1 k2 k3 k4 : Nat) : List (Value → World → Prop) :=
 [IsV (.int .u32 (x : Int)),
  IsV (.int .u32 (a : Int)),
  IsV (.int .u8 (k1 : Int)),
  IsV (.int .u32 (x : Int)),
  IsV (.int .u32 (b : Int)),
  IsV (.int .u32 (b' : Int)),
  IsV (.int .u8 (k2 : Int)),
  IsV (.int .u8 (((k1 : Nat) : Int) + ((k2 : Nat) : Int))),
  IsV (.int .u32 (x : Int)),
  IsV (.int .u32 (c : Int)),
  IsV (.int .u32 (c' : Int)),
  IsV (.int .u8 (k3 : Int)),
  IsV (.int .u8 (((k1 : Nat) : Int) + ((k2 : Nat) : Int) + ((k3 : Nat) : Int))),
  IsV (.int .u32 (x : Int)),
  IsV (.int .u32 (d' : Int)),
  IsV (.int .u8 (k4 : Int)),
  IsV (.int .u8 (((k1 : Nat) : Int) + ((k2 : Nat) : Int) + ((k3 : Nat) : Int) + ((k4 : Nat) : Int))),
  IsV (.int .i64 (((k1 : Nat) : Int) + ((k2 : Nat) : Int) + ((k3 : Nat) : Int) + ((k4 : Nat) : Int))),
  IsV (.int .i64 (((k1 : Nat) : Int) + ((k2 : Nat) : Int) + ((k3 : Nat) : Int) + ((k4 : Nat) : Int)))]
theorem ones_list_lasts (x a b b' c c' d' k1 k2 k3 k4 : Nat) : ∀ p ∈ ones_list x a b b' c c' d' k1 k2 k3 k4 , Lasts p := by
 simp only [ones_list, List.mem_cons, List.not_mem_nil, or_false]
 rintro p hp
 repeat (rcases hp with rfl | hp; exact lasts_v _)
set_option maxRecDepth 100000 in
set_option maxHeartbeats 1000000 in
theorem ones_any (x : Nat) (w : World) (hx : x < 4294967296) : Calls Tryz.prog 108 #[.int .u32 (x : Int)] w fun e w' => e = .returned (.int .i64 (bcount x 32 : Int)) ∧ Below w.heap.size w w' := by
 obtain ⟨a, ha⟩ : ∃ a, x / 16777216 = a := ⟨_, rfl⟩
 obtain ⟨b, hb⟩ : ∃ b, x / 65536 = b := ⟨_, rfl⟩
 obtain ⟨c, hc⟩ : ∃ c, x / 256 = c := ⟨_, rfl⟩
 have q1 : (x : Int) / 16777216 = (a : Int) := by omega
 have q2 : (x : Int) / 65536 = (b : Int) := by omega
 have q3 : (x : Int) / 256 = (c : Int) := by omega
 have m1 := andByte b (by omega)
 have m2 := andByte c (by omega)
 have m3 := andByte x hx
 obtain ⟨b', hb'⟩ : ∃ b', b % 256 = b' := ⟨_, rfl⟩
 obtain ⟨c', hc'⟩ : ∃ c', c % 256 = c' := ⟨_, rfl⟩
 obtain ⟨d', hd'⟩ : ∃ d', x % 256 = d' := ⟨_, rfl⟩
 rw [hb'] at m1; rw [hc'] at m2; rw [hd'] at m3
 have pa := pop8_nat (show a < 256 by omega)
 have pb := pop8_nat (show b' < 256 by omega)
 have pc := pop8_nat (show c' < 256 by omega)
 have pd := pop8_nat (show d' < 256 by omega)
 have la := ones_le (show a < 256 by omega)
 have lb := ones_le (show b' < 256 by omega)
 have lc := ones_le (show c' < 256 by omega)
 have ld := ones_le (show d' < 256 by omega)
 have hr : bcount x 32 = Lib.onesCount a + Lib.onesCount b' + Lib.onesCount c' + Lib.onesCount d' := by rw [bcount32, hb, hc, hb', hc', hd', Nat.mod_eq_of_lt (show x / 16777216 < 256 by omega), ha]
 have r1 : (a : Int) ≤ 255 := by omega
 have r2 : (b' : Int) ≤ 255 := by omega
 have r3 : (c' : Int) ≤ 255 := by omega
 have r4 : (d' : Int) ≤ 255 := by omega
 have z1 : (0 : Int) ≤ (a : Int) := by omega
 have z2 : (0 : Int) ≤ (b' : Int) := by omega
 have z3 : (0 : Int) ≤ (c' : Int) := by omega
 have z4 : (0 : Int) ≤ (d' : Int) := by omega
 generalize Lib.onesCount a = k1 at *
 generalize Lib.onesCount b' = k2 at *
 generalize Lib.onesCount c' = k3 at *
 generalize Lib.onesCount d' = k4 at *
 have s1 : IntKind.u8.wrap ((k1 : Int) + (k2 : Int)) = (k1 : Int) + (k2 : Int) := by rw [IntKind.wrap_u8']; omega
 have s2 : IntKind.u8.wrap ((k1 : Int) + (k2 : Int) + (k3 : Int)) = (k1 : Int) + (k2 : Int) + (k3 : Int) := by rw [IntKind.wrap_u8']; omega
 have s3 : IntKind.u8.wrap ((k1 : Int) + (k2 : Int) + (k3 : Int) + (k4 : Int)) = (k1 : Int) + (k2 : Int) + (k3 : Int) + (k4 : Int) := by rw [IntKind.wrap_u8']; omega
 have s4 : IntKind.i64.wrap ((k1 : Int) + (k2 : Int) + (k3 : Int) + (k4 : Int)) = (k1 : Int) + (k2 : Int) + (k3 : Int) + (k4 : Int) := IntWalk.i64_in _ (by omega)
 have HR := Lib.hid (show (k1 : Int) + (k2 : Int) + (k3 : Int) + (k4 : Int) = (bcount x 32 : Int) by omega)
 clear hr ha hb hc hb' hc' hd' la lb lc ld hx
 go_enter Tryz.func108, Tryz.ntmps108
 go_wp2_with fail
 refine wp_region_frame (by kernel_rfl) (by kernel_rfl) (by kernel_rfl) (byList (ones_list x a b b' c c' d' k1 k2 k3 k4)) (lasts_list (ones_list_lasts x a b b' c c' d' k1 k2 k3 k4)) ?_ ?_
 ·intro vs w' iq o A F hb ho hd
  have m0 : A.tmps[0]?.getD undef = (.int .u32 (x : Int)) := F.m (by kernel_rfl) rfl
  have G := F.light (n := 21) (by kernel_rfl)
  clear F
  revert ho hd
  match iq with
  | 0 =>
   intro ho hd
   obtain rfl := (Option.some.inj ho).symm
   clear hd ho
   refine step_open rfl ?_
   clear G
   exact step_run (v := (.int .u32 (x : Int))) (by go_simp) rfl
  | 1 =>
   intro ho hd
   obtain rfl := (Option.some.inj ho).symm
   have d0 : vs 0 = (.int .u32 (x : Int)) := hd ⟨0, .data⟩ (by simp) rfl
   clear hd ho
   have h3 := G.h (j := 0) (d := 3) rfl (by decide) d0
   refine step_open rfl ?_
   clear G
   exact step_run (v := (.int .u32 (a : Int))) (by go_simp) rfl
  | 2 =>
   intro ho hd
   obtain rfl := (Option.some.inj ho).symm
   have d1 : vs 1 = (.int .u32 (a : Int)) := hd ⟨1, .data⟩ (by simp) rfl
   clear hd ho
   have h4 := G.h (j := 1) (d := 4) rfl (by decide) d1
   refine step_open rfl ?_
   clear G
   exact step_run (v := (.int .u8 (k1 : Int))) (by go_simp) rfl
  | 3 =>
   intro ho hd
   obtain rfl := (Option.some.inj ho).symm
   clear hd ho
   refine step_open rfl ?_
   clear G
   exact step_run (v := (.int .u32 (x : Int))) (by go_simp) rfl
  | 4 =>
   intro ho hd
   obtain rfl := (Option.some.inj ho).symm
   have d3 : vs 3 = (.int .u32 (x : Int)) := hd ⟨3, .data⟩ (by simp) rfl
   clear hd ho
   have h6 := G.h (j := 3) (d := 6) rfl (by decide) d3
   refine step_open rfl ?_
   clear G
   exact step_run (v := (.int .u32 (b : Int))) (by go_simp) rfl
  | 5 =>
   intro ho hd
   obtain rfl := (Option.some.inj ho).symm
   have d4 : vs 4 = (.int .u32 (b : Int)) := hd ⟨4, .data⟩ (by simp) rfl
   clear hd ho
   have h7 := G.h (j := 4) (d := 7) rfl (by decide) d4
   refine step_open rfl ?_
   clear G
   exact step_run (v := (.int .u32 (b' : Int))) (by go_simp) rfl
  | 6 =>
   intro ho hd
   obtain rfl := (Option.some.inj ho).symm
   have d5 : vs 5 = (.int .u32 (b' : Int)) := hd ⟨5, .data⟩ (by simp) rfl
   clear hd ho
   have h8 := G.h (j := 5) (d := 8) rfl (by decide) d5
   refine step_open rfl ?_
   clear G
   exact step_run (v := (.int .u8 (k2 : Int))) (by go_simp) rfl
  | 7 =>
   intro ho hd
   obtain rfl := (Option.some.inj ho).symm
   have d2 : vs 2 = (.int .u8 (k1 : Int)) := hd ⟨2, .data⟩ (by simp) rfl
   have d6 : vs 6 = (.int .u8 (k2 : Int)) := hd ⟨6, .data⟩ (by simp) rfl
   clear hd ho
   have h5 := G.h (j := 2) (d := 5) rfl (by decide) d2
   have h9 := G.h (j := 6) (d := 9) rfl (by decide) d6
   refine step_open rfl ?_
   clear G
   exact step_run (v := (.int .u8 (((k1 : Nat) : Int) + ((k2 : Nat) : Int)))) (by go_simp) rfl
  | 8 =>
   intro ho hd
   obtain rfl := (Option.some.inj ho).symm
   clear hd ho
   refine step_open rfl ?_
   clear G
   exact step_run (v := (.int .u32 (x : Int))) (by go_simp) rfl
  | 9 =>
   intro ho hd
   obtain rfl := (Option.some.inj ho).symm
   have d8 : vs 8 = (.int .u32 (x : Int)) := hd ⟨8, .data⟩ (by simp) rfl
   clear hd ho
   have h11 := G.h (j := 8) (d := 11) rfl (by decide) d8
   refine step_open rfl ?_
   clear G
   exact step_run (v := (.int .u32 (c : Int))) (by go_simp) rfl
  | 10 =>
   intro ho hd
   obtain rfl := (Option.some.inj ho).symm
   have d9 : vs 9 = (.int .u32 (c : Int)) := hd ⟨9, .data⟩ (by simp) rfl
   clear hd ho
   have h12 := G.h (j := 9) (d := 12) rfl (by decide) d9
   refine step_open rfl ?_
   clear G
   exact step_run (v := (.int .u32 (c' : Int))) (by go_simp) rfl
  | 11 =>
   intro ho hd
   obtain rfl := (Option.some.inj ho).symm
   have d10 : vs 10 = (.int .u32 (c' : Int)) := hd ⟨10, .data⟩ (by simp) rfl
   clear hd ho
   have h13 := G.h (j := 10) (d := 13) rfl (by decide) d10
   refine step_open rfl ?_
   clear G
   exact step_run (v := (.int .u8 (k3 : Int))) (by go_simp) rfl
  | 12 =>
   intro ho hd
   obtain rfl := (Option.some.inj ho).symm
   have d7 : vs 7 = (.int .u8 (((k1 : Nat) : Int) + ((k2 : Nat) : Int))) := hd ⟨7, .data⟩ (by simp) rfl
   have d11 : vs 11 = (.int .u8 (k3 : Int)) := hd ⟨11, .data⟩ (by simp) rfl
   clear hd ho
   have h10 := G.h (j := 7) (d := 10) rfl (by decide) d7
   have h14 := G.h (j := 11) (d := 14) rfl (by decide) d11
   refine step_open rfl ?_
   clear G
   exact step_run (v := (.int .u8 (((k1 : Nat) : Int) + ((k2 : Nat) : Int) + ((k3 : Nat) : Int)))) (by go_simp) rfl
  | 13 =>
   intro ho hd
   obtain rfl := (Option.some.inj ho).symm
   clear hd ho
   refine step_open rfl ?_
   clear G
   exact step_run (v := (.int .u32 (x : Int))) (by go_simp) rfl
  | 14 =>
   intro ho hd
   obtain rfl := (Option.some.inj ho).symm
   have d13 : vs 13 = (.int .u32 (x : Int)) := hd ⟨13, .data⟩ (by simp) rfl
   clear hd ho
   have h16 := G.h (j := 13) (d := 16) rfl (by decide) d13
   refine step_open rfl ?_
   clear G
   exact step_run (v := (.int .u32 (d' : Int))) (by go_simp) rfl
  | 15 =>
   intro ho hd
   obtain rfl := (Option.some.inj ho).symm
   have d14 : vs 14 = (.int .u32 (d' : Int)) := hd ⟨14, .data⟩ (by simp) rfl
   clear hd ho
   have h17 := G.h (j := 14) (d := 17) rfl (by decide) d14
   refine step_open rfl ?_
   clear G
   exact step_run (v := (.int .u8 (k4 : Int))) (by go_simp) rfl
  | 16 =>
   intro ho hd
   obtain rfl := (Option.some.inj ho).symm
   have d12 : vs 12 = (.int .u8 (((k1 : Nat) : Int) + ((k2 : Nat) : Int) + ((k3 : Nat) : Int))) := hd ⟨12, .data⟩ (by simp) rfl
   have d15 : vs 15 = (.int .u8 (k4 : Int)) := hd ⟨15, .data⟩ (by simp) rfl
   clear hd ho
   have h15 := G.h (j := 12) (d := 15) rfl (by decide) d12
   have h18 := G.h (j := 15) (d := 18) rfl (by decide) d15
   refine step_open rfl ?_
   clear G
   exact step_run (v := (.int .u8 (((k1 : Nat) : Int) + ((k2 : Nat) : Int) + ((k3 : Nat) : Int) + ((k4 : Nat) : Int)))) (by go_simp) rfl
  | 17 =>
   intro ho hd
   obtain rfl := (Option.some.inj ho).symm
   have d16 : vs 16 = (.int .u8 (((k1 : Nat) : Int) + ((k2 : Nat) : Int) + ((k3 : Nat) : Int) + ((k4 : Nat) : Int))) := hd ⟨16, .data⟩ (by simp) rfl
   clear hd ho
   have h19 := G.h (j := 16) (d := 19) rfl (by decide) d16
   refine step_open rfl ?_
   clear G
   exact step_run (v := (.int .i64 (((k1 : Nat) : Int) + ((k2 : Nat) : Int) + ((k3 : Nat) : Int) + ((k4 : Nat) : Int)))) (by go_simp) rfl
  | 18 =>
   intro ho hd
   obtain rfl := (Option.some.inj ho).symm
   have d17 : vs 17 = (.int .i64 (((k1 : Nat) : Int) + ((k2 : Nat) : Int) + ((k3 : Nat) : Int) + ((k4 : Nat) : Int))) := hd ⟨17, .data⟩ (by simp) rfl
   clear hd ho
   have h20 := G.h (j := 17) (d := 20) rfl (by decide) d17
   refine step_open rfl ?_
   clear G
   exact step_run (v := (.int .i64 (((k1 : Nat) : Int) + ((k2 : Nat) : Int) + ((k3 : Nat) : Int) + ((k4 : Nat) : Int)))) (by go_simp) rfl
  | n + 19 =>
   intro ho hd
   simp at ho
 ·intro vs w' hb hR
  have hv : vs 18 = (.int .i64 ((k1 : Int) + (k2 : Int) + (k3 : Int) + (k4 : Int))) := hR 18 (by simp)
  have HB2 := Lib.hid hb
  simp only [putAll, Act.put, List.setIfInBounds_toArray, List.set_cons_succ, List.set_cons_zero]
  rw [hv]
  clear hR hb hv
  go_wp2_with fail
  go_ret
  exact ⟨ret_intk HR.out, HB2.out⟩
end Go.Proofs.YtgebbmfoamkfnaaGreatDoor
namespace Go.Proofs.YtgebbmfoamkfnaaGreatDoor
open Go.RowKit
set_option linter.unusedVariables false
theorem hasBit {s n : Nat} (hs : s < 4294967296) (h1 : 1 ≤ n) (h2 : n ≤ 24) : hasB (s : Int) (n : Int) = s.testBit n := by
 have hd : s / 2 ^ n < 4294967296 := by
  have := Nat.div_le_self s (2 ^ n)
  omega
 unfold hasB
 rw [idB_true (by omega) (by omega), Bool.true_and, Int.toNat_natCast]
 have e : ((s : Int) / 2 ^ n) = ((s / 2 ^ n : Nat) : Int) := by simp
 rw [e, show (1 : Int) = ((1 : Nat) : Int) from rfl, u32_and_nat _ _ hd (by omega)]
 rw [Nat.testBit_eq_decide_div_mod_eq, Nat.and_one_is_mod]
 by_cases hh : s / 2 ^ n % 2 = 1
 ·rw [hh]; simp
 ·simp [hh]; omega
theorem maskBit : ∀ i, i < 32 → (33554430 : Nat).testBit i = decide (1 ≤ i ∧ i ≤ 24) := by decide
theorem len_ids {x : Nat} (hx : x < 4294967296) : bcount (x &&& 33554430) 32 = (idsTo (x : Int) 24).length := by
 unfold idsTo
 rw [← List.countP_eq_length_filter, List.countP_map]
 have e : (List.range 24).countP ((fun i => hasB (x : Int) i) ∘ fun (j : Nat) => (j : Int) + 1) = (List.range 24).countP fun j => x.testBit (1 + j) := List.countP_congr (fun j hj => by
  have hj' := List.mem_range.1 hj
  have := hasBit hx (n := j + 1) (by omega) (by omega)
  simp only [Function.comp]
  rw [show ((j : Int) + 1) = ((j + 1 : Nat) : Int) by omega, this, Nat.add_comm])
 rw [e, show 32 = 1 + (24 + 7) from rfl, bcount_add, bcount_add]
 have e1 : bcount (x &&& 33554430) 1 = 0 := by
  unfold bcount
  rw [List.countP_eq_zero]
  intro j hj
  have := List.mem_range.1 hj
  rw [Nat.testBit_and, maskBit j (by omega)]
  simp; omega
 have e2 : bcount ((x &&& 33554430) / 2 ^ 1 / 2 ^ 24) 7 = 0 := by
  unfold bcount
  rw [List.countP_eq_zero]
  intro j hj
  have := List.mem_range.1 hj
  rw [Nat.testBit_div_two_pow, Nat.testBit_div_two_pow, Nat.testBit_and, maskBit _ (by omega)]
  simp
 rw [e1, e2, Nat.zero_add, Nat.add_zero]
 unfold bcount
 refine List.countP_congr (fun j hj => ?_)
 have := List.mem_range.1 hj
 rw [Nat.testBit_div_two_pow, Nat.testBit_and, maskBit _ (by omega), Nat.add_comm j 1]
 simp; omega
set_option maxRecDepth 100000 in
theorem sigLen_any (s : Int) (w : World) (h0 : 0 ≤ s) (h1 : s ≤ 4294967295) : Calls Tryz.prog 76 #[.int .u32 s] w fun e w' => e = .returned (.int .i64 ((idsTo s 24).length : Int)) ∧ Below w.heap.size w w' := by
 obtain ⟨x, rfl⟩ := Int.eq_ofNat_of_zero_le h0
 have hx : x < 4294967296 := by omega
 have hm := u32_and_nat x 33554430 hx (by decide)
 rw [show ((33554430 : Nat) : Int) = 33554430 from rfl] at hm
 have hl := ones_any (x &&& 33554430) w (Nat.lt_of_le_of_lt Nat.and_le_left hx)
 rw [len_ids hx] at hl
 have HL := Lib.hid hl
 clear hl
 go_enter Tryz.func76, Tryz.ntmps76
 go_wp2_with fail
 refine HL.out.mono ?_
 rintro e w' ⟨rfl, hb⟩
 go_wp2_with fail
 go_returns
 exact ⟨rfl, hb⟩
theorem withBd {s n : Int} (h0 : 0 ≤ s) (h1 : s ≤ 4294967295) : 0 ≤ sWith s n ∧ sWith s n ≤ 4294967295 := by
 unfold sWith; split
 ·refine ⟨?_, ?_⟩ <;> (unfold bits; simp only [IntKind.wrap_u32']; omega)
 ·exact ⟨h0, h1⟩
def IntSl (w : World) (a : Option Addr) (len : Nat) (ids : List Int) : Prop :=
 ids.length = len ∧ len ≤ maxLen ∧ (len = 0 ∨ ∃ b off, a = some ⟨b, off, none⟩ ∧ ∀ (i : Nat) (x : Int), ids[i]? = some x → w.cell? ⟨b, off + i, none⟩ = some (.int .i64 x))
def foldS (ids : List Int) : Int := ids.foldl sWith 0
theorem foldS_snoc (l : List Int) (x : Int) : foldS (l ++ [x]) = sWith (foldS l) x := by simp [foldS]
theorem foldS_bd (ids : List Int) : 0 ≤ foldS ids ∧ foldS ids ≤ 4294967295 := by
 have : ∀ (l : List Int) (s : Int), 0 ≤ s → s ≤ 4294967295 → 0 ≤ l.foldl sWith s ∧ l.foldl sWith s ≤ 4294967295 := by
  intro l
  induction l with
  | nil => intro s h0 h1; exact ⟨h0, h1⟩
  | cons x r ih => intro s h0 h1; obtain ⟨a, b⟩ := withBd (n := x) h0 h1; exact ih _ a b
 exact this ids 0 (by omega) (by omega)
def ofF (ids : List Int) : Int × Int := if ids.all idB then (foldS ids, 0) else (0, 1)
theorem ret_u32i {a b c d : Int} (h1 : a = c) (h2 : b = d) : Ending.returned (.tuple #[.int .u32 a, .int .i64 b]) = .returned (.tuple #[.int .u32 c, .int .i64 d]) := by rw [h1, h2]
set_option maxRecDepth 100000 in
set_option maxHeartbeats 1000000 in
theorem sigOf_any (a : Option Addr) (len cap : Nat) (ids : List Int) (w : World) (h : IntSl w a len ids) : Calls Tryz.prog 32 #[.slice a len cap] w fun e w' => e = .returned (.tuple #[.int .u32 (ofF ids).1, .int .i64 (ofF ids).2]) ∧ w = w' := by
 obtain ⟨hl, hm, hc⟩ := h
 unfold maxLen at hm
 have HL := Lib.hid hl
 have HC := Lib.hid hc
 clear hl hc
 go_enter Tryz.func32, Tryz.ntmps32
 go_wp2_with fail
 go_loop [4, 9] (fun s i => ∃ k : Nat, k ≤ len ∧ i = .int .i64 (k : Int) ∧ s = .int .u32 (foldS (ids.take k)) ∧ (ids.take k).all idB = true) (fun _ i => len - (intOf i).toNat)
 case atStart => exact ⟨0, by omega, rfl, rfl, by simp⟩
 case round =>
  obtain ⟨k, hk, rfl, rfl, hall⟩ := hrel
  by_cases hlt : k < len
  ·obtain ⟨x, hx⟩ : ∃ x, ids[k]? = some x := ⟨_, List.getElem?_eq_getElem (by have := HL.out; omega)⟩
   rcases HC.out with h0 | ⟨b, off, rfl, hcc⟩
   ·omega
   have c0 := hcc k x hx
   have HX := Lib.hid hx
   have HALL := Lib.hid hall
   have hsn := foldS_snoc (ids.take k) x
   rw [← take_snoc hx] at hsn
   have HSN := Lib.hid hsn
   obtain ⟨b0, b1⟩ := foldS_bd (ids.take k)
   generalize foldS (ids.take k) = s at *
   have i1 : (0 : Int) ≤ (k : Int) := by omega
   have i2 : (k : Int) < (len : Int) := by omega
   clear hcc hx hall hsn
   go_wp2_with fail
   refine (isId_any _ _).mono ?_
   rintro e w' ⟨rfl, rfl⟩
   cases hid : idB x
   ·have HR := Lib.hid (show ofF ids = (0, 1) by unfold ofF; rw [if_neg (by rw [all_take_false HX.out hid]; decide)])
    clear hid
    go_wp2_with fail
    go_ret2
    exact ⟨ret_u32i (by rw [HR.out]) (by rw [HR.out]), rfl⟩
   ·have HID := Lib.hid hid
    clear hid
    go_wp2_with fail
    refine (with_any _ _ _ b0 b1).mono ?_
    rintro e w' ⟨rfl, rfl⟩
    go_wp2_with fail
    go_round
    case rel => exact ⟨k + 1, by omega, by go_num, by rw [HSN.out], by rw [all_take_succ HX.out HALL.out]; exact HID.out⟩
    case measure => simp [intOf]; omega
  ·obtain rfl : k = len := by omega
   rw [List.take_of_length_le (by have := HL.out; omega)] at hall ⊢
   have HR := Lib.hid (show ofF ids = (foldS ids, 0) by unfold ofF; rw [if_pos hall])
   clear hall
   go_wp2_with fail
   go_ret2
   exact ⟨ret_u32i (by rw [HR.out]) (by rw [HR.out]), rfl⟩
end Go.Proofs.YtgebbmfoamkfnaaGreatDoor
namespace Go.Proofs.YtgebbmfoamkfnaaGreatDoor
open Go.RowKit
set_option linter.unusedVariables false
structure PW where
 comp : Int
 va : Option Addr
 vl : Nat
 vc : Nat
 val : List WI
def PartsAt (B : Nat) (w : World) (a : Option Addr) (len cap : Nat) (ps : List PW) : Prop :=
 ps.length = len ∧ len ≤ cap ∧ cap ≤ maxLen ∧ (∀ p ∈ ps, IntsAt B w p.va p.vl p.vc p.val) ∧ (len = 0 ∨ ∃ b off, a = some ⟨b, off, none⟩ ∧ b < B ∧ ∀ (i : Nat) (p : PW), ps[i]? = some p →
  w.cell? ⟨b, off + i * 2, none⟩ = some (.int .i64 p.comp) ∧ w.cell? ⟨b, off + i * 2 + 1, none⟩ = some (.slice p.va p.vl p.vc))
theorem PartsAt.below {B : Nat} {w w' : World} {a : Option Addr} {len cap : Nat} {ps : List PW} (h : PartsAt B w a len cap ps) (hb : Below B w w') : PartsAt B w' a len cap ps := by
 obtain ⟨h1, h2, h2', hv, h3⟩ := h
 refine ⟨h1, h2, h2', fun p hp => (hv p hp).below hb, ?_⟩
 rcases h3 with h3 | ⟨b, off, ha, hB, hc⟩
 ·exact .inl h3
 ·refine .inr ⟨b, off, ha, hB, fun i p hp => ?_⟩
  obtain ⟨c0, c1⟩ := hc i p hp
  exact ⟨(hb.cell (p := ⟨b, off + i * 2, none⟩) hB).trans c0, (hb.cell (p := ⟨b, off + i * 2 + 1, none⟩) hB).trans c1⟩
theorem PartsAt.mono {B B' : Nat} {w : World} {a : Option Addr} {len cap : Nat} {ps : List PW} (h : PartsAt B w a len cap ps) (hb : B ≤ B') : PartsAt B' w a len cap ps := by
 obtain ⟨h1, h2, h2', hv, h3⟩ := h
 refine ⟨h1, h2, h2', fun p hp => (hv p hp).mono hb, ?_⟩
 rcases h3 with h3 | ⟨b, off, ha, hB, hc⟩
 ·exact .inl h3
 ·exact .inr ⟨b, off, ha, by omega, hc⟩
theorem PartsAt.take {B : Nat} {w : World} {a : Option Addr} {len cap n : Nat} {ps : List PW} (h : PartsAt B w a len cap ps) (hn : n ≤ len) : PartsAt B w a n cap (ps.take n) := by
 obtain ⟨h1, h2, h2', hv, h3⟩ := h
 refine ⟨by rw [List.length_take]; omega, by omega, h2', fun p hp => hv p (List.mem_of_mem_take hp), ?_⟩
 rcases h3 with h3 | ⟨b, off, ha, hB, hc⟩
 ·exact .inl (by omega)
 ·exact .inr ⟨b, off, ha, hB, fun i p hp => hc i p (take_sub hp)⟩
theorem PartsAt.get {B : Nat} {w w' : World} {a : Option Addr} {len cap : Nat} {ps : List PW} (h : PartsAt B w a len cap ps) (hb : Below B w w') {k : Nat} (hk : k < len) :
  ∃ b off p, a = some ⟨b, off, none⟩ ∧ b < B ∧ ps[k]? = some p ∧ IntsAt B w' p.va p.vl p.vc p.val ∧ w'.cell? ⟨b, off + k * 2, none⟩ = some (.int .i64 p.comp) ∧ w'.cell? ⟨b, off + k * 2 + 1, none⟩ = some (.slice p.va p.vl p.vc) := by
 obtain ⟨h1, h2, h2', hv, h3⟩ := h.below hb
 rcases h3 with h3 | ⟨b, off, ha, hB, hc⟩
 ·omega
 ·have hl : k < ps.length := by omega
  exact ⟨b, off, ps[k], ha, hB, List.getElem?_eq_getElem hl, hv _ (List.getElem_mem hl), hc k _ (List.getElem?_eq_getElem hl)⟩
def comps (ps : List PW) : List Int := ps.map (·.comp)
def partsF (ps : List PW) : Int × Int :=
 if (comps ps).all idB then (if (idsTo (foldS (comps ps)) 24).length = ps.length then (foldS (comps ps), 0) else (0, 7)) else (0, 1)
theorem intSl_own {w : World} {B : Nat} {v : Value} {n : Nat} {ids : List Int} (h : w.ownsRow B 3 1 v n (ids.map (.int .i64))) (hn : n ≤ maxLen) : ∃ a c, v = .slice a n c ∧ IntSl w a n ids := by
 obtain ⟨h1, h2⟩ := h
 rw [List.length_map, Nat.mul_one] at h1
 rcases h2 with ⟨rfl, rfl⟩ | ⟨g, cap, cur, rfl, _, hh, hc1, hc2, hc3, hc4⟩
 ·exact ⟨_, _, rfl, h1, hn, .inl rfl⟩
 ·refine ⟨_, _, rfl, h1, hn, .inr ⟨g, 0, rfl, fun i x hx => ?_⟩⟩
  have hi : i < n := by rw [← h1]; exact (List.getElem?_eq_some_iff.1 hx).1
  rw [Nat.zero_add, cell_at hh]
  have : (cur.toList.take (n * 1))[i]? = some (.int .i64 x) := by rw [hc4]; simp [hx]
  rw [List.getElem?_take, if_pos (by omega)] at this
  simpa using this
set_option maxRecDepth 100000 in
set_option maxHeartbeats 2000000 in
theorem sigParts_any (ps : List PW) (a : Option Addr) (len cap : Nat) (w : World) (h : PartsAt w.heap.size w a len cap ps) (hlen : len ≤ 100000) : Calls Tryz.prog 49 #[.slice a len cap] w fun e w' => e = .returned (.tuple #[.int .u32 (partsF ps).1, .int .i64 (partsF ps).2]) ∧ Below w.heap.size w w' := by
 obtain ⟨i0, hi, hz0, hz1, hz2⟩ := info_parts Tryz.info3
 have hl := h.1
 have HH := Lib.hid h
 have HL := Lib.hid hl
 clear h hl
 go_enter Tryz.func49, Tryz.ntmps49
 go_wp2_with fail
 go_loopw [4, 11] (fun v i wr => ∃ k : Nat, k ≤ len ∧ i = .int .i64 (k : Int) ∧ wr.ownsRow w.heap.size 3 1 v k ((comps (ps.take k)).map (.int .i64)) ∧ Below w.heap.size w wr) (fun _ i _ => len - (intOf i).toNat)
 case atStart => exact ⟨0, by omega, rfl, World.ownsRow_nil _ _ _ _, Below.refl _ _⟩
 case round =>
  obtain ⟨k, hk, rfl, hown, hb⟩ := hrel
  have hzr : w.heap.size ≤ wr.heap.size := hb.size
  by_cases hlt : k < len
  ·obtain ⟨b, off, p, rfl, hB, hp, _, c0, c1⟩ := HH.out.get hb hlt
   obtain ⟨va, vc, rfl⟩ := ownsRow_slice hown
   have hown1 := (hown.alloc (.cells #[.int .i64 p.comp, .slice p.va p.vl p.vc] 85)).alloc (.cells #[.int .i64 p.comp] 3)
   have hsn : (comps (ps.take (k + 1))).map (Value.int .i64) = (comps (ps.take k)).map (.int .i64) ++ [.int .i64 p.comp] := by rw [take_snoc hp]; simp [comps]
   have HSN := Lib.hid hsn
   have HOWN := Lib.hid hown1
   have HOW := Lib.hid hown
   have i1 : (0 : Int) ≤ (k : Int) := by omega
   have i2 : (k : Int) < (len : Int) := by omega
   clear hsn hown1 hown hp
   go_wp2_with (at_builtin; go_loud (refine wpList_append_own _ rfl (.tmp 15) (.tmp 18) 72 rfl w.heap.size 3 i0 (.int .i64 0) 1 8 Tryz.underlying72 hi hz0 hz1 hz2 rfl (by decide) (.slice va k vc) k _ rfl HOWN.out ⟨wr.heap.size + 1, 0, none⟩ 1 1 [.int .i64 p.comp] rfl rfl ?c1 ?c2 ?c3 ?c4 ?c5 ?_))
   case c1 =>
    intro j u hj
    match j, hj with
    | 0, hj => simp at hj; subst hj; simp [Addr.add]
   case c2 => intro u hu; simp at hu; subst hu; rfl
   case c3 => unfold maxLen; omega
   case c4 => omega
   case c5 => simp; omega
   intro v' w2 hown2 hg2 _
   have hrow : ∀ x, (Value.slice va k vc).ownBlock = some x → w.heap.size ≤ x := fun x hx => (HOW.out.lt x hx).1
   have hbel : Below w.heap.size w w2 := ((hb.alloc hzr _).alloc (by simp; omega) _).grown hg2 (by simp; omega) hrow
   have HO2 := Lib.hid hown2
   have HB2 := Lib.hid hbel
   clear hown2 hbel hrow hg2
   go_wp2_with fail
   go_roundw
   case rel => exact ⟨k + 1, by omega, by go_num, by rw [HSN.out]; exact HO2.out, HB2.out⟩
   case measure => simp [intOf]; omega
  ·obtain rfl : k = len := by omega
   rw [List.take_of_length_le (by have := HL.out; omega)] at hown
   obtain ⟨va, vc, rfl, hsl⟩ := intSl_own hown (by have := HH.out.2.1; have := HH.out.2.2.1; omega)
   have HSL := Lib.hid hsl
   clear hown hsl
   go_wp2_with fail
   refine (sigOf_any _ _ _ (comps ps) _ HSL.out).mono ?_
   rintro e w' ⟨rfl, rfl⟩
   cases hall : (comps ps).all idB
   ·have HO := Lib.hid (show ofF (comps ps) = (0, 1) by unfold ofF; rw [hall]; rfl)
    have HR := Lib.hid (show partsF ps = (0, 1) by unfold partsF; rw [hall]; rfl)
    rw [HO.out]
    clear hall
    go_wp2_with fail
    go_ret2
    exact ⟨ret_u32i (by rw [HR.out]) (by rw [HR.out]), hb⟩
   ·have HO := Lib.hid (show ofF (comps ps) = (foldS (comps ps), 0) by unfold ofF; rw [hall]; rfl)
    rw [HO.out]
    have HALL := Lib.hid hall
    clear hall
    obtain ⟨b0, b1⟩ := foldS_bd (comps ps)
    obtain ⟨s, hs⟩ : ∃ s, foldS (comps ps) = s := ⟨_, rfl⟩
    rw [hs] at b0 b1 ⊢
    have HS := Lib.hid hs
    clear hs
    go_wp2_with fail
    refine (sigLen_any s _ b0 b1).mono ?_
    rintro e w3 ⟨rfl, hb3⟩
    obtain ⟨n, hn⟩ : ∃ n, (idsTo s 24).length = n := ⟨_, rfl⟩
    rw [hn]
    have HN := Lib.hid hn
    have HB3 := Lib.hid (hb.trans (hb3.mono hzr))
    clear hn hb3
    by_cases he : n = k
    ·have e1 : ((n : Int) != (k : Int)) = false := by rw [he]; simp
     have HR := Lib.hid (show partsF ps = (s, 0) by unfold partsF; rw [if_pos HALL.out, HS.out, if_pos (by rw [HN.out, HL.out]; exact he)])
     clear he
     go_wp2_with fail
     go_ret2
     exact ⟨ret_u32i (by rw [HR.out]) (by rw [HR.out]), HB3.out⟩
    ·have e1 : ((n : Int) != (k : Int)) = true := by rw [bne_iff_ne]; omega
     have HR := Lib.hid (show partsF ps = (0, 7) by unfold partsF; rw [if_pos HALL.out, HS.out, if_neg (by rw [HN.out, HL.out]; exact he)])
     clear he
     go_wp2_with fail
     go_ret2
     exact ⟨ret_u32i (by rw [HR.out]) (by rw [HR.out]), HB3.out⟩
end Go.Proofs.YtgebbmfoamkfnaaGreatDoor
