/- Contracts of retrofitref01.Good, From, Size, Cmp. Printed by mkZ2.py. · Contracts of retrofitref01.Size, Cmp, Good. · Contracts of retrofitref01.Good, Cmp. Printed by mkZ4.py. -/
import Derived.Test.YtoadihebdaooaaaGreatE6
import Derived.Test.YtoadihebdaooaaaGreatE22
import Derived.Deep.QuietTactic
namespace Go.Proofs.YtoadihebdaooaaaGreat
open Go.RowKit
set_option linter.unusedVariables false
/-- A sign and 40 digits, as they lie. -/
def numL (n : Bool) (D : Nat → Int) : List Value := .bool n :: (List.range 40).map fun i => .int .i64 (D i)
def numV (n : Bool) (D : Nat → Int) : Array Value := (numL n D).toArray
def updD (D : Nat → Int) (i : Nat) (x : Int) : Nat → Int := fun j => if j = i then x else D j
theorem numL_len (n : Bool) (D : Nat → Int) : (numL n D).length = 41 := by simp [numL]
theorem numL_get (n : Bool) (D : Nat → Int) {i : Nat} (h : i < 40) : (numL n D)[i + 1]? = some (.int .i64 (D i)) := by
  unfold numL; rw [List.getElem?_cons_succ, List.getElem?_map, List.getElem?_range h]; rfl
theorem numL_set (n : Bool) (D : Nat → Int) {i : Nat} (h : i < 40) (x : Int) : (numL n D).set (i + 1) (.int .i64 x) = numL n (updD D i x) := by
  unfold numL
  rw [List.set_cons_succ]
  congr 1
  apply List.ext_getElem?
  intro j
  rw [List.getElem?_set]
  by_cases hj : j < 40
  · rw [List.getElem?_map, List.getElem?_range hj, List.getElem?_map, List.getElem?_range hj]
    unfold updD
    by_cases hi : i = j
    · subst hi
      rw [if_pos rfl, if_pos (by simpa using hj)]
      simp
    · rw [if_neg hi]
      have : ¬ j = i := fun e => hi e.symm
      simp [this]
  · rw [List.getElem?_eq_none (by simp; omega), List.getElem?_eq_none (by simp; omega), if_neg (by omega)]
theorem numV_one (n : Bool) (D : Nat → Int) : (numV n D).all (·.oneCell') = true := by
  rw [Array.all_eq_true_iff_forall_mem]
  intro v hv
  simp [numV, numL] at hv
  rcases hv with rfl | ⟨x, _, rfl⟩ <;> rfl
def nz (n : Bool) : Array Value := #[.bool n, .int .i64 0, .int .i64 0, .int .i64 0, .int .i64 0, .int .i64 0, .int .i64 0, .int .i64 0, .int .i64 0, .int .i64 0, .int .i64 0, .int .i64 0, .int .i64 0, .int .i64 0, .int .i64 0, .int .i64 0, .int .i64 0, .int .i64 0, .int .i64 0, .int .i64 0, .int .i64 0, .int .i64 0, .int .i64 0, .int .i64 0, .int .i64 0, .int .i64 0, .int .i64 0, .int .i64 0, .int .i64 0, .int .i64 0, .int .i64 0, .int .i64 0, .int .i64 0, .int .i64 0, .int .i64 0, .int .i64 0, .int .i64 0, .int .i64 0, .int .i64 0, .int .i64 0, .int .i64 0]
theorem nz_lit (n : Bool) : (#[.bool n, .int .i64 0, .int .i64 0, .int .i64 0, .int .i64 0, .int .i64 0, .int .i64 0, .int .i64 0, .int .i64 0, .int .i64 0, .int .i64 0, .int .i64 0, .int .i64 0, .int .i64 0, .int .i64 0, .int .i64 0, .int .i64 0, .int .i64 0, .int .i64 0, .int .i64 0, .int .i64 0, .int .i64 0, .int .i64 0, .int .i64 0, .int .i64 0, .int .i64 0, .int .i64 0, .int .i64 0, .int .i64 0, .int .i64 0, .int .i64 0, .int .i64 0, .int .i64 0, .int .i64 0, .int .i64 0, .int .i64 0, .int .i64 0, .int .i64 0, .int .i64 0, .int .i64 0, .int .i64 0] : Array Value) = nz n := rfl
theorem nz_eq (n : Bool) : nz n = numV n (fun _ => 0) := by
  unfold nz numV numL
  simp [List.range, List.range.loop]
theorem Tryz.size271 : (Tryz.prog.info? 271).map (·.size) = some 41 := by kernel_rfl
theorem numV_size (n : Bool) (D : Nat → Int) : (numV n D).size = 41 := by simp [numV, numL_len]
/-- The digits of a number, k of each half. -/
def dgK (hi lo : Int) (k : Nat) : Nat → Int := fun i => if i < k then lo / 256 ^ i % 256 else if 8 ≤ i ∧ i < 8 + k then hi / 256 ^ (i - 8) % 256 else 0
theorem dgK_succ (hi lo : Int) {k : Nat} (h : k < 8) : updD (updD (dgK hi lo k) k (lo / 256 ^ k % 256)) (8 + k) (hi / 256 ^ k % 256) = dgK hi lo (k + 1) := by
  funext j
  unfold updD dgK
  by_cases h1 : j = 8 + k
  · subst h1
    rw [if_pos rfl, if_neg (by omega), if_pos (by omega), show 8 + k - 8 = k by omega]
  · rw [if_neg h1]
    by_cases h2 : j = k
    · subst h2
      rw [if_pos rfl, if_pos (by omega)]
    · rw [if_neg h2]
      by_cases h3 : j < k
      · rw [if_pos h3, if_pos (show j < k + 1 by omega)]
      · rw [if_neg h3, if_neg (show ¬ j < k + 1 by omega)]
        by_cases h4 : 8 ≤ j ∧ j < 8 + k
        · rw [if_pos h4, if_pos (show 8 ≤ j ∧ j < 8 + (k + 1) by omega)]
        · rw [if_neg h4, if_neg (show ¬ (8 ≤ j ∧ j < 8 + (k + 1)) by omega)]
theorem dgK_zero (hi lo : Int) : dgK hi lo 0 = fun _ => 0 := by
  funext j
  unfold dgK
  rw [if_neg (by omega), if_neg (by omega)]
theorem numV_get (n : Bool) (D : Nat → Int) {i : Nat} (h : i < 40) : (numV n D)[1 + i]? = some (.int .i64 (D i)) := by
  unfold numV
  rw [List.getElem?_toArray, Nat.add_comm]
  exact numL_get n D h
def dg (x : WI) : Nat → Int := dgK x.hi x.lo 8
theorem pow256 (k : Nat) : (0 : Int) < 256 ^ k := by
  induction k with
  | zero => simp
  | succ k ih => rw [Int.pow_succ]; omega
theorem div256_succ (s : Int) (k : Nat) : s / 256 ^ (k + 1) = s / 256 ^ k / 256 := by
  rw [Int.pow_succ, Int.ediv_ediv_of_nonneg (by have := pow256 k; omega)]
theorem div256_bd {s : Int} (h0 : 0 ≤ s) (hs : s ≤ 18446744073709551615) (k : Nat) : 0 ≤ s / 256 ^ k ∧ s / 256 ^ k ≤ 18446744073709551615 := by
  induction k with
  | zero => simp; omega
  | succ k ih => rw [div256_succ]; omega
theorem nset {n : Bool} {D : Nat → Int} {i ub : Nat} {x : Int} {w : World} (hi : i < 40) (h : w.heap[ub]? = some (.cells (numV n D) 271 (0, 0))) : (w.setCell ⟨ub, 1 + i, none⟩ (.int .i64 x)).heap[ub]? = some (.cells (numV n (updD D i x)) 271 (0, 0)) := by
  unfold numV at *
  rw [hset _ _ _ _ _ _ _ h, List.setIfInBounds_toArray, Nat.add_comm 1 i, numL_set _ _ hi]
theorem nz_one (n : Bool) : (nz n).all (·.oneCell') = true := by rw [nz_eq]; exact numV_one _ _
set_option maxRecDepth 100000 in
set_option maxHeartbeats 1000000 in
theorem from01_any (x : WI) (w : World) (hx : x.wf) : Calls Tryz.prog 176 #[x.v] w fun e w' => e = .returned (.agg (numV x.neg (dg x))) ∧ Below w.heap.size w w' := by
  obtain ⟨n, hi, lo⟩ := x
  obtain ⟨⟨hh0, hh1⟩, hl0, hl1⟩ := hx
  dsimp only at hh0 hh1 hl0 hl1
  have hX0 := heap_alloc_new w (.cells #[.bool n, .int .u64 hi, .int .u64 lo] 148)
  have hR0 := keepA (.cells (nz false) 271) (heap_alloc_new (w.alloc (.cells #[.bool n, .int .u64 hi, .int .u64 lo] 148)) (.cells (nz false) 271))
  have hU0 := heap_alloc_new ((w.alloc (.cells #[.bool n, .int .u64 hi, .int .u64 lo] 148)).alloc (.cells (nz false) 271)) (.cells (nz false) 271)
  have hX1 := keepA (.cells (nz false) 271) (keepA (.cells (nz false) 271) hX0)
  have hi0 : (Tryz.prog.info? 271).map (·.size) = some (nz n).size := Tryz.size271
  rw [World.size_alloc] at hR0
  rw [World.size_alloc, World.size_alloc] at hU0
  have hbel0 : Below w.heap.size w (((w.alloc (.cells #[.bool n, .int .u64 hi, .int .u64 lo] 148)).alloc (.cells (nz false) 271)).alloc (.cells (nz false) 271)) := by go_grown
  have HB := Lib.hid (And.intro hX1 (And.intro hR0 (And.intro hU0 (And.intro hi0 hbel0))))
  clear hX0 hX1 hR0 hU0 hi0 hbel0
  dsimp only [WI.v]
  go_enter Tryz.func176, Tryz.ntmps176
  go_upto_region 2 with (first | (refine wpList_store_row rfl 271 (.tmp 3) (.tmp 9) rfl (w.heap.size + 1 + 1) (nz n) rfl rfl 271 (nz false) HB.out.2.2.1 HB.out.2.2.2.1 rfl (nz_one n) ?_))
  rw [nz_lit n, nz_lit false]
  obtain ⟨hX, hR, hU, _, hbel⟩ := HB.out
  clear HB
  have hX := (setRow_other _ (w.heap.size + 1 + 1) w.heap.size (nz n) (by omega)).trans hX
  have hR := (setRow_other _ (w.heap.size + 1 + 1) (w.heap.size + 1) (nz n) (by omega)).trans hR
  have hU := setRow_heap _ (w.heap.size + 1 + 1) (nz false) (nz n) _ _ hU
  have hbel := below_setRow hbel (by omega : w.heap.size ≤ w.heap.size + 1 + 1) (nz n)
  generalize (((w.alloc (.cells #[.bool n, .int .u64 hi, .int .u64 lo] 148)).alloc (.cells (nz false) 271)).alloc (.cells (nz false) 271)).setRow (w.heap.size + 1 + 1) (nz n) = W at *
  rw [nz_eq n, ← dgK_zero hi lo] at hU
  rw [nz_eq false] at hR
  generalize hub : w.heap.size + 1 + 1 = ub at *
  generalize hrb : w.heap.size + 1 = rb at *
  have x1 := cell_at hX 1
  have x2 := cell_at hX 2
  simp at x1 x2
  have HI := Lib.hid (And.intro hR (And.intro hU hbel))
  have HNU := Lib.hid (show w.heap.size < rb ∧ rb < ub by omega)
  clear hR hU hbel hub hrb hX
  go_wp2_with fail
  clear x1 x2
  go_loopw [4, 5, 6] (fun y x i wr => ∃ k : Nat, k ≤ 8 ∧ x = .int .u64 (lo / 256 ^ k) ∧ y = .int .u64 (hi / 256 ^ k) ∧ i = .int .i64 k ∧ wr.heap[rb]? = some (.cells (numV false fun _ => 0) 271 (0, 0)) ∧ wr.heap[ub]? = some (.cells (numV n (dgK hi lo k)) 271 (0, 0)) ∧ Below w.heap.size w wr) (fun _ _ i _ => 8 - (intOf i).toNat)
  case atStart => exact ⟨0, by omega, by simp, by simp, rfl, HI.out.1, HI.out.2.1, HI.out.2.2⟩
  case round =>
    obtain ⟨k, hk, rfl, rfl, rfl, hR, hU, hbw⟩ := hrel
    have hsl := div256_bd hl0 hl1 k
    have hsh := div256_bd hh0 hh1 k
    have HSL := Lib.hid (And.intro (div256_succ lo k) (div256_succ hi k))
    by_cases hlt : k < 8
    · have hb1 := nset (i := k) (x := lo / 256 ^ k % 256) (by omega) hU
      have hb2 := nset (i := 8 + k) (x := hi / 256 ^ k % 256) (by omega) hb1
      rw [dgK_succ hi lo hlt] at hb2
      have f1 := free_at hU (1 + k)
      have c1 := (cell_at hU (1 + k)).trans (numV_get n (dgK hi lo k) (i := k) (by omega))
      have f2 := free_at hb1 (1 + (8 + k))
      have c2 := (cell_at hb1 (1 + (8 + k))).trans (numV_get n (updD (dgK hi lo k) k (lo / 256 ^ k % 256)) (i := 8 + k) (by omega))
      have i1 : (0 : Int) ≤ (k : Int) := by omega
      have i2 : (k : Int) < 40 := by omega
      have i3 : (0 : Int) ≤ 8 + (k : Int) := by omega
      have i4 : 8 + (k : Int) < 40 := by omega
      have j1 : (8 + (k : Int)).toNat = 8 + k := by omega
      have HH := Lib.hid (And.intro hR (And.intro hb2 hbw))
      have huz := lt_some hU
      clear hR hU hbw hb1 hb2
      obtain ⟨q0, q1⟩ := hsl
      obtain ⟨p0, p1⟩ := hsh
      generalize lo / 256 ^ k = q at *
      generalize hi / 256 ^ k = p at *
      have hm := Int.tmod_eq_emod_of_nonneg (a := q) (b := 256) q0
      have hd := Int.tdiv_eq_ediv_of_nonneg (a := q) (b := 256) q0
      have hm2 := Int.tmod_eq_emod_of_nonneg (a := p) (b := 256) p0
      have hd2 := Int.tdiv_eq_ediv_of_nonneg (a := p) (b := 256) p0
      go_wp2_with fail
      go_roundw
      case rel =>
        refine ⟨k + 1, by omega, by rw [HSL.out.1], by rw [HSL.out.2], by go_num, ?_, ?_, (HH.out.2.2.setCell (by have := HNU.out; simp; omega) _).setCell (by have := HNU.out; simp; omega) _⟩
        · rw [hset_ne _ _ _ _ (by have := HNU.out; simp; omega), hset_ne _ _ _ _ (by have := HNU.out; simp; omega)]; exact HH.out.1
        · exact HH.out.2.1
      case measure => simp [intOf]; omega
    · obtain rfl : k = 8 := by omega
      have hi1 : (Tryz.prog.info? 271).map (·.size) = some (numV n (dgK hi lo 8)).size := by rw [numV_size]; exact Tryz.size271
      have hs2 : (numV false fun _ => 0).size = (numV n (dgK hi lo 8)).size := by rw [numV_size, numV_size]
      have HT := Lib.hid (setRow_heap wr rb (numV false fun _ => 0) (numV n (dgK hi lo 8)) 271 (0, 0) hR)
      have HS := Lib.hid (And.intro hU (And.intro hR (And.intro hi1 (And.intro hs2 hbw))))
      clear hU hR hi1 hs2 hbw hsl hsh
      go_wp2_with (first | (refine wpList_load_row rfl 271 (.tmp 3) rfl ub rfl 271 (numV n (dgK hi lo 8)) (0, 0) _ HS.out.1 Tryz.underlying271 rfl HS.out.2.2.1 ?_) | (refine wpList_store_row rfl 271 (.tmp 2) (.tmp 35) rfl rb (numV n (dgK hi lo 8)) rfl rfl 271 (numV false fun _ => 0) HS.out.2.1 HS.out.2.2.1 HS.out.2.2.2.1 (numV_one _ _) ?_))
      refine bodyPost_ret (v := .agg (numV n (dgK hi lo 8))) (results_cell_row rfl _ _ rb 271 (numV n (dgK hi lo 8)) (0, 0) _ rfl HT.out Tryz.underlying271 rfl HS.out.2.2.1) rfl ⟨rfl, ?_⟩
      exact below_setRow HS.out.2.2.2.2 (by have := HNU.out; omega) _
end Go.Proofs.YtoadihebdaooaaaGreat
namespace Go.Proofs.YtoadihebdaooaaaGreat
open Go.RowKit
set_option linter.unusedVariables false
/-- Which of two rows of k digits is greater. -/
def sizeD (D E : Nat → Int) : Nat → Int
  | 0 => 0
  | k + 1 => if E k < D k then 1 else if D k < E k then -1 else sizeD D E k
def valD (D : Nat → Int) : Nat → Int
  | 0 => 0
  | k + 1 => valD D k + D k * 256 ^ k
theorem valD_bd {D : Nat → Int} : ∀ (k : Nat), (∀ i, i < k → 0 ≤ D i ∧ D i < 256) → 0 ≤ valD D k ∧ valD D k < 256 ^ k
  | 0, _ => by simp [valD]
  | k + 1, h => by
    obtain ⟨h1, h2⟩ := valD_bd k (fun i hi => h i (by omega))
    obtain ⟨h3, h4⟩ := h k (by omega)
    have hp := pow256 k
    unfold valD
    have h5 : 0 ≤ D k * 256 ^ k := Int.mul_nonneg h3 (by omega)
    have h6 : D k * 256 ^ k ≤ 255 * 256 ^ k := Int.mul_le_mul_of_nonneg_right (by omega) (by omega)
    rw [Int.pow_succ]
    omega
theorem sign_add (a b z : Int) : signF (a + z) (b + z) = signF a b := by
  unfold signF
  have h1 : (a + z = b + z) ↔ a = b := by omega
  have h2 : (a + z < b + z) ↔ a < b := by omega
  simp only [h1, h2]
theorem sizeD_sign {D E : Nat → Int} : ∀ (k : Nat), (∀ i, i < k → 0 ≤ D i ∧ D i < 256) → (∀ i, i < k → 0 ≤ E i ∧ E i < 256) → sizeD D E k = signF (valD D k) (valD E k)
  | 0, _, _ => by simp [sizeD, valD, signF]
  | k + 1, hD, hE => by
    obtain ⟨a1, a2⟩ := valD_bd k (fun i hi => hD i (by omega))
    obtain ⟨b1, b2⟩ := valD_bd k (fun i hi => hE i (by omega))
    have ih := sizeD_sign k (fun i hi => hD i (by omega)) (fun i hi => hE i (by omega))
    have hp := pow256 k
    unfold sizeD valD
    rw [ih]
    by_cases h1 : E k < D k
    · rw [if_pos h1]
      have h2 : (E k + 1) * 256 ^ k ≤ D k * 256 ^ k := Int.mul_le_mul_of_nonneg_right (by omega) (by omega)
      rw [Int.add_mul, Int.one_mul] at h2
      unfold signF
      rw [if_neg (by omega), if_neg (by omega)]
    · rw [if_neg h1]
      by_cases h2 : D k < E k
      · rw [if_pos h2]
        have h3 : (D k + 1) * 256 ^ k ≤ E k * 256 ^ k := Int.mul_le_mul_of_nonneg_right (by omega) (by omega)
        rw [Int.add_mul, Int.one_mul] at h3
        unfold signF
        rw [if_neg (by omega), if_pos (by omega)]
      · rw [if_neg h2]
        have he : D k = E k := by omega
        rw [he]
        exact (sign_add _ _ _).symm
theorem valD_congr {D E : Nat → Int} : ∀ (k : Nat), (∀ i, i < k → D i = E i) → valD D k = valD E k
  | 0, _ => rfl
  | k + 1, h => by
    unfold valD
    rw [valD_congr k (fun i hi => h i (by omega)), h k (by omega)]
theorem valD_add (D : Nat → Int) (m : Nat) : ∀ (k : Nat), valD D (m + k) = valD D m + 256 ^ m * valD (fun i => D (m + i)) k
  | 0 => by simp [valD]
  | k + 1 => by
    rw [← Nat.add_assoc]
    show valD D (m + k) + D (m + k) * 256 ^ (m + k) = _
    rw [valD_add D m k]
    show _ = valD D m + 256 ^ m * (valD (fun i => D (m + i)) k + D (m + k) * 256 ^ k)
    rw [Int.mul_add, Int.pow_add, ← Int.mul_assoc, ← Int.mul_assoc, Int.mul_comm (256 ^ m) (D (m + k)), Int.add_assoc]
theorem valD_of {s : Int} (h0 : 0 ≤ s) : ∀ (k : Nat), valD (fun i => s / 256 ^ i % 256) k = s % 256 ^ k
  | 0 => by simp [valD, Int.emod_one]
  | k + 1 => by
    have ih := valD_of h0 k
    show valD (fun i => s / 256 ^ i % 256) k + s / 256 ^ k % 256 * 256 ^ k = _
    rw [ih, Int.emod_def s (256 ^ k), Int.emod_def s (256 ^ (k + 1)), div256_succ, Int.emod_def (s / 256 ^ k) 256, Int.pow_succ]
    generalize (256 : Int) ^ k = p
    generalize s / p = q
    rw [Int.sub_mul, Int.mul_comm q p, Int.mul_comm (256 * (q / 256)) p, ← Int.mul_assoc]
    omega
theorem valD_zero : ∀ (k : Nat), valD (fun _ => 0) k = 0
  | 0 => rfl
  | k + 1 => by
    show valD (fun _ => 0) k + 0 * 256 ^ k = 0
    rw [valD_zero k]; simp
def magW (x : WI) : Int := x.hi * 18446744073709551616 + x.lo
theorem dg_bd (x : WI) (i : Nat) : 0 ≤ dg x i ∧ dg x i < 256 := by
  unfold dg dgK
  split
  · omega
  · split
    · omega
    · omega
theorem valD_dg {x : WI} (hx : x.wf) : valD (dg x) 40 = magW x := by
  obtain ⟨⟨h1, h2⟩, h3, h4⟩ := hx
  rw [show (40 : Nat) = 8 + (8 + 24) from rfl, valD_add, valD_add]
  have e1 : valD (dg x) 8 = x.lo := by
    rw [valD_congr (E := fun i => x.lo / 256 ^ i % 256) 8 (fun i hi => by unfold dg dgK; rw [if_pos hi]), valD_of h3]
    exact Int.emod_eq_of_lt h3 (by show x.lo < 256 ^ 8; omega)
  have e2 : valD (fun i => dg x (8 + i)) 8 = x.hi := by
    rw [valD_congr (E := fun i => x.hi / 256 ^ i % 256) 8 (fun i hi => by unfold dg dgK; rw [if_neg (by omega), if_pos (by omega), show 8 + i - 8 = i by omega]), valD_of h1]
    exact Int.emod_eq_of_lt h1 (by show x.hi < 256 ^ 8; omega)
  have e3 : valD (fun i => (fun i => dg x (8 + i)) (8 + i)) 24 = 0 := by
    rw [valD_congr (E := fun _ => 0) 24 (fun i hi => by show dg x (8 + (8 + i)) = 0; unfold dg dgK; rw [if_neg (by omega), if_neg (by omega)]), valD_zero]
  rw [e1, e2, e3]
  unfold magW
  have : (256 : Int) ^ 8 = 18446744073709551616 := by decide
  rw [this]
  omega
theorem size_mag {x y : WI} (hx : x.wf) (hy : y.wf) : sizeD (dg x) (dg y) 40 = signF (magW x) (magW y) := by
  rw [sizeD_sign 40 (fun i _ => dg_bd x i) (fun i _ => dg_bd y i), valD_dg hx, valD_dg hy]
set_option maxRecDepth 100000 in
set_option maxHeartbeats 1000000 in
theorem size01_any (n m : Bool) (D E : Nat → Int) (w : World) (hD : ∀ i, 0 ≤ D i ∧ D i < 256) (hE : ∀ i, 0 ≤ E i ∧ E i < 256) : Calls Tryz.prog 175 #[.agg (numV n D), .agg (numV m E)] w fun e w' => e = .returned (.int .i64 (sizeD D E 40)) ∧ Below w.heap.size w w' := by
  have hA := keepA (.cells (numV m E) 271) (heap_alloc_new w (.cells (numV n D) 271))
  have hB := heap_alloc_new (w.alloc (.cells (numV n D) 271)) (.cells (numV m E) 271)
  rw [World.size_alloc] at hB
  have hbel : Below w.heap.size w ((w.alloc (.cells (numV n D) 271)).alloc (.cells (numV m E) 271)) := by go_grown
  have HB := Lib.hid (And.intro hA (And.intro hB hbel))
  clear hA hB hbel
  go_enter Tryz.func175, Tryz.ntmps175
  go_wp2_with fail
  generalize (w.alloc (.cells (numV n D) 271)).alloc (.cells (numV m E) 271) = W at *
  have nab : w.heap.size < w.heap.size + 1 := by omega
  generalize hbb : w.heap.size + 1 = bb at *
  go_loopw [5] (fun i wr => ∃ (k q : Nat), k ≤ 40 ∧ i = .int .i64 ((k : Int) - 1) ∧ sizeD D E 40 = sizeD D E k ∧ wr = W.drewN q) (fun i _ => (intOf i + 1).toNat)
  case atStart => exact ⟨40, 0, by omega, rfl, rfl, rfl⟩
  case round =>
    obtain ⟨k, q, hk, rfl, hsz, hwr⟩ := hrel
    have HSZ := Lib.hid hsz
    have HWR := Lib.hid hwr
    have hA2 : wr.heap[w.heap.size]? = some (.cells (numV n D) 271 (0, 0)) := by rw [hwr]; exact HB.out.1
    have hB2 : wr.heap[bb]? = some (.cells (numV m E) 271 (0, 0)) := by rw [hwr]; exact HB.out.2.1
    have hbw : Below w.heap.size w wr := by rw [hwr]; exact below_drewN HB.out.2.2 q
    clear hsz hwr
    cases k with
    | zero =>
      have HBW := Lib.hid hbw
      clear hA2 hB2 hbw
      go_wp2_with fail
      go_returns
      exact ⟨ret_intk (by rw [HSZ.out]; rfl), HBW.out⟩
    | succ j =>
      have hj : (((j + 1 : Nat) : Int)) - 1 = (j : Int) := by omega
      rw [hj]
      have c1 := (cell_at hA2 (1 + j)).trans (numV_get n D (i := j) (by omega))
      have c2 := (cell_at hB2 (1 + j)).trans (numV_get m E (i := j) (by omega))
      have z1 := lt_some hA2
      have z2 := lt_some hB2
      have i1 : (0 : Int) ≤ (j : Int) := by omega
      have i2 : (j : Int) < 40 := by omega
      have i3 : decide ((0 : Int) ≤ (j : Int)) = true := by simp
      have HBW := Lib.hid hbw
      have hst : sizeD D E (j + 1) = if E j < D j then 1 else if D j < E j then -1 else sizeD D E j := rfl
      have HST := Lib.hid hst
      clear hA2 hB2 hbw hst
      obtain ⟨d0, d1⟩ := hD j
      obtain ⟨e0, e1⟩ := hE j
      generalize D j = dj at *
      generalize E j = ej at *
      by_cases h1 : ej < dj
      · have e1 : decide (ej < dj) = true := by simp; exact h1
        go_wp2_with fail
        go_quiet (fail)
        go_wp2_with fail
        go_returns
        exact ⟨ret_intk (by rw [HSZ.out, HST.out, if_pos h1]), below_drewN HBW.out _⟩
      · have f1 : decide (ej < dj) = false := by simp; omega
        by_cases h2 : dj < ej
        · have f2 : decide (dj < ej) = true := by simp; exact h2
          go_wp2_with fail
          go_quiet (fail)
          obtain ⟨n1, rfl⟩ : ∃ n1, n1 = nq := ⟨_, rfl⟩
          go_wp2_with fail
          go_quiet (fail)
          go_wp2_with fail
          go_returns
          exact ⟨ret_intk (by rw [HSZ.out, HST.out, if_neg (by omega), if_pos h2]), below_drewN (below_drewN HBW.out _) _⟩
        · have f2 : decide (dj < ej) = false := by simp; omega
          go_wp2_with fail
          go_quiet (fail)
          obtain ⟨n1, rfl⟩ : ∃ n1, n1 = nq := ⟨_, rfl⟩
          go_wp2_with fail
          go_quiet (fail)
          go_wp2_with fail
          go_roundw
          case rel => exact ⟨j, _, by omega, rfl, by rw [HSZ.out, HST.out, if_neg (by omega), if_neg (by omega)], by rw [HWR.out, World.drewN_drewN]⟩
          case measure => simp [intOf]
end Go.Proofs.YtoadihebdaooaaaGreat
namespace Go.Proofs.YtoadihebdaooaaaGreat
open Go.RowKit
set_option linter.unusedVariables false
theorem good01_any (x : WI) (w : World) (hx : x.wf) : Calls Tryz.prog 154 #[x.v] w fun e w' => e = .returned (.bool x.form) ∧ Below w.heap.size w w' := by
  obtain ⟨n, hi, lo⟩ := x
  dsimp only [WI.v]
  have hb : Below w.heap.size w (w.alloc (.cells #[.bool n, .int .u64 hi, .int .u64 lo] 148)) := by go_grown
  by_cases h1 : hi < 9223372036854775808
  · have e1 : decide (hi < 9223372036854775808) = true := by simp; exact h1
    cases n
    · have HF : Hid (WI.form ⟨false, hi, lo⟩ = true) := Lib.hid (by simp [WI.form, h1])
      clear h1
      go_enter Tryz.func154, Tryz.ntmps154
      go_wp2_with fail
      go_returns
      exact ⟨ret_bool HF.out.symm, hb⟩
    · by_cases h2 : hi = 0
      · subst h2
        by_cases h3 : lo = 0
        · subst h3
          go_enter Tryz.func154, Tryz.ntmps154
          go_wp2_with fail
          go_returns
          exact ⟨rfl, hb⟩
        · have e3 : (lo == 0) = false := by rw [beq_eq_false_iff_ne]; exact h3
          have HF : Hid (WI.form ⟨true, 0, lo⟩ = true) := Lib.hid (by simp [WI.form, h3])
          clear h3
          go_enter Tryz.func154, Tryz.ntmps154
          go_wp2_with fail
          go_returns
          exact ⟨ret_bool HF.out.symm, hb⟩
      · have e2 : (hi == 0) = false := by rw [beq_eq_false_iff_ne]; exact h2
        have HF : Hid (WI.form ⟨true, hi, lo⟩ = true) := Lib.hid (by simp [WI.form, h1, h2])
        clear h1 h2
        go_enter Tryz.func154, Tryz.ntmps154
        go_wp2_with fail
        go_returns
        exact ⟨ret_bool HF.out.symm, hb⟩
  · have e1 : decide (hi < 9223372036854775808) = false := by simp; omega
    have HF : Hid (WI.form ⟨n, hi, lo⟩ = false) := Lib.hid (by simp [WI.form, h1])
    clear h1
    go_enter Tryz.func154, Tryz.ntmps154
    go_wp2_with fail
    go_returns
    exact ⟨ret_bool HF.out.symm, hb⟩
theorem val_mag {x : WI} : x.val = if x.neg then -(magW x) else magW x := rfl
theorem sign_negneg (a b : Int) : signF (-a) (-b) = -(signF a b) := by
  unfold signF
  by_cases h1 : a = b
  · subst h1; simp
  · rw [if_neg (by omega), if_neg h1]
    by_cases h2 : a < b
    · rw [if_neg (by omega), if_pos h2]; rfl
    · rw [if_pos (by omega), if_neg h2]
theorem form_mag {x : WI} (hx : x.wf) (h : x.form = true) : 0 ≤ magW x ∧ (x.neg = true → 0 < magW x) := by
  obtain ⟨⟨h1, h2⟩, h3, h4⟩ := hx
  unfold magW
  refine ⟨by omega, fun hn => ?_⟩
  unfold WI.form at h
  rw [hn] at h
  simp at h
  omega
theorem sign_bd (a b : Int) : -1 ≤ signF a b ∧ signF a b ≤ 1 := by
  unfold signF
  split
  · omega
  · split <;> omega
def cmp_list (s : Bool) (a b c d : Int) (r : Int) : List (Value → World → Prop) :=
  [IsV (.agg #[.bool s, .int .u64 a, .int .u64 b]),
   IsV (.agg (numV s (dg ⟨s, a, b⟩))),
   IsV (.agg #[.bool s, .int .u64 c, .int .u64 d]),
   IsV (.agg (numV s (dg ⟨s, c, d⟩))),
   IsV (.int .i64 r),
   IsV (.int .i64 r)]
theorem cmp_list_lasts (s : Bool) (a b c d : Int) (r : Int) : ∀ p ∈ cmp_list s  a b c d  r , Lasts p := by
  simp only [cmp_list, List.mem_cons, List.not_mem_nil, or_false]
  rintro p hp
  repeat (rcases hp with rfl | hp; exact lasts_v _)
set_option maxRecDepth 100000 in
set_option maxHeartbeats 1000000 in
theorem cmp01_same (s : Bool) (a b c d : Int) (w : World) (hx : WI.wf ⟨s, a, b⟩) (hy : WI.wf ⟨s, c, d⟩) (r : Int) (hr : sizeD (dg ⟨s, a, b⟩) (dg ⟨s, c, d⟩) 40 = r) (hr1 : -1 ≤ r ∧ r ≤ 1) : Calls Tryz.prog 156 #[.agg #[.bool s, .int .u64 a, .int .u64 b], .agg #[.bool s, .int .u64 c, .int .u64 d]] w fun e w' => e = .returned (.int .i64 (if s then -r else r)) ∧ Below w.heap.size w w' := by
  have HWX := Lib.hid hx
  have HWY := Lib.hid hy
  have HR := Lib.hid hr
  have hX0 := keepA (.cells #[.bool s, .int .u64 c, .int .u64 d] 148) (heap_alloc_new w (.cells #[.bool s, .int .u64 a, .int .u64 b] 148))
  have hY0 := heap_alloc_new (w.alloc (.cells #[.bool s, .int .u64 a, .int .u64 b] 148)) (.cells #[.bool s, .int .u64 c, .int .u64 d] 148)
  have hb0 : Below w.heap.size w ((w.alloc (.cells #[.bool s, .int .u64 a, .int .u64 b] 148)).alloc (.cells #[.bool s, .int .u64 c, .int .u64 d] 148)) := by go_grown
  rw [World.size_alloc] at hY0
  have HX := Lib.hid hX0
  have HY := Lib.hid hY0
  have HB := Lib.hid hb0
  clear hx hy hr hX0 hY0 hb0
  go_enter Tryz.func156, Tryz.ntmps156
  go_wp2_with fail
  generalize (w.alloc (.cells #[.bool s, .int .u64 a, .int .u64 b] 148)).alloc (.cells #[.bool s, .int .u64 c, .int .u64 d] 148) = W at *
  generalize w.heap.size + 1 = yb at *
  have HB2 := HB
  generalize hxb : w.heap.size = xb at HX ⊢
  refine wp_region_frame (by kernel_rfl) (by kernel_rfl) (by kernel_rfl) (byList (cmp_list s a b c d r)) (lasts_list (cmp_list_lasts s a b c d r)) ?_ ?_
  · intro vs w' iq o A F hb ho hd
    have m2 : A.tmps[2]?.getD undef = (.pointer (some ⟨xb, 0, none⟩)) := F.m (by kernel_rfl) rfl
    have m3 : A.tmps[3]?.getD undef = (.pointer (some ⟨yb, 0, none⟩)) := F.m (by kernel_rfl) rfl
    have G := F.light (n := 23) (by kernel_rfl)
    clear F
    have hx := keep hb HX.out
    have hy := keep hb HY.out
    have x0 := cell_at hx 0
    have x1 := cell_at hx 1
    have x2 := cell_at hx 2
    have y0 := cell_at hy 0
    have y1 := cell_at hy 1
    have y2 := cell_at hy 2
    simp at x0 x1 x2 y0 y1 y2
    have hxl := lt_some hx
    have hyl := lt_some hy
    clear hb hx hy
    revert ho hd
    match iq with
    | 0 =>
      intro ho hd
      obtain rfl := (Option.some.inj ho).symm
      clear hd ho
      refine step_open rfl ?_
      clear G
      exact step_run (v := (.agg #[.bool s, .int .u64 a, .int .u64 b])) (by go_simp) rfl
    | 1 =>
      intro ho hd
      obtain rfl := (Option.some.inj ho).symm
      have d0 : vs 0 = (.agg #[.bool s, .int .u64 a, .int .u64 b]) := hd ⟨0, .data⟩ (by simp) rfl
      clear hd ho
      have h13 := G.h (j := 0) (d := 13) rfl (by decide) d0
      refine step_open rfl ?_
      clear G
      go_simp
      refine (from01_any ⟨s, a, b⟩ _ HWX.out).mono ?_
      rintro e w2 ⟨rfl, hb2⟩
      exact ⟨_, rfl, rfl, hb2⟩
    | 2 =>
      intro ho hd
      obtain rfl := (Option.some.inj ho).symm
      clear hd ho
      refine step_open rfl ?_
      clear G
      exact step_run (v := (.agg #[.bool s, .int .u64 c, .int .u64 d])) (by go_simp) rfl
    | 3 =>
      intro ho hd
      obtain rfl := (Option.some.inj ho).symm
      have d2 : vs 2 = (.agg #[.bool s, .int .u64 c, .int .u64 d]) := hd ⟨2, .data⟩ (by simp) rfl
      clear hd ho
      have h15 := G.h (j := 2) (d := 15) rfl (by decide) d2
      refine step_open rfl ?_
      clear G
      go_simp
      refine (from01_any ⟨s, c, d⟩ _ HWY.out).mono ?_
      rintro e w2 ⟨rfl, hb2⟩
      exact ⟨_, rfl, rfl, hb2⟩
    | 4 =>
      intro ho hd
      obtain rfl := (Option.some.inj ho).symm
      have d1 : vs 1 = (.agg (numV s (dg ⟨s, a, b⟩))) := hd ⟨1, .data⟩ (by simp) rfl
      have d3 : vs 3 = (.agg (numV s (dg ⟨s, c, d⟩))) := hd ⟨3, .data⟩ (by simp) rfl
      clear hd ho
      have h14 := G.h (j := 1) (d := 14) rfl (by decide) d1
      have h16 := G.h (j := 3) (d := 16) rfl (by decide) d3
      refine step_open rfl ?_
      clear G
      go_simp
      refine (size01_any s s _ _ _ (dg_bd ⟨s, a, b⟩) (dg_bd ⟨s, c, d⟩)).mono ?_
      rintro e w2 ⟨rfl, hb2⟩
      rw [HR.out]
      exact ⟨_, rfl, rfl, hb2⟩
    | 5 =>
      intro ho hd
      obtain rfl := (Option.some.inj ho).symm
      have d4 : vs 4 = (.int .i64 r) := hd ⟨4, .data⟩ (by simp) rfl
      clear hd ho
      have h17 := G.h (j := 4) (d := 17) rfl (by decide) d4
      refine step_open rfl ?_
      clear G
      exact step_run (v := (.int .i64 r)) (by go_simp) rfl
    | n + 6 =>
      intro ho hd
      simp at ho
  intro vs w6 hb hR
  have hv : vs 5 = .int .i64 r := hR 5 (by simp)
  have hx6 := keep hb HX.out
  have x0 := cell_at hx6 0
  simp at x0
  have hxl := lt_some hx6
  have HB6 := Lib.hid (HB2.out.trans (hb.mono HB2.out.size))
  simp only [putAll, Act.put, List.setIfInBounds_toArray, List.set_cons_succ, List.set_cons_zero]
  rw [hv]
  clear hR hb hv hx6
  generalize vs 0 = y0
  generalize vs (0 + 1) = y1
  generalize vs (0 + 1 + 1) = y2
  generalize vs (0 + 1 + 1 + 1) = y3
  generalize vs (0 + 1 + 1 + 1 + 1) = y4
  have hw1 : IntKind.i64.wrap (-r) = -r := IntWalk.i64_in _ (by omega)
  cases s
  · go_wp2_with fail
    go_returns
    exact ⟨rfl, by rw [← hxb]; exact HB6.out⟩
  · go_wp2_with fail
    go_returns
    exact ⟨rfl, by rw [← hxb]; exact HB6.out⟩
theorem cmp01_any (x y : WI) (w : World) (hx : x.wf) (hy : y.wf) (fx : x.form = true) (fy : y.form = true) : Calls Tryz.prog 156 #[x.v, y.v] w fun e w' => e = .returned (.int .i64 (signF x.val y.val)) ∧ Below w.heap.size w w' := by
  have hmx := form_mag hx fx
  have hmy := form_mag hy fy
  by_cases hs : x.neg = y.neg
  · obtain ⟨s, a, b⟩ := x
    obtain ⟨s', c, d⟩ := y
    dsimp only at hs
    subst hs
    have h := cmp01_same s a b c d w hx hy _ (size_mag hx hy) (sign_bd _ _)
    have e : signF (WI.val ⟨s, a, b⟩) (WI.val ⟨s, c, d⟩) = if s then -(signF (magW ⟨s, a, b⟩) (magW ⟨s, c, d⟩)) else signF (magW ⟨s, a, b⟩) (magW ⟨s, c, d⟩) := by
      rw [val_mag, val_mag]
      cases s
      · rfl
      · exact sign_negneg _ _
    rw [e]
    exact h
  · obtain ⟨s, a, b⟩ := x
    obtain ⟨s', c, d⟩ := y
    dsimp only at hs hmx hmy
    have hb0 : Below w.heap.size w ((w.alloc (.cells #[.bool s, .int .u64 a, .int .u64 b] 148)).alloc (.cells #[.bool s', .int .u64 c, .int .u64 d] 148)) := by go_grown
    cases s
    · obtain rfl : s' = true := by cases s' <;> simp at hs ⊢
      have HE : Hid (signF (WI.val ⟨false, a, b⟩) (WI.val ⟨true, c, d⟩) = 1) := Lib.hid (by
        have h1 := hmx.1
        have h2 := hmy.2 rfl
        rw [val_mag, val_mag]
        show signF (magW ⟨false, a, b⟩) (-(magW ⟨true, c, d⟩)) = 1
        unfold signF
        rw [if_neg (by omega), if_neg (by omega)])
      dsimp only [WI.v]
      clear hmx hmy
      go_enter Tryz.func156, Tryz.ntmps156
      go_wp2_with fail
      go_returns
      exact ⟨ret_intk HE.out.symm, hb0⟩
    · obtain rfl : s' = false := by cases s' <;> simp at hs ⊢
      have HE : Hid (signF (WI.val ⟨true, a, b⟩) (WI.val ⟨false, c, d⟩) = -1) := Lib.hid (by
        have h1 := hmx.2 rfl
        have h2 := hmy.1
        rw [val_mag, val_mag]
        show signF (-(magW ⟨true, a, b⟩)) (magW ⟨false, c, d⟩) = -1
        unfold signF
        rw [if_neg (by omega), if_pos (by omega)])
      dsimp only [WI.v]
      clear hmx hmy
      go_enter Tryz.func156, Tryz.ntmps156
      go_wp2_with fail
      go_returns
      exact ⟨ret_intk HE.out.symm, hb0⟩
end Go.Proofs.YtoadihebdaooaaaGreat
