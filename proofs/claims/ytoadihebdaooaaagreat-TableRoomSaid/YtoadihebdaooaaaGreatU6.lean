/- Sets of parts: Sig.Len, sig.Of, sig.Parts. -/
import Derived.Test.YtoadihebdaooaaaGreatU5
namespace Go.Proofs.YtoadihebdaooaaaGreat
open Go.RowKit
set_option linter.unusedVariables false
theorem hasBit {s n : Nat} (hs : s < 4294967296) (h1 : 1 ≤ n) (h2 : n ≤ 24) : hasB (s : Int) (n : Int) = s.testBit n := by
  have hd : s / 2 ^ n < 4294967296 := by
    have := Nat.div_le_self s (2 ^ n)
    omega
  unfold hasB
  rw [idB_true (by omega) (by omega), Bool.true_and, Int.toNat_natCast]
  have e : ((s : Int) / 2 ^ n) = ((s / 2 ^ n : Nat) : Int) := by simp
  rw [e, show (1 : Int) = ((1 : Nat) : Int) from rfl, u32_and_nat _ _ hd (by omega)]
  rw [Nat.testBit_eq_decide_div_mod_eq, Nat.and_one_is_mod]
  by_cases hh : s / 2 ^ n % 2 = 1
  · rw [hh]; simp
  · simp [hh]; omega
theorem maskBit : ∀ i, i < 32 → (33554430 : Nat).testBit i = decide (1 ≤ i ∧ i ≤ 24) := by decide
theorem len_ids {x : Nat} (hx : x < 4294967296) : bcount (x &&& 33554430) 32 = (idsTo (x : Int) 24).length := by
  unfold idsTo
  rw [← List.countP_eq_length_filter, List.countP_map]
  have e : (List.range 24).countP ((fun i => hasB (x : Int) i) ∘ fun (j : Nat) => (j : Int) + 1) = (List.range 24).countP fun j => x.testBit (1 + j) := List.countP_congr (fun j hj => by
    have hj' := List.mem_range.1 hj
    have := hasBit hx (n := j + 1) (by omega) (by omega)
    simp only [Function.comp]
    rw [show ((j : Int) + 1) = ((j + 1 : Nat) : Int) by omega, this, Nat.add_comm])
  rw [e, show 32 = 1 + (24 + 7) from rfl, bcount_add, bcount_add]
  have e1 : bcount (x &&& 33554430) 1 = 0 := by
    unfold bcount
    rw [List.countP_eq_zero]
    intro j hj
    have := List.mem_range.1 hj
    rw [Nat.testBit_and, maskBit j (by omega)]
    simp; omega
  have e2 : bcount ((x &&& 33554430) / 2 ^ 1 / 2 ^ 24) 7 = 0 := by
    unfold bcount
    rw [List.countP_eq_zero]
    intro j hj
    have := List.mem_range.1 hj
    rw [Nat.testBit_div_two_pow, Nat.testBit_div_two_pow, Nat.testBit_and, maskBit _ (by omega)]
    simp
  rw [e1, e2, Nat.zero_add, Nat.add_zero]
  unfold bcount
  refine List.countP_congr (fun j hj => ?_)
  have := List.mem_range.1 hj
  rw [Nat.testBit_div_two_pow, Nat.testBit_and, maskBit _ (by omega), Nat.add_comm j 1]
  simp; omega
set_option maxRecDepth 100000 in
theorem sigLen_any (s : Int) (w : World) (h0 : 0 ≤ s) (h1 : s ≤ 4294967295) : Calls Tryz.prog 131 #[.int .u32 s] w fun e w' => e = .returned (.int .i64 ((idsTo s 24).length : Int)) ∧ Below w.heap.size w w' := by
  obtain ⟨x, rfl⟩ := Int.eq_ofNat_of_zero_le h0
  have hx : x < 4294967296 := by omega
  have hm := u32_and_nat x 33554430 hx (by decide)
  rw [show ((33554430 : Nat) : Int) = 33554430 from rfl] at hm
  have hl := ones_any (x &&& 33554430) w (Nat.lt_of_le_of_lt Nat.and_le_left hx)
  rw [len_ids hx] at hl
  have HL := Lib.hid hl
  clear hl
  go_enter Tryz.func131, Tryz.ntmps131
  go_wp2_with fail
  refine HL.out.mono ?_
  rintro e w' ⟨rfl, hb⟩
  go_wp2_with fail
  go_returns
  exact ⟨rfl, hb⟩
theorem withBd {s n : Int} (h0 : 0 ≤ s) (h1 : s ≤ 4294967295) : 0 ≤ sWith s n ∧ sWith s n ≤ 4294967295 := by
  unfold sWith; split
  · refine ⟨?_, ?_⟩ <;> (unfold bits; simp only [IntKind.wrap_u32']; omega)
  · exact ⟨h0, h1⟩
/-- A slice of ints. -/
def IntSl (w : World) (a : Option Addr) (len : Nat) (ids : List Int) : Prop :=
  ids.length = len ∧ len ≤ maxLen ∧ (len = 0 ∨ ∃ b off, a = some ⟨b, off, none⟩ ∧ ∀ (i : Nat) (x : Int), ids[i]? = some x → w.cell? ⟨b, off + i, none⟩ = some (.int .i64 x))
def foldS (ids : List Int) : Int := ids.foldl sWith 0
theorem foldS_snoc (l : List Int) (x : Int) : foldS (l ++ [x]) = sWith (foldS l) x := by simp [foldS]
theorem foldS_bd (ids : List Int) : 0 ≤ foldS ids ∧ foldS ids ≤ 4294967295 := by
  have : ∀ (l : List Int) (s : Int), 0 ≤ s → s ≤ 4294967295 → 0 ≤ l.foldl sWith s ∧ l.foldl sWith s ≤ 4294967295 := by
    intro l
    induction l with
    | nil => intro s h0 h1; exact ⟨h0, h1⟩
    | cons x r ih => intro s h0 h1; obtain ⟨a, b⟩ := withBd (n := x) h0 h1; exact ih _ a b
  exact this ids 0 (by omega) (by omega)
def ofF (ids : List Int) : Int × Int := if ids.all idB then (foldS ids, 0) else (0, 1)
theorem ret_u32i {a b c d : Int} (h1 : a = c) (h2 : b = d) : Ending.returned (.tuple #[.int .u32 a, .int .i64 b]) = .returned (.tuple #[.int .u32 c, .int .i64 d]) := by rw [h1, h2]
set_option maxRecDepth 100000 in
set_option maxHeartbeats 1000000 in
theorem sigOf_any (a : Option Addr) (len cap : Nat) (ids : List Int) (w : World) (h : IntSl w a len ids) : Calls Tryz.prog 130 #[.slice a len cap] w fun e w' => e = .returned (.tuple #[.int .u32 (ofF ids).1, .int .i64 (ofF ids).2]) ∧ w = w' := by
  obtain ⟨hl, hm, hc⟩ := h
  unfold maxLen at hm
  have HL := Lib.hid hl
  have HC := Lib.hid hc
  clear hl hc
  go_enter Tryz.func130, Tryz.ntmps130
  go_wp2_with fail
  go_loop [4, 9] (fun s i => ∃ k : Nat, k ≤ len ∧ i = .int .i64 (k : Int) ∧ s = .int .u32 (foldS (ids.take k)) ∧ (ids.take k).all idB = true) (fun _ i => len - (intOf i).toNat)
  case atStart => exact ⟨0, by omega, rfl, rfl, by simp⟩
  case round =>
    obtain ⟨k, hk, rfl, rfl, hall⟩ := hrel
    by_cases hlt : k < len
    · obtain ⟨x, hx⟩ : ∃ x, ids[k]? = some x := ⟨_, List.getElem?_eq_getElem (by have := HL.out; omega)⟩
      rcases HC.out with h0 | ⟨b, off, rfl, hcc⟩
      · omega
      have c0 := hcc k x hx
      have HX := Lib.hid hx
      have HALL := Lib.hid hall
      have hsn := foldS_snoc (ids.take k) x
      rw [← take_snoc hx] at hsn
      have HSN := Lib.hid hsn
      obtain ⟨b0, b1⟩ := foldS_bd (ids.take k)
      generalize foldS (ids.take k) = s at *
      have i1 : (0 : Int) ≤ (k : Int) := by omega
      have i2 : (k : Int) < (len : Int) := by omega
      clear hcc hx hall hsn
      go_wp2_with fail
      refine (isId_any _ _).mono ?_
      rintro e w' ⟨rfl, rfl⟩
      cases hid : idB x
      · have HR := Lib.hid (show ofF ids = (0, 1) by unfold ofF; rw [if_neg (by rw [all_take_false HX.out hid]; decide)])
        clear hid
        go_wp2_with fail
        go_ret2
        exact ⟨ret_u32i (by rw [HR.out]) (by rw [HR.out]), rfl⟩
      · have HID := Lib.hid hid
        clear hid
        go_wp2_with fail
        refine (with_any _ _ _ b0 b1).mono ?_
        rintro e w' ⟨rfl, rfl⟩
        go_wp2_with fail
        go_round
        case rel => exact ⟨k + 1, by omega, by go_num, by rw [HSN.out], by rw [all_take_succ HX.out HALL.out]; exact HID.out⟩
        case measure => simp [intOf]; omega
    · obtain rfl : k = len := by omega
      rw [List.take_of_length_le (by have := HL.out; omega)] at hall ⊢
      have HR := Lib.hid (show ofF ids = (foldS ids, 0) by unfold ofF; rw [if_pos hall])
      clear hall
      go_wp2_with fail
      go_ret2
      exact ⟨ret_u32i (by rw [HR.out]) (by rw [HR.out]), rfl⟩
end Go.Proofs.YtoadihebdaooaaaGreat
