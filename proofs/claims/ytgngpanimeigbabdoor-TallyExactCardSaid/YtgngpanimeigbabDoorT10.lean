/- Plain laws of tallies. -/
import Derived.Test.YtgngpanimeigbabDoorT3
namespace Go.Proofs.YtgngpanimeigbabDoor
open Go.RowKit
set_option linter.unusedVariables false

theorem gt_set (t : List Int) (i j : Nat) (x : Int) (hi : i < t.length) : gt (t.set i x) j = if j = i then x else gt t j := by
  unfold gt
  simp only [List.getD]
  rw [List.getElem?_set]
  by_cases h : i = j
  · subst h; simp [hi]
  · rw [if_neg h, if_neg (fun e => h e.symm)]
theorem gt_addK (a b : List Int) (ha : a.length = 22) : ∀ k, k ≤ 22 → ∀ i, gt (addK a b k) i = if i < k then wrap64 (gt a i + gt b i) else gt a i
  | 0, _, i => by simp [addK]
  | k + 1, hk, i => by
    unfold addK
    rw [gt_set _ _ _ _ (by rw [addK_len]; omega), gt_addK a b ha k (by omega) k, gt_addK a b ha k (by omega) i]
    by_cases h : i = k
    · subst h; rw [if_pos rfl, if_neg (by omega), if_pos (by omega)]
    · rw [if_neg h]
      by_cases h2 : i < k
      · rw [if_pos h2, if_pos (by omega)]
      · rw [if_neg h2, if_neg (by omega)]
theorem gt_joinF (a b : List Int) (ha : a.length = 22) (i : Nat) : gt (joinF a b) i = if i < 20 then wrap64 (gt a i + gt b i) else if i = 20 then max (gt a 20) (gt b 20) else if i = 21 ∧ gt b 21 ≠ 0 then gt b 21 else gt a i := by
  have hA : ∀ i, gt (joinA a b) i = if i < 20 then wrap64 (gt a i + gt b i) else if i = 20 then max (gt a 20) (gt b 20) else gt a i := by
    intro i
    unfold joinA
    rw [gt_set _ _ _ _ (by rw [addK_len]; omega), gt_addK a b ha 20 (by omega) i, gt_addK a b ha 20 (by omega) 20]
    by_cases h : i = 20
    · subst h; simp
    · rw [if_neg h]
      by_cases h2 : i < 20
      · rw [if_pos h2, if_pos h2]
      · rw [if_neg h2, if_neg h2, if_neg h]
  unfold joinF
  by_cases hb : gt b 21 ≠ 0
  · rw [if_pos hb, gt_set _ _ _ _ (by rw [joinA_len]; omega), hA i]
    by_cases h : i = 21
    · subst h; simp [hb]
    · simp [h]
  · rw [if_neg hb, hA i]
    simp [hb]
theorem ext22 {a b : List Int} (ha : a.length = 22) (hb : b.length = 22) (h : ∀ i, i < 22 → gt a i = gt b i) : a = b := by
  apply List.ext_getElem?
  intro i
  by_cases hi : i < 22
  · rw [getD_some (by omega), getD_some (by omega), h i hi]
  · rw [List.getElem?_eq_none (by omega), List.getElem?_eq_none (by omega)]
theorem w64_add (x y : Int) : wrap64 (wrap64 x + y) = wrap64 (x + y) := by unfold wrap64; omega
theorem w64_add2 (x y : Int) : wrap64 (wrap64 x + wrap64 y) = wrap64 (x + y) := by unfold wrap64; omega
/-- The exact sum at a place. -/
def sumAt (i : Nat) : List Mk → Int
  | [] => 0
  | m :: r => gt (oneM m) i + sumAt i r
theorem sumAt_app (i : Nat) : ∀ a b : List Mk, sumAt i (a ++ b) = sumAt i a + sumAt i b
  | [], b => by simp [sumAt]
  | m :: r, b => by simp [sumAt, sumAt_app i r b]; omega
def mostAt : List Mk → Int
  | [] => 0
  | m :: r => max (max 0 m.rows) (mostAt r)
theorem mostAt_nn : ∀ l, 0 ≤ mostAt l
  | [] => by simp [mostAt]
  | m :: r => by simp only [mostAt]; omega
theorem mostAt_app : ∀ a b : List Mk, mostAt (a ++ b) = max (mostAt a) (mostAt b)
  | [], b => by simp only [List.nil_append, mostAt]; have := mostAt_nn b; omega
  | m :: r, b => by simp only [List.cons_append, mostAt, mostAt_app r b]; omega
theorem oneM_len (m : Mk) : (oneM m).length = 22 := by unfold oneM; rw [oneF_len]
theorem oneM_most (m : Mk) : gt (oneM m) 20 = max 0 m.rows := by
  unfold oneM oneF
  rw [gt_set _ _ _ _ (by simp [oneB_len]), gt_set _ _ _ _ (by simp [oneB_len])]
  simp
theorem zeros_gt (i : Nat) : gt zeros i = 0 := by
  by_cases hi : i < 22
  · rcases (by omega : i = 0 ∨ i = 1 ∨ i = 2 ∨ i = 3 ∨ i = 4 ∨ i = 5 ∨ i = 6 ∨ i = 7 ∨ i = 8 ∨ i = 9 ∨ i = 10 ∨ i = 11 ∨ i = 12 ∨ i = 13 ∨ i = 14 ∨ i = 15 ∨ i = 16 ∨ i = 17 ∨ i = 18 ∨ i = 19 ∨ i = 20 ∨ i = 21) with rfl | rfl | rfl | rfl | rfl | rfl | rfl | rfl | rfl | rfl | rfl | rfl | rfl | rfl | rfl | rfl | rfl | rfl | rfl | rfl | rfl | rfl <;> rfl
  · unfold gt; rw [List.getD, List.getElem?_eq_none (by simp [zeros]; omega)]; rfl
theorem rev_ind {α : Type} {p : List α → Prop} (h0 : p []) (hs : ∀ l x, p l → p (l ++ [x])) (l : List α) : p l := by
  rw [← List.reverse_reverse l]
  induction l.reverse with
  | nil => exact h0
  | cons x r ih => rw [List.reverse_cons]; exact hs _ _ ih
/-- A tally, place by place. -/
theorem ofF_at (l : List Mk) : ∀ i, gt (ofF l) i = if i < 20 then wrap64 (sumAt i l) else if i = 20 then mostAt l else if i = 21 then (match l.getLast? with | some m => m.ver | none => 0) else 0 := by
  refine rev_ind (p := fun l => ∀ i, gt (ofF l) i = if i < 20 then wrap64 (sumAt i l) else if i = 20 then mostAt l else if i = 21 then (match l.getLast? with | some m => m.ver | none => 0) else 0) ?_ ?_ l
  · intro i
    rw [show ofF [] = zeros from rfl, zeros_gt]
    have : wrap64 0 = 0 := wrap64_id ⟨by omega, by omega⟩
    simp [sumAt, mostAt, this]
  · intro l m ih i
    rw [ofF_snoc, stepM, gt_set _ _ _ _ (by rw [joinF_len, ofF_len]; omega), gt_joinF _ _ (ofF_len l), sumAt_app, mostAt_app]
    by_cases h21 : i = 21
    · subst h21; simp
    · rw [if_neg h21]
      by_cases h20 : i < 20
      · rw [if_pos h20, if_pos h20, ih i, if_pos h20, w64_add]
        simp [sumAt]
      · rw [if_neg h20, if_neg h20]
        by_cases h : i = 20
        · rw [if_pos h, if_pos h, ih 20, oneM_most]
          simp only [mostAt, if_neg (by omega : ¬ (20 : Nat) < 20), if_true]
          have := mostAt_nn l
          omega
        · rw [if_neg h, if_neg h, if_neg (by simp [h21]), if_neg h21, ih i, if_neg h20, if_neg h, if_neg h21]
/-- Two parts joined are the whole. -/
theorem join_parts (a b : List Mk) (m : Mk) (hb : b.getLast? = some m) (hv : m.ver ≠ 0) : joinF (ofF a) (ofF b) = ofF (a ++ b) := by
  refine ext22 (by rw [joinF_len, ofF_len]) (ofF_len _) (fun i hi => ?_)
  have h21 : gt (ofF b) 21 = m.ver := by rw [ofF_at b 21]; simp [hb]
  rw [gt_joinF _ _ (ofF_len a), ofF_at (a ++ b) i, ofF_at a i, ofF_at b i, ofF_at a 20, ofF_at b 20, h21, sumAt_app, mostAt_app]
  by_cases h20 : i < 20
  · rw [if_pos h20, if_pos h20, if_pos h20, if_pos h20, w64_add2]
  · rw [if_neg h20, if_neg h20]
    by_cases h : i = 20
    · rw [if_pos h, if_pos h]; simp [h]
    · have : i = 21 := by omega
      subst this
      have hl : (a ++ b).getLast? = some m := by rw [List.getLast?_append, hb]; rfl
      rw [hl]
      simp [hv]
/-- What one op counts, place by place. -/
theorem oneA_at (k code : Int) (i : Nat) (hi : i < 20) : gt (oneA k code) i =
    if i < 12 then (if (i : Int) = kindF k then 1 else 0) else if i = 12 then (if code = 0 then 1 else 0) else if i = 13 then (if code = 0 then 0 else 1)
    else if i = 17 then (if k = 10 ∧ code = 0 then 1 else 0) else if i = 18 then (if k = 10 ∧ code ≠ 0 then 1 else 0) else if i = 19 then (if k = 11 ∧ code = 0 then 1 else 0) else 0 := by
  have hkb := kindF_bd k
  have h1 : wrap64 (0 + 1) = 1 := wrap64_id ⟨by omega, by omega⟩
  have base : ∀ j, gt ((zeros.set (kindF k).toNat 1).set (if code = 0 then 12 else 13) 1) j = if j = (if code = 0 then 12 else 13) then 1 else if j = (kindF k).toNat then 1 else 0 := by
    intro j
    rw [gt_set _ _ _ _ (by simp [zeros]; split <;> omega), gt_set _ _ _ _ (by simp [zeros]; omega), zeros_gt]
  have hlen : ((zeros.set (kindF k).toNat 1).set (if code = 0 then 12 else 13) 1).length = 22 := by simp [zeros]
  unfold oneA upF bump
  generalize (zeros.set (kindF k).toNat 1).set (if code = 0 then 12 else 13) 1 = T at base hlen ⊢
  have hk : kindF k < 12 := by omega
  have b17 : gt T 17 = 0 := by rw [base, if_neg (by split <;> omega), if_neg (by omega)]
  have b18 : gt T 18 = 0 := by rw [base, if_neg (by split <;> omega), if_neg (by omega)]
  have b19 : gt T 19 = 0 := by rw [base, if_neg (by split <;> omega), if_neg (by omega)]
  rw [b17, b18, b19, h1]
  have hi22 : i < 22 := by omega
  have e : gt (if k = 10 then if (code == 0) = true then T.set 17 1 else T.set 18 1 else if k = 11 ∧ (code == 0) = true then T.set 19 1 else T) i =
      if k = 10 ∧ code = 0 ∧ i = 17 then 1 else if k = 10 ∧ code ≠ 0 ∧ i = 18 then 1 else if k = 11 ∧ code = 0 ∧ i = 19 then 1 else gt T i := by
    by_cases hc : code = 0 <;> by_cases h10 : k = 10 <;> by_cases h11 : k = 11
    · omega
    · simp [hc, h10]; rw [gt_set _ _ _ _ (by omega)]
    · simp [hc, h11]; rw [gt_set _ _ _ _ (by omega)]
    · simp [hc, h10, h11]
    · omega
    · simp [hc, h10]; rw [gt_set _ _ _ _ (by omega)]
    · simp [hc, h11]
    · simp [hc, h10, h11]
  rw [e, base]
  clear e base b17 b18 b19 h1 hlen
  have hk0 := hkb.1
  generalize kindF k = q at *
  repeat' split
  all_goals omega
theorem oneM_at (m : Mk) (i : Nat) (hi : i < 20) (h1 : i ≠ 14) (h2 : i ≠ 15) (h3 : i ≠ 16) : gt (oneM m) i = gt (oneA m.k m.code) i := by
  unfold oneM oneF
  rw [gt_set _ _ _ _ (by simp [oneB_len]), gt_set _ _ _ _ (by simp [oneB_len]), if_neg (by omega), if_neg (by omega)]
  unfold oneB
  split
  · rw [gt_set _ _ _ _ (by simp [oneA_len]), gt_set _ _ _ _ (by simp [oneA_len]), gt_set _ _ _ _ (by simp [oneA_len]), if_neg h3, if_neg h2, if_neg h1]
  · rfl
/-- The counts of the kinds add up to one. -/
theorem kinds_one (m : Mk) : gt (oneM m) 0 + gt (oneM m) 1 + gt (oneM m) 2 + gt (oneM m) 3 + gt (oneM m) 4 + gt (oneM m) 5 + gt (oneM m) 6 + gt (oneM m) 7 + gt (oneM m) 8 + gt (oneM m) 9 + gt (oneM m) 10 + gt (oneM m) 11 = 1 := by
  have hk := kindF_bd m.k
  have e : ∀ i, i < 12 → gt (oneM m) i = if (i : Int) = kindF m.k then 1 else 0 := fun i hi => by
    rw [oneM_at m i (by omega) (by omega) (by omega) (by omega), oneA_at _ _ _ (by omega), if_pos hi]
  rw [e 0 (by omega), e 1 (by omega), e 2 (by omega), e 3 (by omega), e 4 (by omega), e 5 (by omega), e 6 (by omega), e 7 (by omega), e 8 (by omega), e 9 (by omega), e 10 (by omega), e 11 (by omega)]
  generalize kindF m.k = q at *
  rcases (by omega : q = 0 ∨ q = 1 ∨ q = 2 ∨ q = 3 ∨ q = 4 ∨ q = 5 ∨ q = 6 ∨ q = 7 ∨ q = 8 ∨ q = 9 ∨ q = 10 ∨ q = 11) with rfl | rfl | rfl | rfl | rfl | rfl | rfl | rfl | rfl | rfl | rfl | rfl <;> decide
theorem kindF_10 (k : Int) : kindF k = 10 ↔ k = 10 := by unfold kindF; split <;> omega
theorem kindF_11 (k : Int) : kindF k = 11 ↔ k = 11 := by unfold kindF; split <;> omega
theorem one_facts (m : Mk) : gt (oneM m) 12 + gt (oneM m) 13 = 1 ∧ gt (oneM m) 17 + gt (oneM m) 18 = gt (oneM m) 10 ∧ gt (oneM m) 19 ≤ gt (oneM m) 11 ∧ ∀ i, i < 20 → i ≠ 14 → i ≠ 15 → i ≠ 16 → 0 ≤ gt (oneM m) i ∧ gt (oneM m) i ≤ 1 := by
  have h10 := kindF_10 m.k
  have h11 := kindF_11 m.k
  refine ⟨?_, ?_, ?_, fun i hi h1 h2 h3 => ?_⟩
  · rw [oneM_at m 12 (by omega) (by omega) (by omega) (by omega), oneM_at m 13 (by omega) (by omega) (by omega) (by omega), oneA_at _ _ _ (by omega), oneA_at _ _ _ (by omega)]
    simp only [show ¬ (12 : Nat) < 12 by omega, show ¬ (13 : Nat) < 12 by omega, show ¬ (13 : Nat) = 12 by omega, if_false, if_true]
    split <;> omega
  · rw [oneM_at m 17 (by omega) (by omega) (by omega) (by omega), oneM_at m 18 (by omega) (by omega) (by omega) (by omega), oneM_at m 10 (by omega) (by omega) (by omega) (by omega), oneA_at _ _ _ (by omega), oneA_at _ _ _ (by omega), oneA_at _ _ _ (by omega)]
    simp only [show ¬ (17 : Nat) < 12 by omega, show ¬ (18 : Nat) < 12 by omega, show (10 : Nat) < 12 by omega, show ¬ (17 : Nat) = 12 by omega, show ¬ (17 : Nat) = 13 by omega, show ¬ (18 : Nat) = 12 by omega, show ¬ (18 : Nat) = 13 by omega, show ¬ (18 : Nat) = 17 by omega, if_false, if_true]
    repeat' split
    all_goals omega
  · rw [oneM_at m 19 (by omega) (by omega) (by omega) (by omega), oneM_at m 11 (by omega) (by omega) (by omega) (by omega), oneA_at _ _ _ (by omega), oneA_at _ _ _ (by omega)]
    simp only [show ¬ (19 : Nat) < 12 by omega, show (11 : Nat) < 12 by omega, show ¬ (19 : Nat) = 12 by omega, show ¬ (19 : Nat) = 13 by omega, show ¬ (19 : Nat) = 17 by omega, show ¬ (19 : Nat) = 18 by omega, if_false, if_true]
    repeat' split
    all_goals omega
  · rw [oneM_at m i hi h1 h2 h3, oneA_at _ _ _ hi]
    repeat' split
    all_goals omega
theorem sumAt_bd (l : List Mk) (i : Nat) (hi : i < 20) (h1 : i ≠ 14) (h2 : i ≠ 15) (h3 : i ≠ 16) : 0 ≤ sumAt i l ∧ sumAt i l ≤ l.length := by
  induction l with
  | nil => simp [sumAt]
  | cons m r ih =>
    have := (one_facts m).2.2.2 i hi h1 h2 h3
    simp only [sumAt, List.length_cons]
    omega
def psum (l : List Mk) : Nat → Int
  | 0 => 0
  | k + 1 => psum l k + sumAt k l
theorem psum_bd (l : List Mk) : ∀ k, k ≤ 12 → 0 ≤ psum l k ∧ psum l k ≤ 12 * (l.length : Int) := by
  have : ∀ k, k ≤ 12 → 0 ≤ psum l k ∧ psum l k ≤ k * (l.length : Int) := by
    intro k
    induction k with
    | zero => intro _; simp [psum]
    | succ k ih =>
      intro hk
      have h1 := ih (by omega)
      have h2 := sumAt_bd l k (by omega) (by omega) (by omega) (by omega)
      have e : ((k + 1 : Nat) : Int) * (l.length : Int) = k * (l.length : Int) + l.length := by rw [Int.natCast_add, Int.add_mul]; simp
      simp only [psum]
      rw [e]
      omega
  intro k hk
  have h1 := this k hk
  have h2 : (k : Int) * (l.length : Int) ≤ 12 * (l.length : Int) := Int.mul_le_mul_of_nonneg_right (by omega) (by omega)
  omega
theorem psum_12 (l : List Mk) : psum l 12 = l.length := by
  have : psum l 12 = sumAt 0 l + sumAt 1 l + sumAt 2 l + sumAt 3 l + sumAt 4 l + sumAt 5 l + sumAt 6 l + sumAt 7 l + sumAt 8 l + sumAt 9 l + sumAt 10 l + sumAt 11 l := by simp [psum]
  rw [this]
  induction l with
  | nil => simp [sumAt]
  | cons m r ih =>
    have := kinds_one m
    have := ih (by simp [psum])
    simp only [sumAt, List.length_cons]
    omega
theorem sums_law (l : List Mk) : sumAt 12 l + sumAt 13 l = l.length ∧ sumAt 17 l + sumAt 18 l = sumAt 10 l ∧ sumAt 19 l ≤ sumAt 11 l := by
  induction l with
  | nil => simp [sumAt]
  | cons m r ih =>
    obtain ⟨h1, h2, h3, _⟩ := one_facts m
    obtain ⟨g1, g2, g3⟩ := ih
    simp only [sumAt, List.length_cons]
    refine ⟨?_, ?_, ?_⟩ <;> omega
/-- The whole tally of at most 100 records: each count is the exact sum. -/
theorem ofF_sum (l : List Mk) (hn : l.length ≤ 1000) (i : Nat) (hi : i < 20) (h1 : i ≠ 14) (h2 : i ≠ 15) (h3 : i ≠ 16) : gt (ofF l) i = sumAt i l := by
  rw [ofF_at, if_pos hi]
  have := sumAt_bd l i hi h1 h2 h3
  exact wrap64_id ⟨by omega, by omega⟩
end Go.Proofs.YtgngpanimeigbabDoor
