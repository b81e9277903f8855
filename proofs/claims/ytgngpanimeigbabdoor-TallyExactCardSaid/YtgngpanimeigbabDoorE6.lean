/- Plain laws: the document's tally of marks is tally.Of's; numbers of a tally stay in range; equality of the document's tallies. -/
import Derived.Test.YtgngpanimeigbabDoorT12
import Derived.Test.YtgngpanimeigbabDoorE5
namespace Go.Proofs.YtgngpanimeigbabDoor
open Go.RowKit
set_option linter.unusedVariables false
theorem gt_bump (t : List Int) (k i : Nat) (h : k < t.length) : gt (bump t k) i = if i = k then wrap64 (gt t k + 1) else gt t i := by
  unfold bump; rw [gt_set _ _ _ _ h]
theorem rs1_at (t : List Int) (kq : Int) (i : Nat) (h : kq.toNat < t.length) : gt (rs1 t kq) i = if i = kq.toNat then wrap64 (gt t i + 1) else gt t i := by
  unfold rs1; rw [gt_bump _ _ _ h]
  split
  · rename_i e; rw [← e]
  · rfl
theorem rs2_at (t : List Int) (c : Int) (i : Nat) (h : t.length = 22) : gt (rs2 t c) i = if i = 12 ∧ c = 0 ∨ i = 13 ∧ c ≠ 0 then wrap64 (gt t i + 1) else gt t i := by
  unfold rs2
  by_cases hc : c = 0
  · rw [if_pos hc, gt_bump _ _ _ (by omega)]
    by_cases hi : i = 12
    · subst hi; simp [hc]
    · rw [if_neg hi, if_neg (by rintro (⟨h1, _⟩ | ⟨_, h2⟩); exact hi h1; exact h2 hc)]
  · rw [if_neg hc, gt_bump _ _ _ (by omega)]
    by_cases hi : i = 13
    · subst hi; simp [hc]
    · rw [if_neg hi, if_neg (by rintro (⟨_, h1⟩ | ⟨h2, _⟩); exact hc h1; exact hi h2)]
theorem rs3_at (t : List Int) (kq d f : Int) (s : Nat) (i : Nat) (h : t.length = 22) : gt (rs3 t kq d f s) i =
    if kq = 9 ∧ i = 14 then wrap64 (gt t 14 + d) else if kq = 9 ∧ i = 15 then wrap64 (gt t 15 + f) else if kq = 9 ∧ i = 16 then wrap64 (gt t 16 + s) else gt t i := by
  unfold rs3
  by_cases hk : kq = 9
  · rw [if_pos hk, gt_set _ _ _ _ (by simp; omega), gt_set _ _ _ _ (by simp; omega), gt_set _ _ _ _ (by omega)]
    repeat' split
    all_goals first | rfl | omega
  · rw [if_neg hk, if_neg (fun h => hk h.1), if_neg (fun h => hk h.1), if_neg (fun h => hk h.1)]
theorem rs4_at (t : List Int) (kq c : Int) (i : Nat) (h : t.length = 22) : gt (rs4 t kq c) i = if kq = 10 ∧ c = 0 ∧ i = 17 then wrap64 (gt t 17 + 1) else gt t i := by
  unfold rs4
  by_cases hk : kq = 10 ∧ c = 0
  · rw [if_pos hk, gt_bump _ _ _ (by omega)]
    by_cases hi : i = 17
    · rw [if_pos hi, if_pos ⟨hk.1, hk.2, hi⟩]
    · rw [if_neg hi, if_neg (fun h => hi h.2.2)]
  · rw [if_neg hk, if_neg (fun h => hk ⟨h.1, h.2.1⟩)]
theorem rs5_at (t : List Int) (kq c : Int) (i : Nat) (h : t.length = 22) : gt (rs5 t kq c) i = if kq = 10 ∧ c ≠ 0 ∧ i = 18 then wrap64 (gt t 18 + 1) else gt t i := by
  unfold rs5
  by_cases hk : kq = 10 ∧ c ≠ 0
  · rw [if_pos hk, gt_bump _ _ _ (by omega)]
    by_cases hi : i = 18
    · rw [if_pos hi, if_pos ⟨hk.1, hk.2, hi⟩]
    · rw [if_neg hi, if_neg (fun h => hi h.2.2)]
  · rw [if_neg hk, if_neg (fun h => hk ⟨h.1, h.2.1⟩)]
theorem rs6_at (t : List Int) (kq c : Int) (i : Nat) (h : t.length = 22) : gt (rs6 t kq c) i = if kq = 11 ∧ c = 0 ∧ i = 19 then wrap64 (gt t 19 + 1) else gt t i := by
  unfold rs6
  by_cases hk : kq = 11 ∧ c = 0
  · rw [if_pos hk, gt_bump _ _ _ (by omega)]
    by_cases hi : i = 19
    · rw [if_pos hi, if_pos ⟨hk.1, hk.2, hi⟩]
    · rw [if_neg hi, if_neg (fun h => hi h.2.2)]
  · rw [if_neg hk, if_neg (fun h => hk ⟨h.1, h.2.1⟩)]
theorem rs7_at (t : List Int) (r : Int) (i : Nat) (h : t.length = 22) : gt (rs7 t r) i = if gt t 20 < r ∧ i = 20 then r else gt t i := by
  unfold rs7
  by_cases hk : gt t 20 < r
  · rw [if_pos hk, gt_set _ _ _ _ (by omega)]
    by_cases hi : i = 20
    · rw [if_pos hi, if_pos ⟨hk, hi⟩]
    · rw [if_neg hi, if_neg (fun h => hi h.2)]
  · rw [if_neg hk, if_neg (fun h => hk h.1)]
theorem stepM_at (t : List Int) (m : Mk) (ht : t.length = 22) (i : Nat) (hi : i < 22) : gt (stepM t m) i = if i = 21 then m.ver else if i = 20 then max (gt t 20) (max 0 m.rows) else wrap64 (gt t i + gt (oneM m) i) := by
  unfold stepM
  rw [gt_set _ _ _ _ (by rw [joinF_len]; omega)]
  by_cases h21 : i = 21
  · rw [if_pos h21, if_pos h21]
  · rw [if_neg h21, if_neg h21, gt_joinF _ _ ht]
    by_cases h20 : i = 20
    · subst h20; simp [oneM_most]
    · rw [if_pos (by omega), if_neg h20]
theorem oneM_mid (m : Mk) (i : Nat) (hi : i = 14 ∨ i = 15 ∨ i = 16) : gt (oneM m) i = if m.k = 9 then (if i = 14 then m.done else if i = 15 then m.failed else (m.sn : Int)) else 0 := by
  unfold oneM oneF
  rw [gt_set _ _ _ _ (by simp [oneB_len]), gt_set _ _ _ _ (by simp [oneB_len]), if_neg (by omega), if_neg (by omega)]
  unfold oneB
  by_cases hk : m.k = 9
  · rw [if_pos hk, if_pos hk, gt_set _ _ _ _ (by simp [oneA_len]), gt_set _ _ _ _ (by simp [oneA_len]), gt_set _ _ _ _ (by simp [oneA_len])]
    rcases hi with rfl | rfl | rfl <;> simp
  · rw [if_neg hk, if_neg hk, oneA_at _ _ _ (by omega)]
    rcases hi with rfl | rfl | rfl <;> simp
theorem kindF_9 (k : Int) : kindF k = 9 ↔ k = 9 := by unfold kindF; split <;> omega
theorem rstep_eq (t : List Int) (m : Mk0) (ht : t.length = 22) (hI : ∀ i, i < 20 → I64 (gt t i)) (h20 : 0 ≤ gt t 20) : rstep t m = stepM t m.mk' := by
  have hkb := kindF_bd m.k
  refine ext22 (by rw [rstep_len, ht]) (by rw [stepM_len, ht]) (fun i hi => ?_)
  rw [stepM_at _ _ ht i hi]
  have hkt : (kindF m.k).toNat < t.length := by omega
  unfold rstep
  have l1 : (rs1 t (kindF m.k)).length = 22 := by simp [rs1, bump_len, ht]
  have l2 := (rs2_len (rs1 t (kindF m.k)) m.code).trans l1
  have l3 := (rs3_len _ (kindF m.k) m.done m.failed (stN m.st)).trans l2
  have l4 := (rs4_len _ (kindF m.k) m.code).trans l3
  have l5 := (rs5_len _ (kindF m.k) m.code).trans l4
  have l6 := (rs6_len _ (kindF m.k) m.code).trans l5
  have l7 := (rs7_len _ m.rows).trans l6
  have k9 := kindF_9 m.k
  have k10 := kindF_10 m.k
  have k11 := kindF_11 m.k
  have hw0 : ∀ j, j < 20 → wrap64 (gt t j + 0) = gt t j := fun j hj => by rw [Int.add_zero]; exact wrap64_id (hI j hj)
  have hw1 : ∀ j, j < 20 → wrap64 (gt t j) = gt t j := fun j hj => wrap64_id (hI j hj)
  rw [gt_set _ _ _ _ (by rw [l7]; omega)]
  by_cases h21 : i = 21
  · rw [if_pos h21, if_pos h21]; rfl
  rw [if_neg h21, if_neg h21]
  rw [rs7_at _ _ _ l6, rs6_at _ _ _ _ l5, rs6_at _ _ _ _ l5, rs5_at _ _ _ _ l4, rs5_at _ _ _ _ l4, rs4_at _ _ _ _ l3, rs4_at _ _ _ _ l3, rs3_at _ _ _ _ _ _ l2, rs3_at _ _ _ _ _ _ l2, rs2_at _ _ _ l1, rs2_at _ _ _ l1, rs1_at _ _ _ hkt, rs1_at _ _ _ hkt]
  simp only [rs5_at _ _ _ _ l4, rs4_at _ _ _ _ l3, rs3_at _ _ _ _ _ _ l2, rs2_at _ _ _ l1, rs1_at _ _ _ hkt]
  have e1 : m.mk'.rows = m.rows := rfl
  have e2 : m.mk'.k = m.k := rfl
  have e3 : m.mk'.code = m.code := rfl
  have e4 : m.mk'.done = m.done := rfl
  have e5 : m.mk'.failed = m.failed := rfl
  have e6 : m.mk'.sn = stN m.st := rfl
  rcases (by omega : i < 12 ∨ i = 12 ∨ i = 13 ∨ i = 14 ∨ i = 15 ∨ i = 16 ∨ i = 17 ∨ i = 18 ∨ i = 19 ∨ i = 20) with h | rfl | rfl | rfl | rfl | rfl | rfl | rfl | rfl | rfl
  · rw [oneM_at _ _ (by omega) (by omega) (by omega) (by omega), oneA_at _ _ _ (by omega), if_pos h, e2]
    have a12 : ¬ i = 12 := by omega
    have a13 : ¬ i = 13 := by omega
    have a14 : ¬ i = 14 := by omega
    have a15 : ¬ i = 15 := by omega
    have a16 : ¬ i = 16 := by omega
    have a17 : ¬ i = 17 := by omega
    have a18 : ¬ i = 18 := by omega
    have a19 : ¬ i = 19 := by omega
    have a20 : ¬ i = 20 := by omega
    by_cases hq : i = (kindF m.k).toNat
    · have hq' : (i : Int) = kindF m.k := by omega
      simp only [a12, a13, a14, a15, a16, a17, a18, a19, a20, and_false, false_and, or_false, if_false, if_pos hq, if_pos hq']
    · have hq' : ¬ (i : Int) = kindF m.k := by omega
      simp only [a12, a13, a14, a15, a16, a17, a18, a19, a20, and_false, false_and, or_false, if_false, if_neg hq, if_neg hq', hw0 i (by omega)]
  · rw [oneM_at _ _ (by omega) (by omega) (by omega) (by omega), oneA_at _ _ _ (by omega), e3]
    have hq : ¬ 12 = (kindF m.k).toNat := by omega
    by_cases hc : m.code = 0 <;> simp [hc, hq, hw1]
  · rw [oneM_at _ _ (by omega) (by omega) (by omega) (by omega), oneA_at _ _ _ (by omega), e3]
    have hq : ¬ 13 = (kindF m.k).toNat := by omega
    by_cases hc : m.code = 0 <;> simp [hc, hq, hw1]
  · rw [oneM_mid _ _ (by omega), e2, e4]
    have hq : ¬ 14 = (kindF m.k).toNat := by omega
    by_cases hc : m.k = 9
    · have hk := k9.2 hc
      rw [if_pos hc]
      simp [hk]
    · have hc' : ¬ kindF m.k = 9 := fun h => hc (k9.1 h)
      simp [hc, hc', hq, hw1]
  · rw [oneM_mid _ _ (by omega), e2, e5]
    have hq : ¬ 15 = (kindF m.k).toNat := by omega
    by_cases hc : m.k = 9
    · have hk := k9.2 hc
      rw [if_pos hc]
      simp [hk]
    · have hc' : ¬ kindF m.k = 9 := fun h => hc (k9.1 h)
      simp [hc, hc', hq, hw1]
  · rw [oneM_mid _ _ (by omega), e2, e6]
    have hq : ¬ 16 = (kindF m.k).toNat := by omega
    by_cases hc : m.k = 9
    · have hk := k9.2 hc
      rw [if_pos hc]
      simp [hk]
    · have hc' : ¬ kindF m.k = 9 := fun h => hc (k9.1 h)
      simp [hc, hc', hq, hw1]
  · rw [oneM_at _ _ (by omega) (by omega) (by omega) (by omega), oneA_at _ _ _ (by omega), e2, e3]
    simp only [show (m.k = 10) = (kindF m.k = 10) from propext k10.symm]
    have hq : ¬ 17 = (kindF m.k).toNat := by omega
    by_cases hk : kindF m.k = 10 <;> by_cases hc : m.code = 0 <;> simp [hc, hk, hq, hw1]
  · rw [oneM_at _ _ (by omega) (by omega) (by omega) (by omega), oneA_at _ _ _ (by omega), e2, e3]
    simp only [show (m.k = 10) = (kindF m.k = 10) from propext k10.symm]
    have hq : ¬ 18 = (kindF m.k).toNat := by omega
    by_cases hk : kindF m.k = 10 <;> by_cases hc : m.code = 0 <;> simp [hc, hk, hq, hw1]
  · rw [oneM_at _ _ (by omega) (by omega) (by omega) (by omega), oneA_at _ _ _ (by omega), e2, e3]
    simp only [show (m.k = 11) = (kindF m.k = 11) from propext k11.symm]
    have hq : ¬ 19 = (kindF m.k).toNat := by omega
    by_cases hk : kindF m.k = 11 <;> by_cases hc : m.code = 0 <;> simp [hc, hk, hq, hw1]
  · have hq : ¬ 20 = (kindF m.k).toNat := by omega
    simp [hq, e1]
    omega
theorem rofF_eq (l : List Mk0) : rofF l = ofF (l.map Mk0.mk') := by
  induction l using rev_ind with
  | h0 => rfl
  | hs l m ih =>
    rw [rofF_snoc, ih, List.map_append, List.map_cons, List.map_nil, ofF_snoc]
    refine rstep_eq _ m (ofF_len _) (fun i hi => ?_) ?_
    · rw [ofF_at, if_pos hi]; exact i64_wrap _
    · rw [ofF_at, if_neg (by omega), if_pos rfl]; exact mostAt_nn _
theorem i64_mem {t : List Int} (h : ∀ i, I64 (gt t i)) : ∀ v ∈ t, I64 v := by
  intro v hv
  obtain ⟨i, hi⟩ := List.getElem?_of_mem hv
  have := h i
  unfold gt at this
  rw [List.getD, hi] at this
  exact this
theorem i64_gt {t : List Int} (h : ∀ v ∈ t, I64 v) (i : Nat) : I64 (gt t i) := by
  unfold gt
  rw [List.getD]
  cases hi : t[i]? with
  | none => exact ⟨by simp, by simp⟩
  | some v => exact h v (List.mem_of_getElem? hi)
theorem joinF_i64 {a b : List Int} (ha : a.length = 22) (h1 : ∀ i, I64 (gt a i)) (h2 : ∀ i, I64 (gt b i)) (i : Nat) : I64 (gt (joinF a b) i) := by
  rw [gt_joinF _ _ ha]
  split
  · exact i64_wrap _
  · split
    · have := h1 20; have := h2 20; unfold I64 at *; omega
    · split
      · exact h2 21
      · exact h1 i
theorem Tryd.co36 : Tryd.prog.cellsOf 36 = 22 := by kernel_rfl
set_option maxRecDepth 100000 in
set_option maxHeartbeats 1000000 in
theorem rarr_eql (x : Nat → Int) (hx : ∀ i, I64 (x i)) (w : World) : Sem.run Tryd.prog (Op.equalIn 10000 36 (.agg #[.int .i64 (x 0), .int .i64 (x 1), .int .i64 (x 2), .int .i64 (x 3), .int .i64 (x 4), .int .i64 (x 5), .int .i64 (x 6), .int .i64 (x 7), .int .i64 (x 8), .int .i64 (x 9), .int .i64 (x 10), .int .i64 (x 11), .int .i64 (x 12), .int .i64 (x 13), .int .i64 (x 14), .int .i64 (x 15), .int .i64 (x 16), .int .i64 (x 17), .int .i64 (x 18), .int .i64 (x 19), .int .i64 (x 20), .int .i64 (x 21)]) (.agg #[.int .i64 (x 0), .int .i64 (x 1), .int .i64 (x 2), .int .i64 (x 3), .int .i64 (x 4), .int .i64 (x 5), .int .i64 (x 6), .int .i64 (x 7), .int .i64 (x 8), .int .i64 (x 9), .int .i64 (x 10), .int .i64 (x 11), .int .i64 (x 12), .int .i64 (x 13), .int .i64 (x 14), .int .i64 (x 15), .int .i64 (x 16), .int .i64 (x 17), .int .i64 (x 18), .int .i64 (x 19), .int .i64 (x 20), .int .i64 (x 21)])) w = .ok true w := by
  have hk : Tryd.prog.keyTypeAt 2 36 = true := by kernel_rfl
  have e : Tryd.prog.keyLits 2 36 [.int .i64 (x 0), .int .i64 (x 1), .int .i64 (x 2), .int .i64 (x 3), .int .i64 (x 4), .int .i64 (x 5), .int .i64 (x 6), .int .i64 (x 7), .int .i64 (x 8), .int .i64 (x 9), .int .i64 (x 10), .int .i64 (x 11), .int .i64 (x 12), .int .i64 (x 13), .int .i64 (x 14), .int .i64 (x 15), .int .i64 (x 16), .int .i64 (x 17), .int .i64 (x 18), .int .i64 (x 19), .int .i64 (x 20), .int .i64 (x 21)] = some [.int .i64 (x 0), .int .i64 (x 1), .int .i64 (x 2), .int .i64 (x 3), .int .i64 (x 4), .int .i64 (x 5), .int .i64 (x 6), .int .i64 (x 7), .int .i64 (x 8), .int .i64 (x 9), .int .i64 (x 10), .int .i64 (x 11), .int .i64 (x 12), .int .i64 (x 13), .int .i64 (x 14), .int .i64 (x 15), .int .i64 (x 16), .int .i64 (x 17), .int .i64 (x 18), .int .i64 (x 19), .int .i64 (x 20), .int .i64 (x 21)] := by
    have hr : List.range 22 = [0, 1, 2, 3, 4, 5, 6, 7, 8, 9, 10, 11, 12, 13, 14, 15, 16, 17, 18, 19, 20, 21] := rfl
    simp [Program.keyLits, Tryd.underlying36, Tryd.underlying3, Tryd.co3, Tryd.co36, hr, wf_i64 (hx 0), wf_i64 (hx 1), wf_i64 (hx 2), wf_i64 (hx 3), wf_i64 (hx 4), wf_i64 (hx 5), wf_i64 (hx 6), wf_i64 (hx 7), wf_i64 (hx 8), wf_i64 (hx 9), wf_i64 (hx 10), wf_i64 (hx 11), wf_i64 (hx 12), wf_i64 (hx 13), wf_i64 (hx 14), wf_i64 (hx 15), wf_i64 (hx 16), wf_i64 (hx 17), wf_i64 (hx 18), wf_i64 (hx 19), wf_i64 (hx 20), wf_i64 (hx 21)]
  have hf : (Value.agg #[.int .i64 (x 0), .int .i64 (x 1), .int .i64 (x 2), .int .i64 (x 3), .int .i64 (x 4), .int .i64 (x 5), .int .i64 (x 6), .int .i64 (x 7), .int .i64 (x 8), .int .i64 (x 9), .int .i64 (x 10), .int .i64 (x 11), .int .i64 (x 12), .int .i64 (x 13), .int .i64 (x 14), .int .i64 (x 15), .int .i64 (x 16), .int .i64 (x 17), .int .i64 (x 18), .int .i64 (x 19), .int .i64 (x 20), .int .i64 (x 21)]).formed Tryd.prog 36 = true := by simp [Value.formed, Tryd.underlying36, Tryd.co36]
  obtain ⟨r, h1, h2⟩ := run_equalIn_deep 9998 2 36 hk w 2 2 _ _ _ _ hf hf e e
  rw [h1, h2.2 rfl]
set_option maxRecDepth 100000 in
set_option maxHeartbeats 1000000 in
theorem reql_lit (x : Nat → Int) (hx : ∀ i, I64 (x i)) (a : Act) (y z : Operand) (d : Option Tmp) (ty : TypeId) (pos : String) (af : Array Edge) (gd : Option (Nat × Bool)) (w : World) (h1 : a.eval y = .agg #[.int .i64 (x 0), .int .i64 (x 1), .int .i64 (x 2), .int .i64 (x 3), .int .i64 (x 4), .int .i64 (x 5), .int .i64 (x 6), .int .i64 (x 7), .int .i64 (x 8), .int .i64 (x 9), .int .i64 (x 10), .int .i64 (x 11), .int .i64 (x 12), .int .i64 (x 13), .int .i64 (x 14), .int .i64 (x 15), .int .i64 (x 16), .int .i64 (x 17), .int .i64 (x 18), .int .i64 (x 19), .int .i64 (x 20), .int .i64 (x 21)]) (h2 : a.eval z = .agg #[.int .i64 (x 0), .int .i64 (x 1), .int .i64 (x 2), .int .i64 (x 3), .int .i64 (x 4), .int .i64 (x 5), .int .i64 (x 6), .int .i64 (x 7), .int .i64 (x 8), .int .i64 (x 9), .int .i64 (x 10), .int .i64 (x 11), .int .i64 (x 12), .int .i64 (x 13), .int .i64 (x 14), .int .i64 (x 15), .int .i64 (x 16), .int .i64 (x 17), .int .i64 (x 18), .int .i64 (x 19), .int .i64 (x 20), .int .i64 (x 21)]) :
    (execOp a.eval { dst := d, op := .binOp .eql 36 y z 36, type := ty, pos := pos, after := af, guard := gd }).run Tryd.prog w = .ok (.value (.bool true)) w := by
  have hr := rarr_eql x hx
  unfold execOp
  simp only [h1, h2]
  go_simp
theorem ragg_eql (t : List Int) (h : t.length = 22) (hx : ∀ i, I64 (gt t i)) (a : Act) (y z : Operand) (d : Option Tmp) (ty : TypeId) (pos : String) (af : Array Edge) (gd : Option (Nat × Bool)) (w : World) (h1 : a.eval y = .agg (tv t)) (h2 : a.eval z = .agg (tv t)) :
    (execOp a.eval { dst := d, op := .binOp .eql 36 y z 36, type := ty, pos := pos, after := af, guard := gd }).run Tryd.prog w = .ok (.value (.bool true)) w := by
  rw [tv_lit t h] at h1 h2
  exact reql_lit (gt t) hx a y z d ty pos af gd w h1 h2
end Go.Proofs.YtgngpanimeigbabDoor
