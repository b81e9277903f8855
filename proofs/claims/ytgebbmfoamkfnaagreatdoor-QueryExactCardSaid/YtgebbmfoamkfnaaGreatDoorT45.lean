/- retrofitref20.Parse: a query's text, the way back by the document. · Plain: the program's way back of a set's text, and of a query's, is the way back. -/
import Derived.Test.YtgebbmfoamkfnaaGreatDoorT44
import Derived.Test.YtgebbmfoamkfnaaGreatDoorT32
import Derived.Lib.SplitLaws
namespace Go.Proofs.YtgebbmfoamkfnaaGreatDoor
open Go.RowKit
set_option linter.unusedVariables false
def two20 : Option Int → Option Int → Option (Int × Int)
  | some x, some y => some (x, y)
  | _, _ => none
def back20 (l : List UInt8) : Option (Int × Int) := if (Lib.cut l sepQ).2.2 = true then two20 (back10 (Lib.cut l sepQ).1) (back10 (Lib.cut l sepQ).2.1) else none
theorem occ_take {l : List UInt8} {j : Nat} : Lib.occAt l sepQ j = ((l.drop j).take 5 == sepQ) := by
  unfold Lib.occAt
  apply Bool.eq_iff_iff.2
  rw [List.isPrefixOf_iff_prefix, beq_iff_eq]
  constructor
  · rintro ⟨t, ht⟩
    rw [← ht]
    rfl
  · intro h
    rw [← h]
    exact List.take_prefix _ _
theorem occ_split {l : List UInt8} {j : Nat} (h : Lib.occAt l sepQ j = true) : l = l.take j ++ (sepQ ++ l.drop (j + 5)) := by
  rw [occ_take, beq_iff_eq] at h
  rw [← h, ← List.drop_drop, List.take_append_drop, List.take_append_drop]
theorem cut_hit {l : List UInt8} {j : Nat} (hj : j ≤ l.length) (h : Lib.occAt l sepQ j = true) (hn : ∀ i, i < j → Lib.occAt l sepQ i = false) : Lib.cut l sepQ = (l.take j, l.drop (j + 5), true) := by
  have hi := Lib.index_first hj h hn
  unfold Lib.cut
  rw [hi, if_pos (by omega), Int.toNat_natCast]
  rfl
theorem cut_miss {l : List UInt8} (hn : ∀ i, i ≤ l.length → Lib.occAt l sepQ i = false) : Lib.cut l sepQ = (l, [], false) := by
  have hi := Lib.index_none hn
  unfold Lib.cut
  rw [hi, if_neg (by omega)]
theorem occ_short {l : List UInt8} {j : Nat} (h : l.length < j + 5) : Lib.occAt l sepQ j = false := by
  rw [occ_take]
  apply beq_false_of_ne
  intro e
  have := congrArg List.length e
  rw [List.length_take, List.length_drop] at this
  have h5 : sepQ.length = 5 := rfl
  omega
/-- The document's way back is the way back. -/
theorem back20_is (l : List UInt8) : CanonQ l (back20 l) := by
  constructor
  · intro a b ha hb he
    subst he
    unfold back20
    rw [cut_textQ, if_pos rfl]
    have h1 := (back10_is (textS a)).one (CanonS.of ha rfl)
    have h2 := (back10_is (textS b)).one (CanonS.of hb rfl)
    show two20 (back10 (textS a)) (back10 (textS b)) = _
    rw [h1, h2]
    rfl
  · intro hn
    unfold back20
    split
    · rename_i hc
      rcases Lib.index_spec l sepQ with ⟨hi, _⟩ | ⟨j, hi, hj, ho, hno⟩
      · unfold Lib.cut at hc
        rw [hi] at hc
        simp at hc
      · have hcut := cut_hit hj ho hno
        rw [hcut]
        show two20 (back10 (l.take j)) (back10 (l.drop (j + 5))) = none
        cases h1 : back10 (l.take j) with
        | none => rfl
        | some x =>
          cases h2 : back10 (l.drop (j + 5)) with
          | none => rfl
          | some y =>
            have k1 := back10_is (l.take j)
            rw [h1] at k1
            have k2 := back10_is (l.drop (j + 5))
            rw [h2] at k2
            obtain ⟨x1, x2⟩ := k1.text
            obtain ⟨y1, y2⟩ := k2.text
            refine absurd ?_ (hn x y x1 y1)
            unfold textQ
            rw [x2, y2]
            exact (occ_split ho).symm
    · rfl
theorem ext_list (s : ByteArray) (a b : Nat) : (s.extract a b).data.toList = (s.data.toList.take b).drop a := by
  rw [ByteArray.data_extract, Array.toList_extract, List.extract_eq_take_drop, List.take_drop]
  by_cases h : a ≤ b
  · rw [show a + (b - a) = b by omega]
  · rw [show a + (b - a) = a by omega]
    rw [List.drop_eq_nil_of_le (by rw [List.length_take]; omega), List.drop_eq_nil_of_le (by rw [List.length_take]; omega)]
set_option maxRecDepth 100000 in
set_option maxHeartbeats 4000000 in
theorem parse20_any (s : ByteArray) (hs : s.size ≤ 1000) (w : World) : Calls Tryz.prog 9 #[.string s] w fun e w' => e = .returned (.tuple #[.int .u32 ((back20 s.data.toList).getD (0, 0)).1, .int .u32 ((back20 s.data.toList).getD (0, 0)).2, .bool (back20 s.data.toList).isSome]) ∧ Below w.heap.size w w' := by
  have hll : s.data.toList.length = s.size := by simp
  have HLL := Lib.hid hll
  obtain ⟨B, hB⟩ : ∃ B, back20 s.data.toList = B := ⟨_, rfl⟩
  rw [hB]
  have HBK := Lib.hid hB
  clear hll hB
  go_enter Tryz.func9, Tryz.ntmps9
  go_wp2_with fail
  go_loopw [5] (fun i wr => ∃ (j : Nat), i = .int .i64 (j : Int) ∧ j ≤ s.size ∧ (∀ t, t < j → Lib.occAt s.data.toList sepQ t = false) ∧ wr = w) (fun i _ => s.size + 1 - (intOf i).toNat)
  case atStart => exact ⟨0, rfl, Nat.zero_le _, fun t ht => absurd ht (Nat.not_lt_zero t), rfl⟩
  case round =>
    obtain ⟨j, rfl, hjs, hno, rfl⟩ := hrel
    have HNO := Lib.hid hno
    clear hno
    by_cases hj : j + 5 ≤ s.size
    · have hjI : (j : Int) + 5 ≤ (s.size : Int) := by omega
      have htk : (s.extract j (j + 5)).toList = (s.data.toList.drop j).take 5 := by
        rw [ByteArray.toList_eq, ext_list, List.drop_take, show j + 5 - j = 5 by omega]
      by_cases hoc : Lib.occAt s.data.toList sepQ j = true
      · have e0 : ((s.extract j (j + 5)).toList == [32, 110, 111, 116, 32]) = true := by
          rw [occ_take] at hoc
          rw [htk]; exact hoc
        have hcut := cut_hit (by rw [HLL.out]; omega) hoc HNO.out
        have HB2 : Hid (B = two20 (back10 (s.extract 0 j).data.toList) (back10 (s.extract (j + 5) s.size).data.toList)) := Lib.hid (by
          rw [← HBK.out, ext_list, ext_list]
          unfold back20
          rw [hcut, if_pos rfl]
          show two20 (back10 (s.data.toList.take j)) (back10 (s.data.toList.drop (j + 5))) = _
          rw [List.drop_zero, List.take_of_length_le (i := s.size) (by rw [HLL.out]; exact Nat.le_refl _)])
        have hz1 : (s.extract 0 j).size ≤ 1000 := by rw [ByteArray.size_extract]; omega
        have hz2 : (s.extract (j + 5) s.size).size ≤ 1000 := by rw [ByteArray.size_extract]; omega
        have hp1 := fun W => parse10_any (s.extract 0 j) hz1 W
        have hp2 := fun W => parse10_any (s.extract (j + 5) s.size) hz2 W
        obtain ⟨x, hx⟩ : ∃ x, back10 (s.extract 0 j).data.toList = x := ⟨_, rfl⟩
        obtain ⟨y, hy⟩ : ∃ y, back10 (s.extract (j + 5) s.size).data.toList = y := ⟨_, rfl⟩
        simp only [hx] at hp1
        simp only [hy] at hp2
        rw [hx, hy] at HB2
        have HP1 := Lib.hid hp1
        have HP2 := Lib.hid hp2
        clear hoc htk hcut hx hy hp1 hp2 hz1 hz2
        go_wp2_with fail
        refine (HP1.out _).mono ?_
        rintro e w5 ⟨rfl, hb5⟩
        have HB5 := Lib.hid hb5
        clear hb5
        go_wp2_with fail
        refine (HP2.out _).mono ?_
        rintro e w6 ⟨rfl, hb6⟩
        have HB6 := Lib.hid (HB5.out.trans (hb6.mono HB5.out.size))
        clear hb6
        cases x with
        | none =>
          have HBN : Hid (B = none) := Lib.hid (by rw [HB2.out]; rfl)
          clear HB2 HP1 HP2
          go_wp2_with fail
          go_returns
          exact ⟨by rw [HBN.out]; rfl, HB6.out⟩
        | some x =>
          cases y with
          | none =>
            have HBN : Hid (B = none) := Lib.hid (by rw [HB2.out]; rfl)
            clear HB2 HP1 HP2
            go_wp2_with fail
            go_returns
            exact ⟨by rw [HBN.out]; rfl, HB6.out⟩
          | some y =>
            have HBN : Hid (B = some (x, y)) := Lib.hid (by rw [HB2.out]; rfl)
            clear HB2 HP1 HP2
            go_wp2_with fail
            go_returns
            exact ⟨by rw [HBN.out]; rfl, HB6.out⟩
      · have e0 : ((s.extract j (j + 5)).toList == [32, 110, 111, 116, 32]) = false := by
          rw [occ_take] at hoc
          rw [htk]
          have h9 : ((s.data.toList.drop j).take 5 == sepQ) = false := by simpa using hoc
          exact h9
        have HN2 : Hid (∀ t, t < j + 1 → Lib.occAt s.data.toList sepQ t = false) := Lib.hid (fun t ht => by
          rcases (by omega : t < j ∨ t = j) with h | h
          · exact HNO.out t h
          · rw [h]; simpa using hoc)
        clear hoc htk
        go_wp2_with fail
        go_roundw
        case rel => exact ⟨j + 1, by go_num, by omega, HN2.out, by trivial⟩
        case measure => simp [intOf]; omega
    · have hjI : ¬ (j : Int) + 5 ≤ (s.size : Int) := by omega
      have HBN : Hid (B = none) := Lib.hid (by
        rw [← HBK.out]
        unfold back20
        rw [cut_miss (fun i hi => by
          rcases (by omega : i < j ∨ j ≤ i) with h | h
          · exact HNO.out i h
          · exact occ_short (by rw [HLL.out]; omega))]
        rfl)
      go_wp2_with fail
      go_returns
      exact ⟨by rw [HBN.out]; rfl, Below.refl _ _⟩
end Go.Proofs.YtgebbmfoamkfnaaGreatDoor
namespace Go.Proofs.YtgebbmfoamkfnaaGreatDoor
open Go.RowKit
open Go.Lib (decDigits join)
set_option linter.unusedVariables false
theorem occ1 {l : List UInt8} {c : UInt8} {i : Nat} : Lib.occAt l [c] i = (l[i]? == some c) := by
  unfold Lib.occAt
  have h : l[i]? = (l.drop i)[0]? := by rw [List.getElem?_drop, Nat.add_zero]
  rw [h]
  cases l.drop i with
  | nil => rfl
  | cons x r =>
    apply Bool.eq_iff_iff.2
    simp
    exact eq_comm
theorem index_sep {p r : List UInt8} (h : (43 : UInt8) ∉ p) : Lib.index (p ++ 43 :: r) [43] = (p.length : Int) := by
  refine Lib.index_first (by simp) ?_ fun j hj => ?_
  · rw [occ1, List.getElem?_append_right (Nat.le_refl _), Nat.sub_self]
    rfl
  · rw [occ1, List.getElem?_append_left hj]
    apply beq_false_of_ne
    intro e
    exact h (List.mem_of_getElem? e)
theorem split_parts : ∀ (t : List (List UInt8)) (x : List UInt8), (∀ p ∈ x :: t, (43 : UInt8) ∉ p) → Lib.splitK [43] 0 t.length (join (x :: t) [43]) = x :: t
  | [], x, _ => by rw [Lib.join_one]; rfl
  | y :: t, x, h => by
    rw [join_cons (by simp)]
    show Lib.splitK [43] 0 (t.length + 1) (x ++ 43 :: join (y :: t) [43]) = _
    unfold Lib.splitK
    rw [index_sep (h x (by simp)), if_neg (by simp), Int.toNat_natCast]
    have e1 : (x ++ 43 :: join (y :: t) [43]).take (x.length + 0) = x := by rw [Nat.add_zero, List.take_left]
    have e2 : (x ++ 43 :: join (y :: t) [43]).drop (x.length + [(43 : UInt8)].length) = join (y :: t) [43] := by
      rw [← List.drop_drop, List.drop_left]
      rfl
    rw [e1, e2, split_parts t y (fun p hp => h p (List.mem_cons_of_mem _ hp))]
theorem count_parts : ∀ (t : List (List UInt8)) (x : List UInt8), (∀ p ∈ x :: t, (43 : UInt8) ∉ p) → (join (x :: t) [43]).count 43 = t.length
  | [], x, h => by rw [Lib.join_one]; exact List.count_eq_zero.2 (h x (by simp))
  | y :: t, x, h => by
    rw [join_cons (by simp), List.count_append, List.count_eq_zero.2 (h x (by simp)), List.count_cons_self, count_parts t y (fun p hp => h p (List.mem_cons_of_mem _ hp))]
    simp
theorem atoiV_dd {i : Int} (h : 1 ≤ i ∧ i ≤ 24) : atoiV (decDigits i.toNat) = i := by
  obtain ⟨k, rfl⟩ := Int.eq_ofNat_of_zero_le (show 0 ≤ i by omega)
  rw [Int.toNat_natCast]
  by_cases hk : k < 10
  · rw [Lib.decDigits_one hk]
    have : ∀ k, k < 10 → atoiV [UInt8.ofNat (48 + k)] = (k : Int) := by decide
    exact this k hk
  · rw [Lib.decDigits_two hk (by omega)]
    have : ∀ k, k < 25 → 10 ≤ k → atoiV [UInt8.ofNat (48 + k / 10), UInt8.ofNat (48 + k % 10)] = (k : Int) := by decide
    exact this k (by omega) (by omega)
theorem parseS_list (s : ByteArray) : parseS s = foldS ((Lib.splitK [43] 0 (s.data.toList.count 43) s.data.toList).map atoiV) := by
  unfold parseS piecesS
  have h1 := Lib.splitB_data ⟨#[43]⟩ 0 (Lib.countB s ⟨#[43]⟩) s
  have h2 : Lib.countB s ⟨#[43]⟩ = s.data.toList.count 43 := Lib.count_one 43 s.data.toList
  rw [h2] at h1 ⊢
  rw [← show (⟨#[43]⟩ : ByteArray).data.toList = [43] from rfl, ← h1, List.map_map]
  rfl
theorem parseS_text {n : Int} (hn : SOk n) {s : ByteArray} (h : s.data.toList = textS n) : parseS s = n := by
  rw [parseS_list, h]
  have hf := fold_ids hn.1 hn.2.1 hn.2.2
  unfold textS
  cases hl : idsTo n 24 with
  | nil =>
    rw [hl] at hf
    have h0 : foldS ((Lib.splitK [43] 0 (([45] : List UInt8).count 43) [45]).map atoiV) = foldS [] := by kernel_rfl
    exact h0.trans hf
  | cons x t =>
    have hb : ∀ i ∈ idsTo n 24, 1 ≤ i ∧ i ≤ 24 := fun i hi => ids_pos hi
    rw [hl] at hf hb
    have hno : ∀ p ∈ dL (x :: t), (43 : UInt8) ∉ p := fun p hp => by
      obtain ⟨i, _, rfl⟩ := List.mem_map.1 hp
      exact dd_no (.inl (by decide))
    rw [if_neg (by simp)]
    show foldS ((Lib.splitK [43] 0 ((join (dL (x :: t)) [43]).count 43) (join (dL (x :: t)) [43])).map atoiV) = n
    have e : dL (x :: t) = decDigits x.toNat :: dL t := rfl
    rw [e] at hno ⊢
    rw [count_parts (dL t) _ hno, split_parts (dL t) _ hno, ← e]
    unfold dL
    rw [List.map_map]
    have hm : (x :: t).map (atoiV ∘ fun i => decDigits i.toNat) = x :: t := by
      conv => rhs; rw [← List.map_id (x :: t)]
      exact List.map_congr_left fun i hi => atoiV_dd (hb i hi)
    rw [hm, hf]
theorem fold_is : ∀ (l : List Int) (s : Int), 0 ≤ s ∧ s ≤ 4294967295 ∧ sIs s = true → 0 ≤ l.foldl sWith s ∧ l.foldl sWith s ≤ 4294967295 ∧ sIs (l.foldl sWith s) = true
  | [], s, h => h
  | x :: r, s, h => by
    rw [List.foldl_cons]
    refine fold_is r _ ?_
    cases hx : idB x with
    | true =>
      have hb := withBd (n := x) h.1 h.2.1
      exact ⟨hb.1, hb.2, sIs_with h.1 h.2.1 hx h.2.2⟩
    | false =>
      have : sWith s x = s := by unfold sWith; rw [hx]; simp
      rw [this]; exact h
theorem parseS_ok (s : ByteArray) : SOk (parseS s) := fold_is _ 0 ⟨by omega, by omega, SOk.zero.2.2⟩
/-- sig.Parse is the way back. -/
theorem canonS_of (s : ByteArray) : CanonS s.data.toList (if canonB s = true then some (parseS s) else none) := by
  by_cases h : canonB s = true
  · rw [if_pos h]
    unfold canonB at h
    exact CanonS.of (parseS_ok s) (by simpa using h)
  · rw [if_neg h]
    refine ⟨fun n hn he => absurd ?_ h, fun _ => rfl⟩
    unfold canonB
    rw [parseS_text hn he.symm, he]
    simp
/-- query.Parse is the way back. -/
theorem canonQ_is (s : ByteArray) : CanonQ s.data.toList (if canonBQ s = true then some (parseQ s) else none) := by
  have hx := canonS_of (leftQ s)
  have hy := canonS_of (rightQ s)
  have k := canonQ_of (s := s.data.toList) (x := if canonB (leftQ s) = true then some (parseS (leftQ s)) else none) (y := if canonB (rightQ s) = true then some (parseS (rightQ s)) else none) hx hy
  have e : ∀ t : ByteArray, (if canonB t = true then some (parseS t) else none : Option Int).getD 0 = parseV t := fun t => by
    unfold parseV
    by_cases h : canonB t = true
    · rw [if_pos h, if_pos h]; rfl
    · rw [if_neg h, if_neg h]; rfl
  rw [e, e] at k
  have e2 : (if canonBQ s = true then some (parseQ s) else none) = (if textQ (parseV (leftQ s)) (parseV (rightQ s)) = s.data.toList then some (parseV (leftQ s), parseV (rightQ s)) else none) := by
    unfold parseQ canonBQ
    by_cases h : textQ (parseV (leftQ s)) (parseV (rightQ s)) = s.data.toList
    · rw [if_pos (by simpa using h), if_pos h, if_pos (by simpa using h)]
    · rw [if_neg (by simpa using h), if_neg h]
  rw [e2]
  exact k
end Go.Proofs.YtgebbmfoamkfnaaGreatDoor
