/- Contract of retrofitref36.Lines. -/
import Derived.Test.YtgngpanimeigbabDoorE0
import Derived.Test.YtgngpanimeigbabDoorE3
import Derived.Test.YtgngpanimeigbabDoorT6
namespace Go.Proofs.YtgngpanimeigbabDoor
open Go.RowKit
set_option linter.unusedVariables false
/-- Where a line's numbers begin. -/
def fromN : Nat → Nat
  | 0 => 0
  | 1 => 12
  | 2 => 14
  | 3 => 17
  | 4 => 20
  | 5 => 21
  | _ => 22
def wordsA : Array Value := #[.string (wordB 0), .string (wordB 1), .string (wordB 2), .string (wordB 3), .string (wordB 4), .string (wordB 5)]
def fromA : Array Value := #[.int .i64 0, .int .i64 12, .int .i64 14, .int .i64 17, .int .i64 20, .int .i64 21, .int .i64 22]
theorem wordsA_get {i : Nat} (h : i < 6) : wordsA[i]? = some (.string (wordB i)) := by
  rcases (by omega : i = 0 ∨ i = 1 ∨ i = 2 ∨ i = 3 ∨ i = 4 ∨ i = 5) with rfl | rfl | rfl | rfl | rfl | rfl <;> rfl
theorem fromA_get {i : Nat} (h : i < 7) : fromA[i]? = some (.int .i64 (fromN i)) := by
  rcases (by omega : i = 0 ∨ i = 1 ∨ i = 2 ∨ i = 3 ∨ i = 4 ∨ i = 5 ∨ i = 6) with rfl | rfl | rfl | rfl | rfl | rfl | rfl <;> rfl
/-- A line as the document builds it: a blank and a number at a time. -/
def tailL (t : List Int) (i : Nat) : Nat → List UInt8
  | 0 => (wordB i).data.toList
  | k + 1 => tailL t i k ++ [32] ++ Lib.itoa (gt t (fromN i + k))
theorem join_snoc (x : List UInt8) (r : List (List UInt8)) (y : List UInt8) : Lib.join (x :: (r ++ [y])) [32] = Lib.join (x :: r) [32] ++ [32] ++ y := by
  rw [Lib.join_cons, Lib.join_cons]
  simp [Lib.joinTail]
theorem app3 (a b : List UInt8) : (⟨a.toArray⟩ ++ ⟨#[32]⟩ ++ ⟨b.toArray⟩ : ByteArray) = ⟨(a ++ [32] ++ b).toArray⟩ := by
  apply ByteArray.ext
  simp
theorem tailL_eq (t : List Int) (i : Nat) : ∀ k, tailL t i k = Lib.join ((wordB i).data.toList :: (List.range k).map fun j => Lib.itoa (gt t (fromN i + j))) [32]
  | 0 => by simp [tailL, Lib.join_one]
  | k + 1 => by rw [tailL, tailL_eq t i k, List.range_succ, List.map_append, List.map_cons, List.map_nil, join_snoc]
theorem tailL_all (t : List Int) (ht : t.length = 22) (i : Nat) (hi : i < 6) : tailL t i (fromN (i + 1) - fromN i) = lineF (wordB i) (partL t i) := by
  rw [tailL_eq]
  unfold lineF
  congr 1
  congr 1
  rcases (by omega : i = 0 ∨ i = 1 ∨ i = 2 ∨ i = 3 ∨ i = 4 ∨ i = 5) with rfl | rfl | rfl | rfl | rfl | rfl
  · apply List.ext_getElem?
    intro j
    by_cases hj : j < 12
    · have h1 : (List.range (fromN (0 + 1) - fromN 0))[j]? = some j := List.getElem?_range (by simpa [fromN] using hj)
      rw [List.getElem?_map, h1, List.getElem?_map, partL, List.getElem?_take, if_pos hj, getD_some (by omega)]
      simp [fromN]
    · rw [List.getElem?_eq_none (by simp [fromN]; omega), List.getElem?_eq_none (by simp [partL]; omega)]
  · rfl
  · rfl
  · rfl
  · rfl
  · rfl
theorem tailL_len (t : List Int) (hI : ∀ x ∈ t, I64 x) (ht : t.length = 22) (i : Nat) : ∀ k, fromN i + k ≤ 22 → (tailL t i k).length ≤ 8 + 22 * k
  | 0, _ => by
    have : (wordB i).data.toList.length ≤ 8 := by unfold wordB; split <;> decide
    simpa [tailL] using this
  | k + 1, hk => by
    have h1 := tailL_len t hI ht i k (by omega)
    have h2 := hI _ (List.mem_of_getElem? (getD_some (t := t) (i := fromN i + k) (by omega)))
    have h3 := Lib.itoa_length_le _ h2.1 h2.2
    simp only [tailL, List.length_append, List.length_cons, List.length_nil]
    omega
set_option maxRecDepth 100000 in
set_option maxHeartbeats 2000000 in
theorem rlines_any (t : List Int) (w : World) (ht : t.length = 22) (hI : ∀ x ∈ t, I64 x) :
    Calls Tryd.prog 12 #[.agg (tv t)] w fun e w' => ∃ q c, e = .returned (.slice (some ⟨q, 0, none⟩) 6 c) ∧ (∀ i, i < 6 → w'.cell? ⟨q, i, none⟩ = some (.string (lineB t i))) ∧ q < w'.heap.size ∧ Below w.heap.size w w' := by
  obtain ⟨i0, hi, hz0, hz1, hz2⟩ := info_parts Tryd.info9
  have hsa : (tv t).size = 22 := by simp [tv, ht]
  have oa := tv_one t
  have HI := Lib.hid hI
  have hT := keepA (.cells #[] 9) (keepA (.cells fromA 78) (keepA (.cells wordsA 77) (heap_alloc_new w (.cells (tv t) 36))))
  have hWd := keepA (.cells #[] 9) (keepA (.cells fromA 78) (heap_alloc_new (w.alloc (.cells (tv t) 36)) (.cells wordsA 77)))
  have hFr := keepA (.cells #[] 9) (heap_alloc_new ((w.alloc (.cells (tv t) 36)).alloc (.cells wordsA 77)) (.cells fromA 78))
  have hRw := World.ownsRow_lit (base := w.heap.size) (e := 9) (size := 1) (((w.alloc (.cells (tv t) 36)).alloc (.cells wordsA 77)).alloc (.cells fromA 78)) #[] 0 (by simp; omega) (by unfold maxLen; omega) rfl
  have hbel : Below w.heap.size w ((((w.alloc (.cells (tv t) 36)).alloc (.cells wordsA 77)).alloc (.cells fromA 78)).alloc (.cells #[] 9)) := by go_grown
  simp only [World.size_alloc] at hWd hFr hRw
  have HB := Lib.hid (And.intro hT (And.intro hWd (And.intro hFr (And.intro hRw hbel))))
  clear hT hWd hFr hRw hbel hI
  go_enter Tryd.func12, Tryd.ntmps12
  go_wp2_with fail
  obtain ⟨hT, hWd, hFr, hRw, hbel⟩ := HB.out
  clear HB
  unfold wordsA fromA wordB at hT hWd hFr hRw hbel
  simp only at hT hWd hFr hRw hbel
  generalize (((w.alloc (.cells (tv t) 36)).alloc _).alloc _).alloc (.cells #[] 9) = W at hT hWd hFr hRw hbel ⊢
  have hWd : W.heap[w.heap.size + 1]? = some (.cells wordsA 77 (0, 0)) := hWd
  have hFr : W.heap[w.heap.size + 1 + 1]? = some (.cells fromA 78 (0, 0)) := hFr
  have HB := Lib.hid (And.intro hT (And.intro hWd (And.intro hFr (And.intro hRw hbel))))
  have hzW := hbel.size
  clear hT hWd hFr hRw hbel
  go_loopw [5, 6] (fun v i wr => ∃ (k : Nat) (va : Option Addr) (vc : Nat), k ≤ 6 ∧ i = .int .i64 k ∧ v = .slice va k vc ∧ wr.ownsRow w.heap.size 9 1 (.slice va k vc) k ((List.range k).map fun j => Value.string (lineB t j)) ∧
      wr.heap[w.heap.size]? = some (.cells (tv t) 36 (0, 0)) ∧ wr.heap[w.heap.size + 1]? = some (.cells wordsA 77 (0, 0)) ∧ wr.heap[w.heap.size + 1 + 1]? = some (.cells fromA 78 (0, 0)) ∧ Below w.heap.size w wr) (fun _ i _ => 6 - (intOf i).toNat)
  case atStart => exact ⟨0, _, _, by omega, rfl, rfl, HB.out.2.2.2.1, HB.out.1, HB.out.2.1, HB.out.2.2.1, HB.out.2.2.2.2⟩
  case round =>
    obtain ⟨k, va, vc, hk, rfl, rfl, hown, hT, hWd, hFr, hbw⟩ := hrel
    have hz := hbw.size
    by_cases hlt : k < 6
    · have w0 := (cell_at hWd k).trans (wordsA_get hlt)
      have r0 := (cell_at hFr k).trans (fromA_get (by omega : k < 7))
      have i1 : (0 : Int) ≤ (k : Int) := by omega
      have i2 : (k : Int) < 6 := by omega
      have i2' : (k : Int) < 7 := by omega
      have hf1 : fromN k < fromN (k + 1) ∧ fromN (k + 1) ≤ 22 := by
        rcases (by omega : k = 0 ∨ k = 1 ∨ k = 2 ∨ k = 3 ∨ k = 4 ∨ k = 5) with rfl | rfl | rfl | rfl | rfl | rfl <;> decide
      have HR := Lib.hid (And.intro hown (And.intro hT (And.intro hWd (And.intro hFr hbw))))
      have h00 : (wordB k) = ⟨(tailL t k 0).toArray⟩ := by simp [tailL]
      have H00 := Lib.hid h00
      have hlenF := Lib.hid (fun j hj => tailL_len t HI.out ht k j hj)
      have hall := Lib.hid (tailL_all t ht k hlt)
      have hWl := lt_some hT
      clear hown hT hWd hFr hbw h00 HB
      obtain ⟨wo, hwo⟩ : ∃ wo : World, wo = wr := ⟨_, rfl⟩
      subst hwo
      go_wp2_with fail
      go_loopw [7, 8] (fun s i w2 => ∃ (j : Nat), fromN k + j ≤ fromN (k + 1) ∧ i = .int .i64 ((fromN k + j : Nat) : Int) ∧ s = .string ⟨(tailL t k j).toArray⟩ ∧ Below wo.heap.size wo w2) (fun _ i _ => 22 - (intOf i).toNat)
      case atStart => exact ⟨0, by omega, rfl, congrArg Value.string H00.out, Below.refl _ _⟩
      case round =>
        obtain ⟨j, hj, rfl, rfl, hb2⟩ := hrel
        have hzq := hb2.size
        have r1 := (cell_at (keep hb2 HR.out.2.2.2.1) (k + 1)).trans (fromA_get (by omega : k + 1 < 7))
        have i3 : (0 : Int) ≤ (k : Int) + 1 := by omega
        have i4 : ((k : Int) + 1).toNat = k + 1 := by omega
        have i5 : (k : Int) + 1 < 7 := by omega
        by_cases hjl : fromN k + j < fromN (k + 1)
        · have c0 := (cell_at (keep hb2 HR.out.2.1) (fromN k + j)).trans (tv_get (getD_some (by omega)))
          have hgi := HI.out _ (List.mem_of_getElem? (getD_some (t := t) (i := fromN k + j) (by omega)))
          have hLl := hlenF.out j (by omega)
          have hLl' : (tailL t k j).length ≤ 600 := by omega
          have hDl := Lib.itoa_length_le _ hgi.1 hgi.2
          have hnx : tailL t k (j + 1) = tailL t k j ++ [32] ++ Lib.itoa (gt t (fromN k + j)) := rfl
          have HNX := Lib.hid hnx
          have HG := Lib.hid hgi
          have j1 : (0 : Int) ≤ ((fromN k + j : Nat) : Int) := by omega
          have j2 : ((fromN k + j : Nat) : Int) < 22 := by omega
          have j3 : ((fromN k + j : Nat) : Int) < ((fromN (k + 1) : Nat) : Int) := by omega
          clear hnx hgi hLl
          generalize tailL t k j = Lj at *
          generalize hD : Lib.itoa (gt t (fromN k + j)) = D at *
          have HD := Lib.hid hD
          clear hD
          go_wp2_with fail
          refine (digits_any _ _ HG.out).mono ?_
          rintro e w3 ⟨rfl, hb3⟩
          rw [HD.out]
          have hb4 : Below wo.heap.size wo w3 := hb2.trans (hb3.mono hzq)
          clear hb3 hb2
          go_wp2_with fail
          go_roundw
          case rel => exact ⟨j + 1, by omega, congrArg (Value.int .i64) (by omega), congrArg Value.string ((app3 Lj D).trans (by rw [HNX.out])), hb4⟩
          case measure => simp [intOf]; omega
        · have hjj : j = fromN (k + 1) - fromN k := by omega
          have hstr : (⟨(tailL t k j).toArray⟩ : ByteArray) = lineB t k := by rw [hjj, hall.out]; rfl
          rw [hstr]
          have j3 : ((fromN (k + 1) : Nat) : Int) ≤ ((fromN k + j : Nat) : Int) := by omega
          obtain ⟨hown, hT, hWd, hFr, hbw⟩ := HR.out
          have hown1 := (ownsRow_below hown hb2).alloc (.cells #[.string (lineB t k)] 9)
          have HK := Lib.hid (And.intro (keep hb2 hT) (And.intro (keep hb2 hWd) (And.intro (keep hb2 hFr) (hbw.trans (hb2.mono hz)))))
          have HR1 := Lib.hid (show (List.range (k + 1)).map (fun j => Value.string (lineB t j)) = (List.range k).map (fun j => Value.string (lineB t j)) ++ [Value.string (lineB t k)] by rw [List.range_succ, List.map_append]; rfl)
          clear hown hT hWd hFr hbw hb2 hstr HR hjj
          generalize lineB t k = S at *
          generalize hrl : (List.range k).map (fun j => Value.string (lineB t j)) = rl at *
          have HRL := Lib.hid hrl
          clear hrl
          go_wp2_with (at_builtin; refine wpList_append_own _ rfl (.tmp 37) (.tmp 39) 51 rfl w.heap.size 9 i0 (.string ByteArray.empty) 1 16 Tryd.underlying51 hi hz0 hz1 hz2 rfl (by decide) (.slice va k vc) k rl rfl hown1 ⟨wr.heap.size, 0, none⟩ 1 1 [.string S] rfl rfl (cell_one_new _ _ _) (by intro u hu; simp at hu; subst hu; rfl) (by unfold maxLen; omega) (by omega) (by simp; omega) ?_)
          intro v' w3 hown3 hg3 _
          obtain ⟨va', vc', hv'⟩ := ownsRow_slice hown3
          rw [hv'] at hown3 ⊢
          clear hv'
          obtain ⟨hT, hWd, hFr, hbw⟩ := HK.out
          have hrow := hown1.lt
          have hT3 := keepG hg3 (keepA (.cells #[.string S] 9) hT) (ownsRow_ne_block hown1 (keepA (.cells #[.string S] 9) hT) (fun cur hc => by cases hc))
          have hW3 := keepG hg3 (keepA (.cells #[.string S] 9) hWd) (ownsRow_ne_block hown1 (keepA (.cells #[.string S] 9) hWd) (fun cur hc => by cases hc))
          have hF3 := keepG hg3 (keepA (.cells #[.string S] 9) hFr) (ownsRow_ne_block hown1 (keepA (.cells #[.string S] 9) hFr) (fun cur hc => by cases hc))
          have hb3 : Below w.heap.size w w3 := (hbw.alloc hbw.size _).grown hg3 (by simp; omega) (fun x hx => (hrow x hx).1)
          have HE := Lib.hid (And.intro hown3 (And.intro hT3 (And.intro hW3 (And.intro hF3 hb3))))
          clear hown3 hT3 hW3 hF3 hb3 hT hWd hFr hbw hrow hown1 hg3 HK
          go_wp2_with fail
          go_roundw
          case rel => exact ⟨k + 1, va', vc', by omega, by go_num, rfl, by rw [HR1.out]; exact HE.out.1, HE.out.2.1, HE.out.2.2.1, HE.out.2.2.2.1, HE.out.2.2.2.2⟩
          case measure => simp [intOf]; omega
    · obtain rfl : k = 6 := by omega
      obtain ⟨q, rfl, hq1, hq2, hqc⟩ := row_block hown (by omega)
      have HQ := Lib.hid (show (∀ i, i < 6 → wr.cell? ⟨q, i, none⟩ = some (.string (lineB t i))) ∧ q < wr.heap.size ∧ Below w.heap.size w wr from ⟨fun i hi => hqc i _ (by rw [List.getElem?_map, List.getElem?_range hi]; rfl), hq2, hbw⟩)
      clear hown hT hWd hFr hbw hqc
      go_wp2_with fail
      go_returns
      exact ⟨q, vc, rfl, HQ.out⟩
end Go.Proofs.YtgngpanimeigbabDoor
