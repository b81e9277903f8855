/- Contract of tally.Lines. -/
import Derived.Test.YtgngpanimeigbabDoorT0
import Derived.Test.YtgngpanimeigbabDoorT5
import Derived.Test.YtgngpanimeigbabDoorG1
namespace Go.Proofs.YtgngpanimeigbabDoor
open Go.RowKit
set_option linter.unusedVariables false

def wordB : Nat → ByteArray
  | 0 => ⟨#[107, 105, 110, 100, 115]⟩
  | 1 => ⟨#[97, 110, 115, 119, 101, 114, 115]⟩
  | 2 => ⟨#[102, 114, 97, 109, 101, 115]⟩
  | 3 => ⟨#[117, 112, 103, 114, 97, 100, 101, 115]⟩
  | 4 => ⟨#[109, 111, 115, 116]⟩
  | _ => ⟨#[118, 101, 114, 115, 105, 111, 110]⟩
def partL (t : List Int) : Nat → List Int
  | 0 => t.take 12
  | 1 => [gt t 12, gt t 13]
  | 2 => [gt t 14, gt t 15, gt t 16]
  | 3 => [gt t 17, gt t 18, gt t 19]
  | 4 => [gt t 20]
  | _ => [gt t 21]
def lineB (t : List Int) (i : Nat) : ByteArray := ⟨(lineF (wordB i) (partL t i)).toArray⟩
theorem part_get1 {t : List Int} {i : Nat} {m : Int} (h : (partL t 1)[i]? = some m) : (#[.int .i64 (gt t 12), .int .i64 (gt t 13)] : Array Value)[i]? = some (.int .i64 m) := by
  have hi := (List.getElem?_eq_some_iff.1 h).1
  simp only [partL, List.length_cons, List.length_nil] at hi
  rcases (by omega : i = 0 ∨ i = 1) with rfl | rfl <;> (cases h; rfl)
theorem part_get2 {t : List Int} {i : Nat} {m : Int} (h : (partL t 2)[i]? = some m) : (#[.int .i64 (gt t 14), .int .i64 (gt t 15), .int .i64 (gt t 16)] : Array Value)[i]? = some (.int .i64 m) := by
  have hi := (List.getElem?_eq_some_iff.1 h).1
  simp only [partL, List.length_cons, List.length_nil] at hi
  rcases (by omega : i = 0 ∨ i = 1 ∨ i = 2) with rfl | rfl | rfl <;> (cases h; rfl)
theorem part_get3 {t : List Int} {i : Nat} {m : Int} (h : (partL t 3)[i]? = some m) : (#[.int .i64 (gt t 17), .int .i64 (gt t 18), .int .i64 (gt t 19)] : Array Value)[i]? = some (.int .i64 m) := by
  have hi := (List.getElem?_eq_some_iff.1 h).1
  simp only [partL, List.length_cons, List.length_nil] at hi
  rcases (by omega : i = 0 ∨ i = 1 ∨ i = 2) with rfl | rfl | rfl <;> (cases h; rfl)
theorem part_get4 {t : List Int} {i : Nat} {m : Int} (h : (partL t 4)[i]? = some m) : (#[.int .i64 (gt t 20)] : Array Value)[i]? = some (.int .i64 m) := by
  have hi := (List.getElem?_eq_some_iff.1 h).1
  simp only [partL, List.length_cons, List.length_nil] at hi
  rcases (by omega : i = 0) with rfl <;> (cases h; rfl)
theorem part_get5 {t : List Int} {i : Nat} {m : Int} (h : (partL t 5)[i]? = some m) : (#[.int .i64 (gt t 21)] : Array Value)[i]? = some (.int .i64 m) := by
  have hi := (List.getElem?_eq_some_iff.1 h).1
  simp only [partL, List.length_cons, List.length_nil] at hi
  rcases (by omega : i = 0) with rfl <;> (cases h; rfl)
def linesR (t : List Int) (wb : Nat) : List (Value → World → Prop) :=
  [ IsV (.pointer (some ⟨wb, 0, none⟩)),
    IsV (.slice (some ⟨wb, 0, none⟩) 12 12),
    IsV (.string (lineB t 0)),
    IsV (.pointer (some ⟨wb, 12, none⟩)),
    IsV (.int .i64 (gt t 12)),
    IsV (.pointer (some ⟨wb, 13, none⟩)),
    IsV (.int .i64 (gt t 13)),
    IsRow #[.int .i64 (gt t 12), .int .i64 (gt t 13)] 2 3,
    IsV (.string (lineB t 1)),
    IsV (.pointer (some ⟨wb, 14, none⟩)),
    IsV (.int .i64 (gt t 14)),
    IsV (.pointer (some ⟨wb, 15, none⟩)),
    IsV (.int .i64 (gt t 15)),
    IsV (.pointer (some ⟨wb, 16, none⟩)),
    IsV (.int .i64 (gt t 16)),
    IsRow #[.int .i64 (gt t 14), .int .i64 (gt t 15), .int .i64 (gt t 16)] 3 3,
    IsV (.string (lineB t 2)),
    IsV (.pointer (some ⟨wb, 17, none⟩)),
    IsV (.int .i64 (gt t 17)),
    IsV (.pointer (some ⟨wb, 18, none⟩)),
    IsV (.int .i64 (gt t 18)),
    IsV (.pointer (some ⟨wb, 19, none⟩)),
    IsV (.int .i64 (gt t 19)),
    IsRow #[.int .i64 (gt t 17), .int .i64 (gt t 18), .int .i64 (gt t 19)] 3 3,
    IsV (.string (lineB t 3)),
    IsV (.pointer (some ⟨wb, 20, none⟩)),
    IsV (.int .i64 (gt t 20)),
    IsRow #[.int .i64 (gt t 20)] 1 3,
    IsV (.string (lineB t 4)),
    IsV (.pointer (some ⟨wb, 21, none⟩)),
    IsV (.int .i64 (gt t 21)),
    IsRow #[.int .i64 (gt t 21)] 1 3,
    IsV (.string (lineB t 5)),
    IsRow #[.string (lineB t 0), .string (lineB t 1), .string (lineB t 2), .string (lineB t 3), .string (lineB t 4), .string (lineB t 5)] 6 9,
    IsRow #[.string (lineB t 0), .string (lineB t 1), .string (lineB t 2), .string (lineB t 3), .string (lineB t 4), .string (lineB t 5)] 6 9 ]
theorem linesR_lasts (t : List Int) (wb : Nat) : ∀ p ∈ linesR t wb, Lasts p := by
  simp only [linesR, List.mem_cons, List.not_mem_nil, or_false]
  rintro p (rfl | rfl | rfl | rfl | rfl | rfl | rfl | rfl | rfl | rfl | rfl | rfl | rfl | rfl | rfl | rfl | rfl | rfl | rfl | rfl | rfl | rfl | rfl | rfl | rfl | rfl | rfl | rfl | rfl | rfl | rfl | rfl | rfl | rfl | rfl) <;> first | exact lasts_v _ | exact lasts_row _ _ _
set_option maxRecDepth 100000 in
set_option maxHeartbeats 2000000 in
theorem lines_any (t : List Int) (w : World) (ht : t.length = 22) (hI : ∀ x ∈ t, I64 x) (hT : Tab w) :
    Calls Tryd.prog 11 #[.agg (tv t)] w fun e w' => ∃ q, e = .returned (.slice (some ⟨q, 0, none⟩) 6 6) ∧ w'.heap[q]? = some (.cells #[.string (lineB t 0), .string (lineB t 1), .string (lineB t 2), .string (lineB t 3), .string (lineB t 4), .string (lineB t 5)] 9 (0, 0)) ∧ Below w.heap.size w w' := by
  have hsa : (tv t).size = 22 := by simp [tv, ht]
  have oa := tv_one t
  have hA := heap_alloc_new w (.cells (tv t) 25)
  have HP0 : Hid (∀ m ∈ partL t 0, I64 m) := Lib.hid (fun m hm => hI m (List.mem_of_mem_take hm))
  have HP1 : Hid (∀ m ∈ partL t 1, I64 m) := Lib.hid (by
    intro m hm
    simp only [partL, List.mem_cons, List.not_mem_nil, or_false] at hm
    rcases hm with rfl | rfl <;> exact hI _ (List.mem_of_getElem? (getD_some (by omega))))
  have HP2 : Hid (∀ m ∈ partL t 2, I64 m) := Lib.hid (by
    intro m hm
    simp only [partL, List.mem_cons, List.not_mem_nil, or_false] at hm
    rcases hm with rfl | rfl | rfl <;> exact hI _ (List.mem_of_getElem? (getD_some (by omega))))
  have HP3 : Hid (∀ m ∈ partL t 3, I64 m) := Lib.hid (by
    intro m hm
    simp only [partL, List.mem_cons, List.not_mem_nil, or_false] at hm
    rcases hm with rfl | rfl | rfl <;> exact hI _ (List.mem_of_getElem? (getD_some (by omega))))
  have HP4 : Hid (∀ m ∈ partL t 4, I64 m) := Lib.hid (by
    intro m hm
    simp only [partL, List.mem_cons, List.not_mem_nil, or_false] at hm
    rcases hm with rfl <;> exact hI _ (List.mem_of_getElem? (getD_some (by omega))))
  have HP5 : Hid (∀ m ∈ partL t 5, I64 m) := Lib.hid (by
    intro m hm
    simp only [partL, List.mem_cons, List.not_mem_nil, or_false] at hm
    rcases hm with rfl <;> exact hI _ (List.mem_of_getElem? (getD_some (by omega))))
  have HB := Lib.hid hA
  have HI := Lib.hid hI
  have HT := Lib.hid hT
  clear hA hI hT
  go_enter Tryd.func11, Tryd.ntmps11
  go_wp2_with fail
  generalize hW : w.alloc (.cells (tv t) 25) = W at *
  generalize hwb : w.heap.size = wb at *
  refine wp_region_grow (by kernel_rfl) (by kernel_rfl) (by kernel_rfl) (byList (linesR t wb)) (lasts_list (linesR_lasts t wb)) ?_ ?_
  · intro vs w1 i o hb ho hd
    generalize hA : putAll vs 0 _ _ = A
    obtain rfl : ({ tmps := #[.agg (tv t), .pointer (some ⟨wb, 0, none⟩), vs 34, vs 0, vs 1, vs 2, vs 3, vs 4, vs 5, vs 6, vs 7, vs 8, vs 9, vs 10, vs 11, vs 12, vs 13, vs 14, vs 15, vs 16, vs 17, vs 18, vs 19, vs 20, vs 21, vs 22, vs 23, vs 24, vs 25, vs 26, vs 27, vs 28, vs 29, vs 30, vs 31, vs 32, vs 33], defers := [] } : Act) = A := by rw [← hA]; kernel_rfl
    clear hA
    have hA1 := keep hb HB.out
    have hwb1 := lt_some hA1
    have hbw1 : Below w.heap.size w w1 := by rw [← hW] at hb; exact ((Below.refl w.heap.size w).alloc (Nat.le_refl _) _).trans (hb.mono (by simp))
    have HC0 : Hid (∀ (i : Nat) (m : Int), (partL t 0)[i]? = some m → w1.cell? ⟨wb, 0 + i, none⟩ = some (.int .i64 m)) := Lib.hid (fun i m hm => by
      rw [cell_at hA1, Nat.zero_add]
      refine tv_get ?_
      rw [partL, List.getElem?_take] at hm
      split at hm
      · exact hm
      · cases hm)
    clear hb
    revert ho hd
    match i with
    | 0 =>
      intro ho hd
      obtain rfl := (Option.some.inj ho).symm
      clear hd ho
      refine step_open rfl ?_
      go_simp
      exact ⟨rfl, Below.refl _ _⟩
    | 1 =>
      intro ho hd
      obtain rfl := (Option.some.inj ho).symm
      have d0 : vs 0 = (.pointer (some ⟨wb, 0, none⟩)) := hd ⟨0, .data⟩ (by simp) rfl
      clear hd ho
      refine step_open rfl ?_
      go_simp
      exact ⟨rfl, Below.refl _ _⟩
    | 2 =>
      intro ho hd
      obtain rfl := (Option.some.inj ho).symm
      have d1 : vs 1 = (.slice (some ⟨wb, 0, none⟩) 12 12) := hd ⟨1, .data⟩ (by simp) rfl
      clear hd ho
      refine step_open rfl ?_
      go_simp
      refine (line_any (wordB 0) (partL t 0) _ _ _ _ (HT.out.below (B := 0) hbw1) (by decide) (by simp [partL]; omega) (by omega) HP0.out (.inr ⟨wb, 0, rfl, hwb1, fun i m hm => HC0.out i m hm⟩)).mono ?_
      rintro e w2 ⟨rfl, hb2⟩
      exact ⟨rfl, hb2⟩
    | 3 =>
      intro ho hd
      obtain rfl := (Option.some.inj ho).symm
      clear hd ho
      refine step_open rfl ?_
      go_simp
      exact ⟨rfl, Below.refl _ _⟩
    | 4 =>
      intro ho hd
      obtain rfl := (Option.some.inj ho).symm
      have d3 : vs 3 = (.pointer (some ⟨wb, 12, none⟩)) := hd ⟨3, .data⟩ (by simp) rfl
      clear hd ho
      refine step_open rfl ?_
      have c0 := (cell_at hA1 12).trans (tv_get (getD_some (by omega)))
      go_simp
      exact ⟨rfl, Below.refl _ _⟩
    | 5 =>
      intro ho hd
      obtain rfl := (Option.some.inj ho).symm
      clear hd ho
      refine step_open rfl ?_
      go_simp
      exact ⟨rfl, Below.refl _ _⟩
    | 6 =>
      intro ho hd
      obtain rfl := (Option.some.inj ho).symm
      have d5 : vs 5 = (.pointer (some ⟨wb, 13, none⟩)) := hd ⟨5, .data⟩ (by simp) rfl
      clear hd ho
      refine step_open rfl ?_
      have c0 := (cell_at hA1 13).trans (tv_get (getD_some (by omega)))
      go_simp
      exact ⟨rfl, Below.refl _ _⟩
    | 7 =>
      intro ho hd
      obtain rfl := (Option.some.inj ho).symm
      have d4 : vs 4 = (.int .i64 (gt t 12)) := hd ⟨4, .data⟩ (by simp) rfl
      have d6 : vs 6 = (.int .i64 (gt t 13)) := hd ⟨6, .data⟩ (by simp) rfl
      clear hd ho
      refine step_open rfl ?_
      go_simp
      exact ⟨⟨w1.heap.size, rfl, heap_alloc_new _ _⟩, (Below.refl _ _).alloc (Nat.le_refl _) _⟩
    | 8 =>
      intro ho hd
      obtain rfl := (Option.some.inj ho).symm
      obtain ⟨q, d7, hq⟩ : IsRow #[.int .i64 (gt t 12), .int .i64 (gt t 13)] 2 3 (vs 7) w1 := hd ⟨7, .data⟩ (by simp) rfl
      clear hd ho
      refine step_open rfl ?_
      go_simp
      refine (line_any (wordB 1) (partL t 1) _ _ _ _ (HT.out.below (B := 0) hbw1) (by decide) (by simp [partL]) (by omega) HP1.out (.inr ⟨q, 0, rfl, lt_some hq, fun i m hm => by rw [cell_at hq, Nat.zero_add]; exact part_get1 hm⟩)).mono ?_
      rintro e w2 ⟨rfl, hb2⟩
      exact ⟨rfl, hb2⟩
    | 9 =>
      intro ho hd
      obtain rfl := (Option.some.inj ho).symm
      clear hd ho
      refine step_open rfl ?_
      go_simp
      exact ⟨rfl, Below.refl _ _⟩
    | 10 =>
      intro ho hd
      obtain rfl := (Option.some.inj ho).symm
      have d9 : vs 9 = (.pointer (some ⟨wb, 14, none⟩)) := hd ⟨9, .data⟩ (by simp) rfl
      clear hd ho
      refine step_open rfl ?_
      have c0 := (cell_at hA1 14).trans (tv_get (getD_some (by omega)))
      go_simp
      exact ⟨rfl, Below.refl _ _⟩
    | 11 =>
      intro ho hd
      obtain rfl := (Option.some.inj ho).symm
      clear hd ho
      refine step_open rfl ?_
      go_simp
      exact ⟨rfl, Below.refl _ _⟩
    | 12 =>
      intro ho hd
      obtain rfl := (Option.some.inj ho).symm
      have d11 : vs 11 = (.pointer (some ⟨wb, 15, none⟩)) := hd ⟨11, .data⟩ (by simp) rfl
      clear hd ho
      refine step_open rfl ?_
      have c0 := (cell_at hA1 15).trans (tv_get (getD_some (by omega)))
      go_simp
      exact ⟨rfl, Below.refl _ _⟩
    | 13 =>
      intro ho hd
      obtain rfl := (Option.some.inj ho).symm
      clear hd ho
      refine step_open rfl ?_
      go_simp
      exact ⟨rfl, Below.refl _ _⟩
    | 14 =>
      intro ho hd
      obtain rfl := (Option.some.inj ho).symm
      have d13 : vs 13 = (.pointer (some ⟨wb, 16, none⟩)) := hd ⟨13, .data⟩ (by simp) rfl
      clear hd ho
      refine step_open rfl ?_
      have c0 := (cell_at hA1 16).trans (tv_get (getD_some (by omega)))
      go_simp
      exact ⟨rfl, Below.refl _ _⟩
    | 15 =>
      intro ho hd
      obtain rfl := (Option.some.inj ho).symm
      have d10 : vs 10 = (.int .i64 (gt t 14)) := hd ⟨10, .data⟩ (by simp) rfl
      have d12 : vs 12 = (.int .i64 (gt t 15)) := hd ⟨12, .data⟩ (by simp) rfl
      have d14 : vs 14 = (.int .i64 (gt t 16)) := hd ⟨14, .data⟩ (by simp) rfl
      clear hd ho
      refine step_open rfl ?_
      go_simp
      exact ⟨⟨w1.heap.size, rfl, heap_alloc_new _ _⟩, (Below.refl _ _).alloc (Nat.le_refl _) _⟩
    | 16 =>
      intro ho hd
      obtain rfl := (Option.some.inj ho).symm
      obtain ⟨q, d15, hq⟩ : IsRow #[.int .i64 (gt t 14), .int .i64 (gt t 15), .int .i64 (gt t 16)] 3 3 (vs 15) w1 := hd ⟨15, .data⟩ (by simp) rfl
      clear hd ho
      refine step_open rfl ?_
      go_simp
      refine (line_any (wordB 2) (partL t 2) _ _ _ _ (HT.out.below (B := 0) hbw1) (by decide) (by simp [partL]) (by omega) HP2.out (.inr ⟨q, 0, rfl, lt_some hq, fun i m hm => by rw [cell_at hq, Nat.zero_add]; exact part_get2 hm⟩)).mono ?_
      rintro e w2 ⟨rfl, hb2⟩
      exact ⟨rfl, hb2⟩
    | 17 =>
      intro ho hd
      obtain rfl := (Option.some.inj ho).symm
      clear hd ho
      refine step_open rfl ?_
      go_simp
      exact ⟨rfl, Below.refl _ _⟩
    | 18 =>
      intro ho hd
      obtain rfl := (Option.some.inj ho).symm
      have d17 : vs 17 = (.pointer (some ⟨wb, 17, none⟩)) := hd ⟨17, .data⟩ (by simp) rfl
      clear hd ho
      refine step_open rfl ?_
      have c0 := (cell_at hA1 17).trans (tv_get (getD_some (by omega)))
      go_simp
      exact ⟨rfl, Below.refl _ _⟩
    | 19 =>
      intro ho hd
      obtain rfl := (Option.some.inj ho).symm
      clear hd ho
      refine step_open rfl ?_
      go_simp
      exact ⟨rfl, Below.refl _ _⟩
    | 20 =>
      intro ho hd
      obtain rfl := (Option.some.inj ho).symm
      have d19 : vs 19 = (.pointer (some ⟨wb, 18, none⟩)) := hd ⟨19, .data⟩ (by simp) rfl
      clear hd ho
      refine step_open rfl ?_
      have c0 := (cell_at hA1 18).trans (tv_get (getD_some (by omega)))
      go_simp
      exact ⟨rfl, Below.refl _ _⟩
    | 21 =>
      intro ho hd
      obtain rfl := (Option.some.inj ho).symm
      clear hd ho
      refine step_open rfl ?_
      go_simp
      exact ⟨rfl, Below.refl _ _⟩
    | 22 =>
      intro ho hd
      obtain rfl := (Option.some.inj ho).symm
      have d21 : vs 21 = (.pointer (some ⟨wb, 19, none⟩)) := hd ⟨21, .data⟩ (by simp) rfl
      clear hd ho
      refine step_open rfl ?_
      have c0 := (cell_at hA1 19).trans (tv_get (getD_some (by omega)))
      go_simp
      exact ⟨rfl, Below.refl _ _⟩
    | 23 =>
      intro ho hd
      obtain rfl := (Option.some.inj ho).symm
      have d18 : vs 18 = (.int .i64 (gt t 17)) := hd ⟨18, .data⟩ (by simp) rfl
      have d20 : vs 20 = (.int .i64 (gt t 18)) := hd ⟨20, .data⟩ (by simp) rfl
      have d22 : vs 22 = (.int .i64 (gt t 19)) := hd ⟨22, .data⟩ (by simp) rfl
      clear hd ho
      refine step_open rfl ?_
      go_simp
      exact ⟨⟨w1.heap.size, rfl, heap_alloc_new _ _⟩, (Below.refl _ _).alloc (Nat.le_refl _) _⟩
    | 24 =>
      intro ho hd
      obtain rfl := (Option.some.inj ho).symm
      obtain ⟨q, d23, hq⟩ : IsRow #[.int .i64 (gt t 17), .int .i64 (gt t 18), .int .i64 (gt t 19)] 3 3 (vs 23) w1 := hd ⟨23, .data⟩ (by simp) rfl
      clear hd ho
      refine step_open rfl ?_
      go_simp
      refine (line_any (wordB 3) (partL t 3) _ _ _ _ (HT.out.below (B := 0) hbw1) (by decide) (by simp [partL]) (by omega) HP3.out (.inr ⟨q, 0, rfl, lt_some hq, fun i m hm => by rw [cell_at hq, Nat.zero_add]; exact part_get3 hm⟩)).mono ?_
      rintro e w2 ⟨rfl, hb2⟩
      exact ⟨rfl, hb2⟩
    | 25 =>
      intro ho hd
      obtain rfl := (Option.some.inj ho).symm
      clear hd ho
      refine step_open rfl ?_
      go_simp
      exact ⟨rfl, Below.refl _ _⟩
    | 26 =>
      intro ho hd
      obtain rfl := (Option.some.inj ho).symm
      have d25 : vs 25 = (.pointer (some ⟨wb, 20, none⟩)) := hd ⟨25, .data⟩ (by simp) rfl
      clear hd ho
      refine step_open rfl ?_
      have c0 := (cell_at hA1 20).trans (tv_get (getD_some (by omega)))
      go_simp
      exact ⟨rfl, Below.refl _ _⟩
    | 27 =>
      intro ho hd
      obtain rfl := (Option.some.inj ho).symm
      have d26 : vs 26 = (.int .i64 (gt t 20)) := hd ⟨26, .data⟩ (by simp) rfl
      clear hd ho
      refine step_open rfl ?_
      go_simp
      exact ⟨⟨w1.heap.size, rfl, heap_alloc_new _ _⟩, (Below.refl _ _).alloc (Nat.le_refl _) _⟩
    | 28 =>
      intro ho hd
      obtain rfl := (Option.some.inj ho).symm
      obtain ⟨q, d27, hq⟩ : IsRow #[.int .i64 (gt t 20)] 1 3 (vs 27) w1 := hd ⟨27, .data⟩ (by simp) rfl
      clear hd ho
      refine step_open rfl ?_
      go_simp
      refine (line_any (wordB 4) (partL t 4) _ _ _ _ (HT.out.below (B := 0) hbw1) (by decide) (by simp [partL]) (by omega) HP4.out (.inr ⟨q, 0, rfl, lt_some hq, fun i m hm => by rw [cell_at hq, Nat.zero_add]; exact part_get4 hm⟩)).mono ?_
      rintro e w2 ⟨rfl, hb2⟩
      exact ⟨rfl, hb2⟩
    | 29 =>
      intro ho hd
      obtain rfl := (Option.some.inj ho).symm
      clear hd ho
      refine step_open rfl ?_
      go_simp
      exact ⟨rfl, Below.refl _ _⟩
    | 30 =>
      intro ho hd
      obtain rfl := (Option.some.inj ho).symm
      have d29 : vs 29 = (.pointer (some ⟨wb, 21, none⟩)) := hd ⟨29, .data⟩ (by simp) rfl
      clear hd ho
      refine step_open rfl ?_
      have c0 := (cell_at hA1 21).trans (tv_get (getD_some (by omega)))
      go_simp
      exact ⟨rfl, Below.refl _ _⟩
    | 31 =>
      intro ho hd
      obtain rfl := (Option.some.inj ho).symm
      have d30 : vs 30 = (.int .i64 (gt t 21)) := hd ⟨30, .data⟩ (by simp) rfl
      clear hd ho
      refine step_open rfl ?_
      go_simp
      exact ⟨⟨w1.heap.size, rfl, heap_alloc_new _ _⟩, (Below.refl _ _).alloc (Nat.le_refl _) _⟩
    | 32 =>
      intro ho hd
      obtain rfl := (Option.some.inj ho).symm
      obtain ⟨q, d31, hq⟩ : IsRow #[.int .i64 (gt t 21)] 1 3 (vs 31) w1 := hd ⟨31, .data⟩ (by simp) rfl
      clear hd ho
      refine step_open rfl ?_
      go_simp
      refine (line_any (wordB 5) (partL t 5) _ _ _ _ (HT.out.below (B := 0) hbw1) (by decide) (by simp [partL]) (by omega) HP5.out (.inr ⟨q, 0, rfl, lt_some hq, fun i m hm => by rw [cell_at hq, Nat.zero_add]; exact part_get5 hm⟩)).mono ?_
      rintro e w2 ⟨rfl, hb2⟩
      exact ⟨rfl, hb2⟩
    | 33 =>
      intro ho hd
      obtain rfl := (Option.some.inj ho).symm
      have d2 : vs 2 = (.string (lineB t 0)) := hd ⟨2, .data⟩ (by simp) rfl
      have d8 : vs 8 = (.string (lineB t 1)) := hd ⟨8, .data⟩ (by simp) rfl
      have d16 : vs 16 = (.string (lineB t 2)) := hd ⟨16, .data⟩ (by simp) rfl
      have d24 : vs 24 = (.string (lineB t 3)) := hd ⟨24, .data⟩ (by simp) rfl
      have d28 : vs 28 = (.string (lineB t 4)) := hd ⟨28, .data⟩ (by simp) rfl
      have d32 : vs 32 = (.string (lineB t 5)) := hd ⟨32, .data⟩ (by simp) rfl
      clear hd ho
      refine step_open rfl ?_
      go_simp
      exact ⟨⟨w1.heap.size, rfl, heap_alloc_new _ _⟩, (Below.refl _ _).alloc (Nat.le_refl _) _⟩
    | 34 =>
      intro ho hd
      obtain rfl := (Option.some.inj ho).symm
      obtain ⟨q, d33, hq⟩ : IsRow #[.string (lineB t 0), .string (lineB t 1), .string (lineB t 2), .string (lineB t 3), .string (lineB t 4), .string (lineB t 5)] 6 9 (vs 33) w1 := hd ⟨33, .data⟩ (by simp) rfl
      clear hd ho
      refine step_open rfl ?_
      go_simp
      exact ⟨⟨q, rfl, hq⟩, Below.refl _ _⟩
    | n + 35 =>
      intro ho hd
      simp at ho
  · intro vs w1 hb hR
    obtain ⟨q, hv, hq⟩ : IsRow #[.string (lineB t 0), .string (lineB t 1), .string (lineB t 2), .string (lineB t 3), .string (lineB t 4), .string (lineB t 5)] 6 9 (vs 34) w1 := hR 34 (by simp)
    have hbw1 : Below w.heap.size w w1 := by rw [← hW] at hb; exact ((Below.refl w.heap.size w).alloc (Nat.le_refl _) _).trans (hb.mono (by simp))
    generalize hA : putAll vs 0 _ _ = A
    obtain rfl : ({ tmps := #[.agg (tv t), .pointer (some ⟨wb, 0, none⟩), vs 34, vs 0, vs 1, vs 2, vs 3, vs 4, vs 5, vs 6, vs 7, vs 8, vs 9, vs 10, vs 11, vs 12, vs 13, vs 14, vs 15, vs 16, vs 17, vs 18, vs 19, vs 20, vs 21, vs 22, vs 23, vs 24, vs 25, vs 26, vs 27, vs 28, vs 29, vs 30, vs 31, vs 32, vs 33], defers := [] } : Act) = A := by rw [← hA]; kernel_rfl
    clear hA hR hb
    rw [hv]
    go_wp2_with fail
    go_returns
    exact ⟨q, rfl, hq, hbw1⟩
end Go.Proofs.YtgngpanimeigbabDoor
