/- Contract of the law's 'awake'. -/
import Derived.Test.YtgngpanimeigbabDoorT3
import Derived.Test.YtgngpanimeigbabDoorT4
import Derived.Test.YtgngpanimeigbabDoorT6
namespace Go.Proofs.YtgngpanimeigbabDoor
open Go.RowKit
set_option linter.unusedVariables false

theorem flatMap_get {α : Type} {f : α → List Value} {s : Nat} : ∀ (l : List α) (i j : Nat) (x : α), (∀ y ∈ l, (f y).length = s) → l[i]? = some x → j < s → (l.flatMap f)[i * s + j]? = (f x)[j]?
  | [], _, _, _, _, h, _ => by simp at h
  | y :: r, 0, j, x, hs, h, hj => by
    simp at h
    subst h
    rw [List.flatMap_cons, Nat.zero_mul, Nat.zero_add, List.getElem?_append_left (by rw [hs y (by simp)]; exact hj)]
  | y :: r, i + 1, j, x, hs, h, hj => by
    rw [List.flatMap_cons, List.getElem?_append_right (by rw [hs y (by simp), Nat.succ_mul]; omega), hs y (by simp), show (i + 1) * s + j - s = i * s + j by rw [Nat.succ_mul]; omega]
    exact flatMap_get r i j x (fun z hz => hs z (by simp [hz])) (by simpa using h) hj
def opL (k : Int) : List Value := (opArr k 0 0 none 0 0 0 0 0 0 0 none 0 0 0 ByteArray.empty).toList
def recL (x : Mk × Option Addr × Nat) : List Value := (recArr x.1.code 0 none 0 0 none 0 0 x.1.done x.1.failed x.2.1 x.1.sn x.2.2 0 x.1.ver false x.1.rows 0 0).toList
theorem ops_of_row {w : World} {B : Nat} {a : Option Addr} {n c : Nat} {ks : List Int} (h : w.ownsRow B 48 12 (.slice a n c) n (ks.flatMap opL)) (hl : ks.length = n) (hn : n ≤ 1000000) : OpsAt w.heap.size w a n ks := by
  refine ⟨hl, hn, ?_⟩
  by_cases h0 : n = 0
  · exact .inl h0
  · obtain ⟨q, rfl, hB, hq, hc⟩ := row_block h (by omega)
    refine .inr ⟨q, 0, rfl, hq, fun i k hk => ⟨0, 0, none, 0, 0, 0, 0, 0, 0, 0, none, 0, 0, 0, ByteArray.empty, fun j u hj => ?_⟩⟩
    have hjl : j < 12 := (Array.getElem?_eq_some_iff.1 hj).1
    rw [show 0 + i * 12 + j = i * 12 + j by omega]
    refine hc _ u ?_
    rw [flatMap_get (f := opL) (s := 12) ks i j k (fun y _ => rfl) hk hjl]
    simpa [opL] using hj
theorem recs_of_row {w : World} {B : Nat} {a : Option Addr} {n c : Nat} {rs : List (Mk × Option Addr × Nat)} (h : w.ownsRow B 70 13 (.slice a n c) n (rs.flatMap recL)) (hl : rs.length = n) (hn : n ≤ 1000000) (hs : ∀ x ∈ rs, x.1.sn ≤ maxLen) : RecsAt w.heap.size w a n (rs.map (·.1)) := by
  refine ⟨by simpa using hl, hn, ?_⟩
  by_cases h0 : n = 0
  · exact .inl h0
  · obtain ⟨q, rfl, hB, hq, hc⟩ := row_block h (by omega)
    refine .inr ⟨q, 0, rfl, hq, fun i m hm => ?_⟩
    rw [List.getElem?_map] at hm
    cases hx : rs[i]? with
    | none => rw [hx] at hm; cases hm
    | some x =>
      rw [hx] at hm
      cases hm
      refine ⟨hs x (List.mem_of_getElem? hx), 0, none, 0, 0, none, 0, 0, x.2.1, x.2.2, 0, false, 0, 0, fun j u hj => ?_⟩
      have hjl : j < 13 := (Array.getElem?_eq_some_iff.1 hj).1
      rw [show 0 + i * 13 + j = i * 13 + j by omega]
      refine hc _ u ?_
      rw [flatMap_get (f := recL) (s := 13) rs i j x (fun y _ => rfl) hx hjl]
      simpa [recL] using hj

def mkA : Mk := ⟨10, 0, 0, 0, 0, 3, 2⟩
def mkB : Mk := ⟨12, 1, 0, 0, 0, 0, 2⟩
def awT : List Int := ofF [mkA, mkB]
theorem awT_eq : awT = [1, 0, 0, 0, 0, 0, 0, 0, 0, 0, 1, 0, 1, 1, 0, 0, 0, 1, 0, 0, 3, 2] := by decide +kernel
theorem aw_join : gt (joinF awT awT) 12 = 2 := by rw [awT_eq]; decide +kernel
theorem it0 : Lib.itoa 0 = [48] := by simp [Lib.itoa, Lib.decDigits_one]
theorem it1 : Lib.itoa 1 = [49] := by simp [Lib.itoa, Lib.decDigits_one]
theorem aw_l0 : lineB awT 0 = ⟨#[107, 105, 110, 100, 115, 32, 49, 32, 48, 32, 48, 32, 48, 32, 48, 32, 48, 32, 48, 32, 48, 32, 48, 32, 48, 32, 49, 32, 48]⟩ := by
  unfold lineB lineF
  rw [awT_eq]
  simp [partL, wordB, it0, it1, Lib.join, List.intercalate]
theorem aw_l3 : lineB awT 3 = ⟨#[117, 112, 103, 114, 97, 100, 101, 115, 32, 49, 32, 48, 32, 48]⟩ := by
  unfold lineB lineF
  rw [awT_eq]
  simp [partL, wordB, gt, it0, it1, Lib.join, List.intercalate]
end Go.Proofs.YtgngpanimeigbabDoor
