/- Contract of (Sig).Ids. -/
import Derived.Test.YtoadihebdaooaaaGreatB1
namespace Go.Proofs.YtoadihebdaooaaaGreat
open Go.RowKit
set_option linter.unusedVariables false

def idsTo (s : Int) (m : Nat) : List Int := ((List.range m).map fun (j : Nat) => (j : Int) + 1).filter fun i => hasB s i
theorem idsTo_succ (s : Int) (m : Nat) : idsTo s (m + 1) = idsTo s m ++ if hasB s ((m : Int) + 1) then [(m : Int) + 1] else [] := by
  unfold idsTo
  rw [List.range_succ, List.map_append, List.filter_append]
  simp [List.filter_cons]
theorem idsTo_len (s : Int) (m : Nat) : (idsTo s m).length ≤ m := by
  unfold idsTo
  have := List.length_filter_le (fun i => hasB s i) ((List.range m).map fun (j : Nat) => (j : Int) + 1)
  simpa using this
theorem idsTo_bd (s : Int) (m : Nat) : ∀ i ∈ idsTo s m, 1 ≤ i ∧ i ≤ m := by
  intro i hi
  unfold idsTo at hi
  obtain ⟨h1, _⟩ := List.mem_filter.1 hi
  obtain ⟨j, hj, rfl⟩ := List.mem_map.1 h1
  have := List.mem_range.1 hj
  omega
/-- The answer of 'Ids'. -/
def IsIds (s : Int) (w : World) (e : Ending) (w' : World) : Prop :=
  ∃ va n vc, e = .returned (.slice va n vc) ∧ n = (idsTo s 24).length ∧ w'.ownsRow w.heap.size 3 1 (.slice va n vc) n ((idsTo s 24).map (.int .i64)) ∧ Below w.heap.size w w'

set_option maxRecDepth 100000 in
set_option maxHeartbeats 1000000 in
theorem ids_any (s : Int) (w : World) (h0 : 0 ≤ s) (hs : s ≤ 4294967295) : Calls Tryz.prog 75 #[.int .u32 s] w (IsIds s w) := by
  obtain ⟨i0, hi, hz0, hz1, hz2⟩ := info_parts Tryz.info3
  go_enter Tryz.func75, Tryz.ntmps75
  go_wp2_with fail
  go_loopw [3, 4] (fun v i wr => ∃ (k : Nat) (va : Option Addr) (n vc : Nat), k ≤ 24 ∧ i = .int .i64 ((k : Int) + 1) ∧ v = .slice va n vc ∧ n = (idsTo s k).length ∧ n ≤ 24 ∧ wr.ownsRow w.heap.size 3 1 (.slice va n vc) n ((idsTo s k).map (.int .i64)) ∧ Below w.heap.size w wr)
    (fun _ i _ => 30 - (intOf i).toNat)
  case atStart => exact ⟨0, none, 0, 0, by omega, rfl, rfl, rfl, by omega, World.ownsRow_nil _ _ _ _, Below.refl _ _⟩
  case round =>
    obtain ⟨k, va, n, vc, hk, rfl, rfl, hn, hn24, hown, hbw⟩ := hrel
    have hzr := hbw.size
    by_cases hlt : k < 24
    · have hd1 : decide ((k : Int) + 1 ≤ 24) = true := by simp; omega
      have hsuc := Lib.hid (idsTo_succ s k)
      have HN := Lib.hid hn
      clear hn
      have hlen := idsTo_len s (k + 1)
      have HLEN := Lib.hid hlen
      clear hlen
      go_wp2_with fail
      refine (has_any _ _ _ h0 hs).mono ?_
      rintro e w' ⟨rfl, rfl⟩
      cases hh : hasB s ((k : Int) + 1)
      · have HS : Hid (idsTo s (k + 1) = idsTo s k) := Lib.hid (by rw [hsuc.out, hh]; simp)
        clear hh
        go_wp2_with fail
        go_roundw
        case rel => exact ⟨k + 1, va, n, vc, by omega, by go_num, rfl, by rw [HS.out]; exact HN.out, hn24, by rw [HS.out]; exact hown, hbw⟩
        case measure => simp [intOf]; omega
      · have HS : Hid (idsTo s (k + 1) = idsTo s k ++ [(k : Int) + 1]) := Lib.hid (by rw [hsuc.out, hh]; simp)
        clear hh
        have hn24' : n + 1 ≤ 24 := by have := HLEN.out; rw [HS.out] at this; simp at this; have := HN.out; omega
        have hownA := hown.alloc (.cells #[.int .i64 ((k : Int) + 1)] 3)
        go_wp2_with (at_builtin; go_loud (refine wpList_append_own _ rfl (.tmp 12) (.tmp 14) 95 rfl w.heap.size 3 i0 (.int .i64 0) 1 8 Tryz.underlying95 hi hz0 hz1 hz2 rfl (by decide) (.slice va n vc) n ((idsTo s k).map (.int .i64)) rfl hownA ⟨wr.heap.size, 0, none⟩ 1 1 [.int .i64 ((k : Int) + 1)] rfl rfl (cell_one_new _ _ _) (ints_oneCell .i64 [(k : Int) + 1]) (by unfold maxLen; omega) (by omega) (by simp; omega) ?_))
        intro v' w2 hown2 hg2 _
        obtain ⟨va', vc', hv'⟩ := ownsRow_slice hown2
        rw [hv'] at hown2 ⊢
        clear hv'
        have hrow : ∀ x, (Value.slice va n vc).ownBlock = some x → w.heap.size ≤ x := fun x hx => (hown.lt x hx).1
        have hbel : Below w.heap.size w w2 := (hbw.alloc hzr _).grown hg2 (by simp; omega) hrow
        have HO := Lib.hid hown2
        clear hown2 hown hownA hg2 hrow
        go_wp2_with fail
        go_roundw
        case rel => exact ⟨k + 1, va', n + 1, vc', by omega, by go_num, rfl, by rw [HS.out]; simp; exact HN.out, hn24', by rw [HS.out, List.map_append]; exact HO.out, hbel⟩
        case measure => simp [intOf]; omega
    · obtain rfl : k = 24 := by omega
      have hd1 : decide (((24 : Nat) : Int) + 1 ≤ 24) = false := by simp
      have HN := Lib.hid hn
      clear hn
      go_wp2_with fail
      go_returns
      exact ⟨va, n, vc, rfl, HN.out, hown, hbw⟩
end Go.Proofs.YtoadihebdaooaaaGreat
