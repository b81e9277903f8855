/- WorldBack: the walk of the law. -/
import Derived.Test.YthmpknlgkflhiabGreatQ46
import Derived.Test.YthmpknlgkflhiabGreatQ47
import Derived.StillTailTactics
namespace Go.Proofs.YthmpknlgkflhiabGreat
open Go.RowKit
set_option linter.unusedVariables false
theorem sigs_at {w : World} {va : Option Addr} {n vc B : Nat} {l : List Int} (h : w.ownsRow B 57 1 (.slice va n vc) n (l.map (.int .u32))) (hl : l.length = n) {k : Nat} (hk : k < n) : ∃ q s, va = some ⟨q, 0, none⟩ ∧ q < w.heap.size ∧ l[k]? = some s ∧ w.cell? ⟨q, k, none⟩ = some (.int .u32 s) := by
 obtain ⟨q, hq, _, hlt, hc⟩ := row_block h (by omega)
 exact ⟨q, _, hq, hlt, List.getElem?_eq_getElem (by omega), hc k _ (by rw [List.getElem?_map, List.getElem?_eq_getElem (by omega)]; rfl)⟩
theorem great18_len {cs : List Cmp} (h : great18B cs = false) : cs.length ≤ 30 := by
 unfold great18B at h
 rw [Bool.or_eq_false_iff] at h
 simpa using h.1
end Go.Proofs.YthmpknlgkflhiabGreat
