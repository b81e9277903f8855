/- Plain laws of layouts: sizes of fields that can be are small; a schema that can be has such fields. -/
import Derived.Test.YtoadihebdaooaaaGreatB2
namespace Go.Proofs.YtoadihebdaooaaaGreat
open Go.RowKit
set_option linter.unusedVariables false
theorem w64_id {n : Int} (h0 : -9223372036854775808 ≤ n) (h1 : n ≤ 9223372036854775807) : wrap64 n = n := by
  unfold wrap64; omega
theorem upF_eq {a s : Int} (h0 : 0 ≤ a) (h1 : a ≤ 100000) (h2 : 1 ≤ s) (h3 : s ≤ 8) : upF a s = (a + s - 1) / s * s ∧ a ≤ upF a s ∧ upF a s ≤ a + 7 := by
  have e : upF a s = (a + s - 1) / s * s := by
    unfold upF
    rw [w64_id (n := a + s) (by omega) (by omega), w64_id (n := a + s - 1) (by omega) (by omega), Int.tdiv_eq_ediv_of_nonneg (by omega)]
    rcases (by omega : s = 1 ∨ s = 2 ∨ s = 3 ∨ s = 4 ∨ s = 5 ∨ s = 6 ∨ s = 7 ∨ s = 8) with rfl | rfl | rfl | rfl | rfl | rfl | rfl | rfl <;> (rw [w64_id (n := _ / _) (by omega) (by omega), w64_id (by omega) (by omega)])
  rw [e]
  refine ⟨rfl, ?_⟩
  rcases (by omega : s = 1 ∨ s = 2 ∨ s = 3 ∨ s = 4 ∨ s = 5 ∨ s = 6 ∨ s = 7 ∨ s = 8) with rfl | rfl | rfl | rfl | rfl | rfl | rfl | rfl <;> omega
theorem fldOk_bd {f : Fld} (h : fldOk f = true) : 1 ≤ kSize f.kind ∧ kSize f.kind ≤ 8 ∧ 1 ≤ f.count ∧ f.count ≤ 8 := by
  have := (kSize_bd f.kind).2
  simp [fldOk] at h
  omega
theorem planStep_bd {p : List Int × Int × Int} {f : Fld} (h : fldOk f = true) (h0 : 0 ≤ p.2.1) (h1 : p.2.1 ≤ 10000) (h2 : 1 ≤ p.2.2) (h3 : p.2.2 ≤ 8) :
    (planStep p f).2.1 = upF p.2.1 (kSize f.kind) + kSize f.kind * f.count ∧ 0 ≤ (planStep p f).2.1 ∧ (planStep p f).2.1 ≤ p.2.1 + 71 ∧ 1 ≤ (planStep p f).2.2 ∧ (planStep p f).2.2 ≤ 8 := by
  obtain ⟨k1, k2, c1, c2⟩ := fldOk_bd h
  have hu := upF_eq h0 (by omega) k1 k2
  have hm : 1 ≤ kSize f.kind * f.count ∧ kSize f.kind * f.count ≤ 64 := by
    generalize kSize f.kind = s at *
    rcases (by omega : s = 1 ∨ s = 2 ∨ s = 3 ∨ s = 4 ∨ s = 5 ∨ s = 6 ∨ s = 7 ∨ s = 8) with rfl | rfl | rfl | rfl | rfl | rfl | rfl | rfl <;> omega
  have e : (planStep p f).2.1 = upF p.2.1 (kSize f.kind) + kSize f.kind * f.count := by
    unfold planStep
    simp only
    rw [w64_id (n := kSize f.kind * f.count) (by omega) (by omega), w64_id (by omega) (by omega)]
  have e2 : (planStep p f).2.2 = max p.2.2 (kSize f.kind) := rfl
  rw [e, e2]
  refine ⟨rfl, by omega, by omega, by omega, by omega⟩
theorem planF_bd : ∀ (fs : List Fld), fs.all fldOk = true → ∀ p : List Int × Int × Int, 0 ≤ p.2.1 → p.2.1 + 71 * fs.length ≤ 10000 → 1 ≤ p.2.2 → p.2.2 ≤ 8 →
    0 ≤ (fs.foldl planStep p).2.1 ∧ (fs.foldl planStep p).2.1 ≤ p.2.1 + 71 * fs.length ∧ 1 ≤ (fs.foldl planStep p).2.2 ∧ (fs.foldl planStep p).2.2 ≤ 8
  | [], _, p, h0, h1, h2, h3 => ⟨h0, by simp, h2, h3⟩
  | f :: r, h, p, h0, h1, h2, h3 => by
    rw [List.all_cons, Bool.and_eq_true] at h
    rw [List.length_cons] at h1 ⊢
    obtain ⟨_, b1, b2, b3, b4⟩ := planStep_bd h.1 h0 (by omega) h2 h3
    have := planF_bd r h.2 (planStep p f) b1 (by omega) b3 b4
    rw [List.foldl_cons]
    omega
theorem layCheck_zero {fs : List Fld} (h : layCheck fs = 0) : fs.length ≤ 8 ∧ fs.all fldOk = true ∧ planSize fs ≤ 256 := by
  unfold layCheck at h
  split at h
  · cases h
  · split at h
    · split at h
      · cases h
      · rename_i a b c
        exact ⟨by omega, b, by omega⟩
    · cases h
theorem plan_bd {fs : List Fld} (h8 : fs.length ≤ 8) (h : fs.all fldOk = true) : 0 ≤ (planF fs).2.1 ∧ (planF fs).2.1 ≤ 568 ∧ 1 ≤ (planF fs).2.2 ∧ (planF fs).2.2 ≤ 8 := by
  have := planF_bd fs h ([], 0, 1) (by simp) (by simp; omega) (by simp) (by simp)
  unfold planF
  simp only at this
  omega
theorem planSize_bd {fs : List Fld} (h8 : fs.length ≤ 8) (h : fs.all fldOk = true) : 0 ≤ planSize fs ∧ planSize fs ≤ 575 := by
  obtain ⟨a, b, c, d⟩ := plan_bd h8 h
  have := upF_eq a (by omega) c d
  unfold planSize
  omega
theorem col_ok {fs : List Fld} (h : layCheck fs = 0) {most : Int} (h1 : 1 ≤ most) (h2 : most ≤ 256) : colOk (layPlanOf fs) most = true := by
  obtain ⟨a, b, c⟩ := layCheck_zero h
  have := planSize_bd a b
  unfold layPlanOf
  rw [if_pos h]
  simp [colOk]
  omega
theorem findC_mem {id : Int} {c : Cmp} : ∀ {cs : List Cmp}, findC id cs = some c → c ∈ cs := by
  intro cs h
  obtain ⟨j, _, hj⟩ := idxF_some cs 0 h
  exact List.mem_of_getElem? hj
theorem compsGo_lay : ∀ (cs : List Cmp) (last : Int) (seen : List (List UInt8)), compsGo last seen cs = 0 → ∀ c ∈ cs, layCheck c.fields = 0
  | [], _, _, _, c, hc => by simp at hc
  | x :: r, last, seen, h, c, hc => by
    unfold compsGo at h
    split at h
    · cases h
    · split at h
      · cases h
      · split at h
        · rename_i h3; exact absurd h h3
        · rename_i h1 h2 h3
          rcases List.mem_cons.1 hc with rfl | hc
          · have h4 : fieldsF c.fields = 0 := by
              rcases (by omega : fieldsF c.fields = 0 ∨ fieldsF c.fields ≠ 0) with h | h
              · exact h
              · exact absurd h h3
            unfold fieldsF at h4
            split at h4
            · exact h4
            · cases h4
          · exact compsGo_lay r _ _ h c hc
theorem schema_lay {ver : Int} {cs : List Cmp} (h : schemaCheck ver cs = 0) : ∀ c ∈ cs, layCheck c.fields = 0 := by
  unfold schemaCheck at h
  split at h
  · cases h
  · exact compsGo_lay cs _ _ h
end Go.Proofs.YtoadihebdaooaaaGreat
