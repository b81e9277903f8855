/- Plain laws of layouts: sizes of fields that can be are small; a schema that can be has such fields. · Plain: bytes of numbers, rows of values, what fits. -/
import Derived.Test.YtgebbmfoamkfnaaGreatDoorP5
import Derived.Test.YtgebbmfoamkfnaaGreatDoorP7
namespace Go.Proofs.YtgebbmfoamkfnaaGreatDoor
open Go.RowKit
set_option linter.unusedVariables false
theorem w64_id {n : Int} (h0 : -9223372036854775808 ≤ n) (h1 : n ≤ 9223372036854775807) : wrap64 n = n := by
  unfold wrap64; omega
theorem upF_eq {a s : Int} (h0 : 0 ≤ a) (h1 : a ≤ 100000) (h2 : 1 ≤ s) (h3 : s ≤ 8) : upF a s = (a + s - 1) / s * s ∧ a ≤ upF a s ∧ upF a s ≤ a + 7 := by
  have e : upF a s = (a + s - 1) / s * s := by
    unfold upF
    rw [w64_id (n := a + s) (by omega) (by omega), w64_id (n := a + s - 1) (by omega) (by omega), Int.tdiv_eq_ediv_of_nonneg (by omega)]
    rcases (by omega : s = 1 ∨ s = 2 ∨ s = 3 ∨ s = 4 ∨ s = 5 ∨ s = 6 ∨ s = 7 ∨ s = 8) with rfl | rfl | rfl | rfl | rfl | rfl | rfl | rfl <;> (rw [w64_id (n := _ / _) (by omega) (by omega), w64_id (by omega) (by omega)])
  rw [e]
  refine ⟨rfl, ?_⟩
  rcases (by omega : s = 1 ∨ s = 2 ∨ s = 3 ∨ s = 4 ∨ s = 5 ∨ s = 6 ∨ s = 7 ∨ s = 8) with rfl | rfl | rfl | rfl | rfl | rfl | rfl | rfl <;> omega
theorem fldOk_bd {f : Fld} (h : fldOk f = true) : 1 ≤ kSize f.kind ∧ kSize f.kind ≤ 8 ∧ 1 ≤ f.count ∧ f.count ≤ 8 := by
  have := (kSize_bd f.kind).2
  simp [fldOk] at h
  omega
theorem planStep_bd {p : List Int × Int × Int} {f : Fld} (h : fldOk f = true) (h0 : 0 ≤ p.2.1) (h1 : p.2.1 ≤ 10000) (h2 : 1 ≤ p.2.2) (h3 : p.2.2 ≤ 8) :
    (planStep p f).2.1 = upF p.2.1 (kSize f.kind) + kSize f.kind * f.count ∧ 0 ≤ (planStep p f).2.1 ∧ (planStep p f).2.1 ≤ p.2.1 + 71 ∧ 1 ≤ (planStep p f).2.2 ∧ (planStep p f).2.2 ≤ 8 := by
  obtain ⟨k1, k2, c1, c2⟩ := fldOk_bd h
  have hu := upF_eq h0 (by omega) k1 k2
  have hm : 1 ≤ kSize f.kind * f.count ∧ kSize f.kind * f.count ≤ 64 := by
    generalize kSize f.kind = s at *
    rcases (by omega : s = 1 ∨ s = 2 ∨ s = 3 ∨ s = 4 ∨ s = 5 ∨ s = 6 ∨ s = 7 ∨ s = 8) with rfl | rfl | rfl | rfl | rfl | rfl | rfl | rfl <;> omega
  have e : (planStep p f).2.1 = upF p.2.1 (kSize f.kind) + kSize f.kind * f.count := by
    unfold planStep
    simp only
    rw [w64_id (n := kSize f.kind * f.count) (by omega) (by omega), w64_id (by omega) (by omega)]
  have e2 : (planStep p f).2.2 = max p.2.2 (kSize f.kind) := rfl
  rw [e, e2]
  refine ⟨rfl, by omega, by omega, by omega, by omega⟩
theorem planF_bd : ∀ (fs : List Fld), fs.all fldOk = true → ∀ p : List Int × Int × Int, 0 ≤ p.2.1 → p.2.1 + 71 * fs.length ≤ 10000 → 1 ≤ p.2.2 → p.2.2 ≤ 8 →
    0 ≤ (fs.foldl planStep p).2.1 ∧ (fs.foldl planStep p).2.1 ≤ p.2.1 + 71 * fs.length ∧ 1 ≤ (fs.foldl planStep p).2.2 ∧ (fs.foldl planStep p).2.2 ≤ 8
  | [], _, p, h0, h1, h2, h3 => ⟨h0, by simp, h2, h3⟩
  | f :: r, h, p, h0, h1, h2, h3 => by
    rw [List.all_cons, Bool.and_eq_true] at h
    rw [List.length_cons] at h1 ⊢
    obtain ⟨_, b1, b2, b3, b4⟩ := planStep_bd h.1 h0 (by omega) h2 h3
    have := planF_bd r h.2 (planStep p f) b1 (by omega) b3 b4
    rw [List.foldl_cons]
    omega
theorem layCheck_zero {fs : List Fld} (h : layCheck fs = 0) : fs.length ≤ 8 ∧ fs.all fldOk = true ∧ planSize fs ≤ 256 := by
  unfold layCheck at h
  split at h
  · cases h
  · split at h
    · split at h
      · cases h
      · rename_i a b c
        exact ⟨by omega, b, by omega⟩
    · cases h
theorem plan_bd {fs : List Fld} (h8 : fs.length ≤ 8) (h : fs.all fldOk = true) : 0 ≤ (planF fs).2.1 ∧ (planF fs).2.1 ≤ 568 ∧ 1 ≤ (planF fs).2.2 ∧ (planF fs).2.2 ≤ 8 := by
  have := planF_bd fs h ([], 0, 1) (by simp) (by simp; omega) (by simp) (by simp)
  unfold planF
  simp only at this
  omega
theorem planSize_bd {fs : List Fld} (h8 : fs.length ≤ 8) (h : fs.all fldOk = true) : 0 ≤ planSize fs ∧ planSize fs ≤ 575 := by
  obtain ⟨a, b, c, d⟩ := plan_bd h8 h
  have := upF_eq a (by omega) c d
  unfold planSize
  omega
theorem col_ok {fs : List Fld} (h : layCheck fs = 0) {most : Int} (h1 : 1 ≤ most) (h2 : most ≤ 256) : colOk (layPlanOf fs) most = true := by
  obtain ⟨a, b, c⟩ := layCheck_zero h
  have := planSize_bd a b
  unfold layPlanOf
  rw [if_pos h]
  simp [colOk]
  omega
theorem findC_mem {id : Int} {c : Cmp} : ∀ {cs : List Cmp}, findC id cs = some c → c ∈ cs := by
  intro cs h
  obtain ⟨j, _, hj⟩ := idxF_some cs 0 h
  exact List.mem_of_getElem? hj
theorem compsGo_lay : ∀ (cs : List Cmp) (last : Int) (seen : List (List UInt8)), compsGo last seen cs = 0 → ∀ c ∈ cs, layCheck c.fields = 0
  | [], _, _, _, c, hc => by simp at hc
  | x :: r, last, seen, h, c, hc => by
    unfold compsGo at h
    split at h
    · cases h
    · split at h
      · cases h
      · split at h
        · rename_i h3; exact absurd h h3
        · rename_i h1 h2 h3
          rcases List.mem_cons.1 hc with rfl | hc
          · have h4 : fieldsF c.fields = 0 := by
              rcases (by omega : fieldsF c.fields = 0 ∨ fieldsF c.fields ≠ 0) with h | h
              · exact h
              · exact absurd h h3
            unfold fieldsF at h4
            split at h4
            · exact h4
            · cases h4
          · exact compsGo_lay r _ _ h c hc
theorem schema_lay {ver : Int} {cs : List Cmp} (h : schemaCheck ver cs = 0) : ∀ c ∈ cs, layCheck c.fields = 0 := by
  unfold schemaCheck at h
  split at h
  · cases h
  · exact compsGo_lay cs _ _ h
end Go.Proofs.YtgebbmfoamkfnaaGreatDoor
namespace Go.Proofs.YtgebbmfoamkfnaaGreatDoor
open Go.RowKit
set_option linter.unusedVariables false
/-- Bytes of a number, little end first. -/
def leB (n : Nat) : Nat → List UInt8
  | 0 => []
  | k + 1 => leB n k ++ [UInt8.ofNat (n / 256 ^ k)]
theorem leB_len (n k : Nat) : (leB n k).length = k := by
  induction k with
  | zero => rfl
  | succ k ih => simp [leB, ih]
/-- Bytes of an element. -/
def putN (k : Int) (x : WI) : Nat := (x.val % 2 ^ (8 * (kSize k).toNat)).toNat
def putB (k : Int) (x : WI) : List UInt8 := leB (putN k x) (kSize k).toNat
theorem putB_len (k : Int) (x : WI) : (putB k x).length = (kSize k).toNat := leB_len _ _
/-- Noughts up to a length. -/
def padB (l : List UInt8) (n : Nat) : List UInt8 := l ++ List.replicate (n - l.length) 0
theorem padB_len {l : List UInt8} {n : Nat} (h : l.length ≤ n) : (padB l n).length = n := by simp [padB]; omega
def cnt (fs : List Fld) : Nat := (fs.map (·.count.toNat)).sum
theorem cnt_snoc (fs : List Fld) (f : Fld) : cnt (fs ++ [f]) = cnt fs + f.count.toNat := by simp [cnt]
theorem cnt_cons (fs : List Fld) (f : Fld) : cnt (f :: fs) = f.count.toNat + cnt fs := by simp [cnt]
def packStep (s : (List Int × Int × Int) × List UInt8 × List WI) (f : Fld) : (List Int × Int × Int) × List UInt8 × List WI :=
  (planStep s.1 f, padB s.2.1 (upF s.1.2.1 (kSize f.kind)).toNat ++ (s.2.2.take f.count.toNat).flatMap (putB f.kind), s.2.2.drop f.count.toNat)
def packPre (fs : List Fld) (val : List WI) : (List Int × Int × Int) × List UInt8 × List WI := fs.foldl packStep (([], 0, 1), [], val)
/-- The row of a value. -/
def packF (fs : List Fld) (val : List WI) : List UInt8 := padB (packPre fs val).2.1 (planSize fs).toNat
theorem packPre_snoc (fs : List Fld) (f : Fld) (val : List WI) : packPre (fs ++ [f]) val = packStep (packPre fs val) f := by simp [packPre]
theorem packFold_fst (fs : List Fld) : ∀ q : (List Int × Int × Int) × List UInt8 × List WI, (fs.foldl packStep q).1 = fs.foldl planStep q.1 := by
  induction fs with
  | nil => intro q; rfl
  | cons f r ih => intro q; rw [List.foldl_cons, List.foldl_cons, ih]; rfl
theorem packPre_fst (fs : List Fld) (val : List WI) : (packPre fs val).1 = planF fs := packFold_fst fs _
theorem planFold_pre (l : List Fld) : ∀ p : List Int × Int × Int, ∃ t, (l.foldl planStep p).1 = p.1 ++ t := by
  induction l with
  | nil => intro p; exact ⟨[], by simp⟩
  | cons f r ih => intro p; obtain ⟨t, ht⟩ := ih (planStep p f); exact ⟨upF p.2.1 (kSize f.kind) :: t, by rw [List.foldl_cons, ht]; simp [planStep]⟩
theorem planF_split (fs : List Fld) (k : Nat) : planF fs = (fs.drop k).foldl planStep (planF (fs.take k)) := by
  rw [planF, planF, ← List.foldl_append, List.take_append_drop]
theorem plan_at {fs : List Fld} {k : Nat} {f : Fld} (h : fs[k]? = some f) : (planF fs).1[k]? = some (upF (planF (fs.take k)).2.1 (kSize f.kind)) := by
  have hk : k < fs.length := (List.getElem?_eq_some_iff.1 h).1
  rw [planF_split fs (k + 1), take_snoc h, planF_snoc]
  obtain ⟨t, ht⟩ := planFold_pre (fs.drop (k + 1)) (planStep (planF (fs.take k)) f)
  rw [ht]
  have hl : (planF (fs.take k)).1.length = k := by rw [planF_len, List.length_take]; omega
  simp only [planStep]
  rw [List.append_assoc, List.getElem?_append_right (by omega), hl]
  simp
theorem flat_len (k : Int) (l : List WI) : (l.flatMap (putB k)).length = l.length * (kSize k).toNat := by
  induction l with
  | nil => simp
  | cons x r ih => rw [List.flatMap_cons, List.length_append, ih, putB_len, List.length_cons, Nat.succ_mul]; omega
theorem all_take {α : Type} {p : α → Bool} {l : List α} (h : l.all p = true) (k : Nat) : (l.take k).all p = true := by
  rw [List.all_eq_true] at h ⊢
  exact fun x hx => h x (List.mem_of_mem_take hx)
theorem pack_len : ∀ (n : Nat) (fs : List Fld), fs.length = n → n ≤ 8 → fs.all fldOk = true → ∀ val : List WI, cnt fs ≤ val.length →
    (packPre fs val).2.1.length = (planF fs).2.1.toNat ∧ (packPre fs val).2.2 = val.drop (cnt fs) := by
  intro n
  induction n with
  | zero =>
    intro fs hl _ _ val _
    obtain rfl := List.eq_nil_of_length_eq_zero hl
    exact ⟨rfl, rfl⟩
  | succ n ih =>
    intro fs hl h8 ha val hv
    rcases List.eq_nil_or_concat fs with rfl | ⟨r, f, rfl⟩
    · simp at hl
    · rw [List.concat_eq_append] at *
      have hlr : r.length = n := by simpa using hl
      rw [List.all_append, Bool.and_eq_true] at ha
      rw [cnt_snoc] at hv ⊢
      obtain ⟨i1, i2⟩ := ih r hlr (by omega) ha.1 val (by omega)
      have hf : fldOk f = true := by simpa using ha.2
      obtain ⟨k1, k2, c1, c2⟩ := fldOk_bd hf
      obtain ⟨b0, b1, b2, b3⟩ := plan_bd (by omega) ha.1
      obtain ⟨u1, u2, u3⟩ := upF_eq b0 (by omega) k1 k2
      obtain ⟨s1, s2, s3, s4, s5⟩ := planStep_bd hf b0 (by omega) b2 b3
      rw [packPre_snoc, planF_snoc, s1]
      simp only [packStep]
      rw [i2, packPre_fst]
      refine ⟨?_, by rw [List.drop_drop]⟩
      rw [List.length_append, padB_len (by omega), flat_len, List.length_take, List.length_drop, Nat.min_eq_left (by omega), Int.toNat_add (by omega) (Int.mul_nonneg (by omega) (by omega)), Int.toNat_mul (by omega) (by omega), Nat.mul_comm]
theorem packF_len {fs : List Fld} (h : layCheck fs = 0) {val : List WI} (hv : cnt fs ≤ val.length) : (packF fs val).length = (planSize fs).toNat := by
  obtain ⟨h8, ha, _⟩ := layCheck_zero h
  obtain ⟨b0, b1, b2, b3⟩ := plan_bd h8 ha
  obtain ⟨u1, u2, u3⟩ := upF_eq b0 (by omega) b2 b3
  unfold packF
  rw [padB_len]
  rw [(pack_len _ fs rfl h8 ha val hv).1]
  unfold planSize
  omega
/-- Whether a value fits. -/
def fitGo : List Fld → List WI → Int
  | [], _ => 0
  | f :: r, v => if (v.take f.count.toNat).all (fitsF f.kind) then fitGo r (v.drop f.count.toNat) else 3
def fitF (fs : List Fld) (val : List WI) : Int := if layCheck fs ≠ 0 then layCheck fs else if val.length ≠ cnt fs then 4 else fitGo fs val
end Go.Proofs.YtgebbmfoamkfnaaGreatDoor
