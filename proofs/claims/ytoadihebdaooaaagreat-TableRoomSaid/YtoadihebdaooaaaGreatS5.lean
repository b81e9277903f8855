/- Plain: bytes of numbers, rows of values, what fits. -/
import Derived.Test.YtoadihebdaooaaaGreatS4
import Derived.Test.YtoadihebdaooaaaGreatA10
namespace Go.Proofs.YtoadihebdaooaaaGreat
open Go.RowKit
set_option linter.unusedVariables false
/-- Bytes of a number, little end first. -/
def leB (n : Nat) : Nat → List UInt8
  | 0 => []
  | k + 1 => leB n k ++ [UInt8.ofNat (n / 256 ^ k)]
theorem leB_len (n k : Nat) : (leB n k).length = k := by
  induction k with
  | zero => rfl
  | succ k ih => simp [leB, ih]
/-- Bytes of an element. -/
def putN (k : Int) (x : WI) : Nat := (x.val % 2 ^ (8 * (kSize k).toNat)).toNat
def putB (k : Int) (x : WI) : List UInt8 := leB (putN k x) (kSize k).toNat
theorem putB_len (k : Int) (x : WI) : (putB k x).length = (kSize k).toNat := leB_len _ _
/-- Noughts up to a length. -/
def padB (l : List UInt8) (n : Nat) : List UInt8 := l ++ List.replicate (n - l.length) 0
theorem padB_len {l : List UInt8} {n : Nat} (h : l.length ≤ n) : (padB l n).length = n := by simp [padB]; omega
def cnt (fs : List Fld) : Nat := (fs.map (·.count.toNat)).sum
theorem cnt_snoc (fs : List Fld) (f : Fld) : cnt (fs ++ [f]) = cnt fs + f.count.toNat := by simp [cnt]
theorem cnt_cons (fs : List Fld) (f : Fld) : cnt (f :: fs) = f.count.toNat + cnt fs := by simp [cnt]
def packStep (s : (List Int × Int × Int) × List UInt8 × List WI) (f : Fld) : (List Int × Int × Int) × List UInt8 × List WI :=
  (planStep s.1 f, padB s.2.1 (upF s.1.2.1 (kSize f.kind)).toNat ++ (s.2.2.take f.count.toNat).flatMap (putB f.kind), s.2.2.drop f.count.toNat)
def packPre (fs : List Fld) (val : List WI) : (List Int × Int × Int) × List UInt8 × List WI := fs.foldl packStep (([], 0, 1), [], val)
/-- The row of a value. -/
def packF (fs : List Fld) (val : List WI) : List UInt8 := padB (packPre fs val).2.1 (planSize fs).toNat
theorem packPre_snoc (fs : List Fld) (f : Fld) (val : List WI) : packPre (fs ++ [f]) val = packStep (packPre fs val) f := by simp [packPre]
theorem packFold_fst (fs : List Fld) : ∀ q : (List Int × Int × Int) × List UInt8 × List WI, (fs.foldl packStep q).1 = fs.foldl planStep q.1 := by
  induction fs with
  | nil => intro q; rfl
  | cons f r ih => intro q; rw [List.foldl_cons, List.foldl_cons, ih]; rfl
theorem packPre_fst (fs : List Fld) (val : List WI) : (packPre fs val).1 = planF fs := packFold_fst fs _
theorem planFold_pre (l : List Fld) : ∀ p : List Int × Int × Int, ∃ t, (l.foldl planStep p).1 = p.1 ++ t := by
  induction l with
  | nil => intro p; exact ⟨[], by simp⟩
  | cons f r ih => intro p; obtain ⟨t, ht⟩ := ih (planStep p f); exact ⟨upF p.2.1 (kSize f.kind) :: t, by rw [List.foldl_cons, ht]; simp [planStep]⟩
theorem planF_split (fs : List Fld) (k : Nat) : planF fs = (fs.drop k).foldl planStep (planF (fs.take k)) := by
  rw [planF, planF, ← List.foldl_append, List.take_append_drop]
theorem plan_at {fs : List Fld} {k : Nat} {f : Fld} (h : fs[k]? = some f) : (planF fs).1[k]? = some (upF (planF (fs.take k)).2.1 (kSize f.kind)) := by
  have hk : k < fs.length := (List.getElem?_eq_some_iff.1 h).1
  rw [planF_split fs (k + 1), take_snoc h, planF_snoc]
  obtain ⟨t, ht⟩ := planFold_pre (fs.drop (k + 1)) (planStep (planF (fs.take k)) f)
  rw [ht]
  have hl : (planF (fs.take k)).1.length = k := by rw [planF_len, List.length_take]; omega
  simp only [planStep]
  rw [List.append_assoc, List.getElem?_append_right (by omega), hl]
  simp
theorem flat_len (k : Int) (l : List WI) : (l.flatMap (putB k)).length = l.length * (kSize k).toNat := by
  induction l with
  | nil => simp
  | cons x r ih => rw [List.flatMap_cons, List.length_append, ih, putB_len, List.length_cons, Nat.succ_mul]; omega
theorem all_take {α : Type} {p : α → Bool} {l : List α} (h : l.all p = true) (k : Nat) : (l.take k).all p = true := by
  rw [List.all_eq_true] at h ⊢
  exact fun x hx => h x (List.mem_of_mem_take hx)
theorem pack_len : ∀ (n : Nat) (fs : List Fld), fs.length = n → n ≤ 8 → fs.all fldOk = true → ∀ val : List WI, cnt fs ≤ val.length →
    (packPre fs val).2.1.length = (planF fs).2.1.toNat ∧ (packPre fs val).2.2 = val.drop (cnt fs) := by
  intro n
  induction n with
  | zero =>
    intro fs hl _ _ val _
    obtain rfl := List.eq_nil_of_length_eq_zero hl
    exact ⟨rfl, rfl⟩
  | succ n ih =>
    intro fs hl h8 ha val hv
    rcases List.eq_nil_or_concat fs with rfl | ⟨r, f, rfl⟩
    · simp at hl
    · rw [List.concat_eq_append] at *
      have hlr : r.length = n := by simpa using hl
      rw [List.all_append, Bool.and_eq_true] at ha
      rw [cnt_snoc] at hv ⊢
      obtain ⟨i1, i2⟩ := ih r hlr (by omega) ha.1 val (by omega)
      have hf : fldOk f = true := by simpa using ha.2
      obtain ⟨k1, k2, c1, c2⟩ := fldOk_bd hf
      obtain ⟨b0, b1, b2, b3⟩ := plan_bd (by omega) ha.1
      obtain ⟨u1, u2, u3⟩ := upF_eq b0 (by omega) k1 k2
      obtain ⟨s1, s2, s3, s4, s5⟩ := planStep_bd hf b0 (by omega) b2 b3
      rw [packPre_snoc, planF_snoc, s1]
      simp only [packStep]
      rw [i2, packPre_fst]
      refine ⟨?_, by rw [List.drop_drop]⟩
      rw [List.length_append, padB_len (by omega), flat_len, List.length_take, List.length_drop, Nat.min_eq_left (by omega), Int.toNat_add (by omega) (Int.mul_nonneg (by omega) (by omega)), Int.toNat_mul (by omega) (by omega), Nat.mul_comm]
theorem packF_len {fs : List Fld} (h : layCheck fs = 0) {val : List WI} (hv : cnt fs ≤ val.length) : (packF fs val).length = (planSize fs).toNat := by
  obtain ⟨h8, ha, _⟩ := layCheck_zero h
  obtain ⟨b0, b1, b2, b3⟩ := plan_bd h8 ha
  obtain ⟨u1, u2, u3⟩ := upF_eq b0 (by omega) b2 b3
  unfold packF
  rw [padB_len]
  rw [(pack_len _ fs rfl h8 ha val hv).1]
  unfold planSize
  omega
/-- Whether a value fits. -/
def fitGo : List Fld → List WI → Int
  | [], _ => 0
  | f :: r, v => if (v.take f.count.toNat).all (fitsF f.kind) then fitGo r (v.drop f.count.toNat) else 3
def fitF (fs : List Fld) (val : List WI) : Int := if layCheck fs ≠ 0 then layCheck fs else if val.length ≠ cnt fs then 4 else fitGo fs val
theorem fitGo_val : ∀ (fs : List Fld) (v : List WI), fitGo fs v = 0 ∨ fitGo fs v = 3
  | [], _ => .inl rfl
  | f :: r, v => by
    unfold fitGo
    split
    · exact fitGo_val r _
    · exact .inr rfl
end Go.Proofs.YtoadihebdaooaaaGreat
