/- Contracts of layout.Check, layout.Of, column.New, schema.IsName. -/
import Derived.Test.YtoadihebdaooaaaGreatA3
namespace Go.Proofs.YtoadihebdaooaaaGreat
open Go.RowKit
set_option linter.unusedVariables false

theorem FieldsAt.mono {B B' : Nat} {w : World} {a : Option Addr} {len : Nat} {fs : List Fld} (h : FieldsAt B w a len fs) (hb : B ≤ B') : FieldsAt B' w a len fs := by
  obtain ⟨h1, h2, h3⟩ := h
  refine ⟨h1, h2, ?_⟩
  rcases h3 with h3 | ⟨b, off, ha, hB, hc⟩
  · exact .inl h3
  · exact .inr ⟨b, off, ha, by omega, hc⟩
def fldOk (f : Fld) : Bool := decide (1 ≤ kSize f.kind) && decide (1 ≤ f.count) && decide (f.count ≤ 8)
def layCheck (fs : List Fld) : Int :=
  if 8 < fs.length then 1 else if fs.all fldOk then (if 256 < planSize fs then 5 else 0) else 1

theorem layCheck_long {fs : List Fld} (h : 8 < fs.length) : layCheck fs = 1 := by simp [layCheck, h]
theorem layCheck_bad {fs : List Fld} {f : Fld} {k : Nat} (hf : fs[k]? = some f) (h : fldOk f = false) : layCheck fs = 1 := by
  unfold layCheck
  split
  · rfl
  · rw [if_neg]
    intro ha
    rw [List.all_eq_true] at ha
    have := ha f (List.mem_of_getElem? hf)
    rw [h] at this; cases this
theorem layCheck_ok {fs : List Fld} (h : fs.length ≤ 8) (ha : fs.all fldOk = true) : layCheck fs = if 256 < planSize fs then 5 else 0 := by
  unfold layCheck; rw [if_neg (by omega), if_pos ha]
theorem fldOk_size {fs : List Fld} (h : fs.all fldOk = true) : ∀ f ∈ fs, 1 ≤ kSize f.kind := by
  intro f hf
  have := List.all_eq_true.1 h f hf
  simp [fldOk] at this
  omega
theorem fld84_0 (k : Int) (va : Option Addr) (n c : Nat) (w : World) : Sem.run Tryz.prog (Instr.field 154 (.agg #[.int .i64 k, .slice va n c]) 0) w = .ok (.int .i64 k) w := by kernel_rfl

set_option maxRecDepth 100000 in
set_option maxHeartbeats 1000000 in
theorem layCheck_any (fs : List Fld) (a : Option Addr) (len cap : Nat) (w : World) (hfs : FieldsAt w.heap.size w a len fs) :
    Calls Tryz.prog 119 #[.slice a len cap] w fun e w' => e = .returned (.int .i64 (layCheck fs)) ∧ Below w.heap.size w w' := by
  have hmx : len ≤ maxLen := hfs.2.1
  unfold maxLen at hmx
  have hfl := fld84_0
  by_cases h8 : 8 < len
  · have HL := Lib.hid (layCheck_long (fs := fs) (by rw [hfs.1]; exact h8))
    go_enter Tryz.func119, Tryz.ntmps119
    go_wp2
    go_ret
    exact ⟨ret_intk HL.out.symm, Below.refl _ _⟩
  · go_enter Tryz.func119, Tryz.ntmps119
    go_wp2
    go_loopw [10] (fun i wr => ∃ (k : Nat), k ≤ len ∧ i = .int .i64 k ∧ (fs.take k).all fldOk = true ∧ Below w.heap.size w wr)
      (fun i _ => len - (intOf i).toNat)
    case atStart => exact ⟨0, Nat.zero_le _, rfl, rfl, Below.refl _ _⟩
    case round =>
      obtain ⟨k, hk, rfl, hall, hbw⟩ := hrel
      have HA := Lib.hid hall
      clear hall
      have hzr := hbw.size
      by_cases hlt : k < len
      · obtain ⟨b, off, f, rfl, hB, hf, c0, c1, c2⟩ := hfs.get hbw hlt
        have htk := Lib.hid (take_snoc hf)
        have hks := kSize_bd f.kind
        go_wp2_with fail
        refine (size_any _ _).mono ?_
        rintro e w1 ⟨rfl, hb1⟩
        have hf1 := keep hb1 (heap_alloc_new wr _)
        have f2 := cell_at hf1 2
        simp at f2
        have hbel : Below w.heap.size w w1 := (hbw.alloc (by omega) _).trans (hb1.mono (by simp; omega))
        rcases (by omega : kSize f.kind = 0 ∨ (1 ≤ kSize f.kind ∧ f.count < 1) ∨ (1 ≤ kSize f.kind ∧ 1 ≤ f.count ∧ 8 < f.count) ∨ (1 ≤ kSize f.kind ∧ 1 ≤ f.count ∧ f.count ≤ 8)) with h | ⟨h, h'⟩ | ⟨h, h', h''⟩ | ⟨h, h', h''⟩
        · have HB := Lib.hid (layCheck_bad hf (by simp [fldOk, h]))
          rw [h]
          clear h
          go_wp2
          go_returns
          exact ⟨ret_intk HB.out.symm, hbel⟩
        · have HB := Lib.hid (layCheck_bad hf (by simp [fldOk, h]; omega))
          have e1 : (kSize f.kind == 0) = false := by simp; omega
          go_wp2
          go_returns
          exact ⟨ret_intk HB.out.symm, hbel⟩
        · have HB := Lib.hid (layCheck_bad hf (by simp [fldOk, h]; omega))
          have e1 : (kSize f.kind == 0) = false := by simp; omega
          go_wp2
          go_returns
          exact ⟨ret_intk HB.out.symm, hbel⟩
        · have HB := Lib.hid (show fldOk f = true by simp [fldOk]; omega)
          have e1 : (kSize f.kind == 0) = false := by simp; omega
          go_wp2
          go_roundw
          case rel =>
            refine ⟨k + 1, by omega, by go_num, ?_, hbel⟩
            rw [htk.out, List.all_append, HA.out]
            simp [HB.out]
          case measure => simp [intOf]; omega
      · obtain rfl : k = len := by omega
        have ht : fs.take k = fs := List.take_of_length_le (by have := hfs.1; omega)
        have HA' : Hid (fs.all fldOk = true) := Lib.hid (by have := HA.out; rwa [ht] at this)
        have HL := Lib.hid (layCheck_ok (by have := hfs.1; omega) HA'.out)
        clear ht
        go_wp2_with fail
        refine (plan_any fs _ _ _ _ ((hfs.below hbw).mono hzr) (by omega) (fldOk_size HA'.out)).mono ?_
        rintro e w1 ⟨va, vc, rfl, hown, hb1⟩
        by_cases h : 256 < planSize fs
        · go_wp2
          go_returns
          exact ⟨ret_intk (by rw [HL.out, if_pos h]), hbw.trans (hb1.mono (by omega))⟩
        · go_wp2
          go_returns
          exact ⟨ret_intk (by rw [HL.out, if_neg (by omega)]), hbw.trans (hb1.mono (by omega))⟩

def layPlanOf (fs : List Fld) : Int := if layCheck fs = 0 then planSize fs else 0
/-- The answer of 'Of': the size alone, and the error. -/
def IsOf (fs : List Fld) (w : World) (e : Ending) (w' : World) : Prop :=
  ∃ va n vc, e = .returned (.tuple #[.agg #[.int .i64 (layPlanOf fs), .slice va n vc], .int .i64 (layCheck fs)]) ∧ Below w.heap.size w w' ∧
    (layCheck fs = 0 → w'.ownsRow w.heap.size 3 1 (.slice va n vc) n ((planF fs).1.map (.int .i64)) ∧ n = fs.length)
set_option maxRecDepth 100000 in
theorem layOf_any (fs : List Fld) (a : Option Addr) (len cap : Nat) (w : World) (hfs : FieldsAt w.heap.size w a len fs) :
    Calls Tryz.prog 77 #[.slice a len cap] w (IsOf fs w) := by
  have hsz := World.size_alloc w (.cells #[.int .i64 0, .slice none 0 0] 154)
  go_enter Tryz.func77, Tryz.ntmps77
  go_wp2_with fail
  refine (layCheck_any fs _ _ _ _ ((hfs.below (Below.alloc (Below.refl _ _) (Nat.le_refl _) _)).mono (by simp))).mono ?_
  rintro e w1 ⟨rfl, hb1⟩
  have hr1 := keep hb1 (heap_alloc_new w _)
  have r0 := cell_at hr1 0
  have r1 := cell_at hr1 1
  have f0 := free_at hr1 0
  have f1 := free_at hr1 1
  simp at r0 r1
  have hbel : Below w.heap.size w w1 := (Below.alloc (Below.refl _ _) (Nat.le_refl _) _).trans (hb1.mono (by simp))
  by_cases h : layCheck fs = 0
  · have h8 : fs.length ≤ 8 ∧ fs.all fldOk = true := by
      unfold layCheck at h
      split at h
      · cases h
      · split at h
        · exact ⟨by omega, by assumption⟩
        · cases h
    have HP : Hid (layPlanOf fs = planSize fs) := Lib.hid (by simp [layPlanOf, h])
    have HC := Lib.hid h
    have e1 : (layCheck fs != 0) = false := by simp [h]
    clear h
    go_wp2_with fail
    refine (plan_any fs _ _ _ _ ((hfs.below hbel).mono hbel.size) (by have := hfs.1; omega) (fldOk_size h8.2)).mono ?_
    rintro e w2 ⟨va, vc, rfl, hown, hb2⟩
    have hr2 := keep hb2 hr1
    have s0 := cell_at hr2 0
    have s1 := cell_at hr2 1
    have t0 := free_at hr2 0
    have t1 := free_at hr2 1
    simp at s0 s1
    go_wp2
    refine bodyPost_ret (v := .tuple #[.agg #[.int .i64 (planSize fs), .slice va len vc], .int .i64 0]) (by simp [results, Tryz.results77, go_sem, s0, s1]) rfl ?_
    refine ⟨va, len, vc, by rw [HP.out, HC.out], ?_, fun _ => ⟨?_, hfs.1.symm⟩⟩
    · exact ((hbel.trans (hb2.mono hbel.size)).setCell (by simp) _).setCell (by simp) _
    · have := lt_some hr1
      exact ownsRow_mono (ownsRow_setCell_below (ownsRow_setCell_below hown (by simpa using this) _) (by simpa using this) _) (by omega)
  · have HP : Hid (layPlanOf fs = 0) := Lib.hid (by simp [layPlanOf, h])
    have e1 : (layCheck fs != 0) = true := by simp [h]
    have HN := Lib.hid h
    clear h
    go_wp2
    refine bodyPost_ret (v := .tuple #[.agg #[.int .i64 0, .slice none 0 0], .int .i64 (layCheck fs)]) (by simp [results, Tryz.results77, go_sem, r0, r1]) rfl ?_
    refine ⟨none, 0, 0, by rw [HP.out], ?_, fun h => absurd h HN.out⟩
    exact (hbel.setCell (by simp) _).setCell (by simp) _
end Go.Proofs.YtoadihebdaooaaaGreat
