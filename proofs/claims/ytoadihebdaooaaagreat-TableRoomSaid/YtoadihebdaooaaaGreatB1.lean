/- Contracts of schema.Find and what it calls. -/
import Derived.Test.YtoadihebdaooaaaGreatB0
namespace Go.Proofs.YtoadihebdaooaaaGreat
open Go.RowKit
set_option linter.unusedVariables false

theorem find1_any (i : Int) (nme : Value) (fv : Value) (id : Int) (p : Addr) (w : World) (hp : w.cell? p = some (.int .i64 id)) (hs : ∃ s, nme = .string s) (hv : ∃ a n c, fv = .slice a n c) :
    Calls Tryz.prog 118 #[.agg #[.int .i64 i, nme, fv], .pointer (some p)] w fun e w' => e = .returned (.bool (i == id)) ∧ Below w.heap.size w w' := by
  obtain ⟨s, rfl⟩ := hs
  obtain ⟨a, n, c, rfl⟩ := hv
  have hpb := World.block_lt_of_cell? w p hp
  have hp' : (w.alloc (.cells #[.int .i64 i, .string s, .slice a n c] 112)).cell? p = some (.int .i64 id) := by
    rw [World.cell?_of_block (w := w) (by rw [halloc, if_neg (by omega)])]; exact hp
  go_enter Tryz.func118, Tryz.ntmps118
  go_wp2
  go_ret
  exact ⟨rfl, by go_grown⟩

def idxF (id : Int) : Nat → List Cmp → Int
  | _, [] => -1
  | k, c :: r => if c.id = id then k else idxF id (k + 1) r
theorem idxF_skip {id : Int} {k : Nat} {c : Cmp} {r : List Cmp} (h : ¬ c.id = id) : idxF id k (c :: r) = idxF id (k + 1) r := by
  conv => lhs; unfold idxF
  rw [if_neg h]
theorem idxF_none {id : Int} : ∀ (l : List Cmp) (k : Nat), l.find? (fun c => decide (c.id = id)) = none → idxF id k l = -1
  | [], k, _ => rfl
  | c :: r, k, h => by
    rw [List.find?_cons] at h
    split at h
    · cases h
    · rename_i hc
      unfold idxF
      rw [if_neg (by simpa using hc)]
      exact idxF_none r (k + 1) h
theorem idxF_some {id : Int} {c : Cmp} : ∀ (l : List Cmp) (k : Nat), l.find? (fun c => decide (c.id = id)) = some c → ∃ j, idxF id k l = ((k + j : Nat) : Int) ∧ l[j]? = some c
  | [], k, h => by cases h
  | d :: r, k, h => by
    rw [List.find?_cons] at h
    split at h
    · rename_i hc
      cases h
      exact ⟨0, by unfold idxF; rw [if_pos (by simpa using hc)]; rfl, rfl⟩
    · rename_i hc
      obtain ⟨j, h1, h2⟩ := idxF_some r (k + 1) h
      exact ⟨j + 1, by unfold idxF; rw [if_neg (by simpa using hc), h1]; congr 1; omega, by simpa using h2⟩

set_option maxRecDepth 100000 in
set_option maxHeartbeats 1000000 in
theorem indexFunc_any (id : Int) (cs : List Cmp) (a : Option Addr) (len cap : Nat) (p : Addr) (w : World) (hcs : CompsAt w.heap.size w a len cs) (hp : w.cell? p = some (.int .i64 id)) :
    Calls Tryz.prog 146 #[.slice a len cap, .func (.func 118) #[] #[.pointer (some p)]] w fun e w' => e = .returned (.int .i64 (idxF id 0 cs)) ∧ Below w.heap.size w w' := by
  have hmx : len ≤ maxLen := hcs.2.1
  unfold maxLen at hmx
  have hpb := World.block_lt_of_cell? w p hp
  go_enter Tryz.func146, Tryz.ntmps146
  go_wp2_with fail
  go_loopw [8] (fun i wr => ∃ (k : Nat), k ≤ len ∧ i = .int .i64 k ∧ idxF id 0 cs = idxF id k (cs.drop k) ∧ Below w.heap.size w wr) (fun i _ => len - (intOf i).toNat)
  case atStart => exact ⟨0, Nat.zero_le _, rfl, rfl, Below.refl _ _⟩
  case round =>
    obtain ⟨k, hk, rfl, hgo, hbw⟩ := hrel
    have HG := Lib.hid hgo
    clear hgo
    have hzr := hbw.size
    by_cases hlt : k < len
    · obtain ⟨b, off, c, rfl, hB, hc, c0, c1, fa, fl, fc, c2, hF, hnil⟩ := hcs.get hbw hlt
      have hstep := Lib.hid (HG.out.trans (by rw [drop_get hc]))
      go_wp2_with fail
      refine (find1_any _ _ _ id p _ ((hbw.cell hpb).trans hp) ⟨_, rfl⟩ ⟨_, _, _, rfl⟩).mono ?_
      rintro e w1 ⟨rfl, hb1⟩
      by_cases h : c.id = id
      · have H1 : Hid (idxF id 0 cs = k) := Lib.hid (by rw [hstep.out]; unfold idxF; rw [if_pos h])
        have e1 : (c.id == id) = true := by simp [h]
        clear h
        go_wp2
        go_ret
        exact ⟨ret_intk H1.out.symm, hbw.trans (hb1.mono hzr)⟩
      · have H1 := Lib.hid (hstep.out.trans (idxF_skip h))
        have e1 : (c.id == id) = false := by simp [h]
        clear h
        go_wp2
        go_roundw
        case rel => exact ⟨k + 1, by omega, by go_num, H1.out, hbw.trans (hb1.mono hzr)⟩
        case measure => simp [intOf]; omega
    · obtain rfl : k = len := by omega
      have H1 : Hid (idxF id 0 cs = -1) := Lib.hid (by rw [HG.out, List.drop_eq_nil_of_le (by have := hcs.1; omega)]; rfl)
      go_wp2
      go_ret
      exact ⟨ret_intk H1.out.symm, hbw⟩

/-- The component of an id. -/
def findC (id : Int) (cs : List Cmp) : Option Cmp := cs.find? fun c => decide (c.id = id)
/-- The answer of 'find': the component, its fields in new memory. -/
def IsFind (id : Int) (cs : List Cmp) (w : World) (e : Ending) (w' : World) : Prop :=
  match findC id cs with
  | some c => ∃ va fl vc, e = .returned (.tuple #[.agg #[.int .i64 c.id, .string c.name, .slice va fl vc], .bool true]) ∧ (w'.ownsRow w.heap.size 123 3 (.slice va fl vc) fl (fldCells c.fields) ∧ c.fields.length = fl ∧ fl ≤ maxLen) ∧ (va = none → fl = 0 ∧ vc = 0) ∧ Below w.heap.size w w'
  | none => e = .returned (.tuple #[.agg #[.int .i64 0, .string ByteArray.empty, .slice none 0 0], .bool false]) ∧ Below w.heap.size w w'

set_option maxRecDepth 100000 in
set_option maxHeartbeats 2000000 in
theorem find_any (ver id : Int) (cs : List Cmp) (a : Option Addr) (len cap : Nat) (p : Addr) (w : World) (hcs : CompsAt w.heap.size w a len cs) (hf : ∀ c ∈ cs, c.fields.length ≤ 100000) (hp : w.cell? p = some (.int .i64 id)) :
    Calls Tryz.prog 117 #[.agg #[.int .i64 ver, .slice a len cap], .func (.func 118) #[] #[.pointer (some p)]] w (IsFind id cs w) := by
  have hpb := World.block_lt_of_cell? w p hp
  have hbel0 : Below w.heap.size w ((w.alloc (.cells #[.int .i64 ver, .slice a len cap] 24)).alloc (.cells #[.int .i64 0, .string ByteArray.empty, .slice none 0 0] 112)) := by go_grown
  go_enter Tryz.func117, Tryz.ntmps117
  go_wp2_with fail
  refine (indexFunc_any id cs _ _ _ p _ ((hcs.below hbel0).mono hbel0.size) ((hbel0.cell hpb).trans hp)).mono ?_
  rintro e w1 ⟨rfl, hb1⟩
  have hs1 := keep hb1 (keepA _ (heap_alloc_new w (.cells #[.int .i64 ver, .slice a len cap] 24)))
  have hr1 := keep hb1 (heap_alloc_new (w.alloc (.cells #[.int .i64 ver, .slice a len cap] 24)) (.cells #[.int .i64 0, .string ByteArray.empty, .slice none 0 0] 112))
  rw [World.size_alloc] at hr1
  have hbel1 : Below w.heap.size w w1 := hbel0.trans (hb1.mono hbel0.size)
  have s1 := cell_at hs1 1
  have r0 := cell_at hr1 0
  have r1 := cell_at hr1 1
  have r2 := cell_at hr1 2
  have f0 := free_at hr1 0
  have f1 := free_at hr1 1
  have f2 := free_at hr1 2
  simp at s1 r0 r1 r2
  cases hfc : findC id cs with
  | none =>
    have h0 := idxF_none cs 0 hfc
    have HF := Lib.hid hfc
    rw [h0]
    clear h0 hfc
    go_wp2
    refine bodyPost_ret (v := .tuple #[.agg #[.int .i64 0, .string ByteArray.empty, .slice none 0 0], .bool false]) (by simp [results, Tryz.results117, go_sem, r0, r1, r2]; rfl) rfl ?_
    unfold IsFind
    rw [HF.out]
    exact ⟨rfl, ((hbel1.setCell (by simp) _).setCell (by simp) _).setCell (by simp) _⟩
  | some c =>
    obtain ⟨j, h0, hj⟩ := idxF_some cs 0 hfc
    have HF := Lib.hid hfc
    rw [h0, Nat.zero_add]
    have hjl : j < len := by have := (List.getElem?_eq_some_iff.1 hj).1; have := hcs.1; omega
    obtain ⟨b, off, c', rfl, hB, hc', c0, c1, fa, fl, fc, c2, hF, hnil⟩ := hcs.get hbel1 hjl
    have hcc : c' = c := by rw [hj] at hc'; exact (Option.some.inj hc').symm
    subst hcc
    clear h0 hfc
    have hfl : fl ≤ 100000 := by have := hf c' (List.mem_of_getElem? hj); have := hF.1; omega
    have hmx : len ≤ maxLen := hcs.2.1
    unfold maxLen at hmx
    go_wp2_with fail
    have hzw := hbel1.size
    have HFF := Lib.hid hF
    have hFA : FieldsOn (· < w.heap.size) (w1.alloc (.cells #[.int .i64 c'.id, .string c'.name, .slice fa fl fc] 112)) fa fl c'.fields := HFF.out.on.imp (fun b hb => ⟨hb, by rw [halloc, if_neg (by omega)]⟩)
    refine (cloneFields_any fa fl fc _ hfl hnil (fldCells c'.fields) (by rw [← HFF.out.1]; exact flat3_len _ _ _ _) hFA.cells (fldCells_one _)).mono ?_
    rintro e w2 ⟨va, vc, rfl, hown, hb2, hnv⟩
    have hr2 := keep hb2 (keepA _ hr1)
    have hn2 := keep hb2 (heap_alloc_new w1 _)
    have q0 := cell_at hr2 0
    have q1 := cell_at hr2 1
    have q2 := cell_at hr2 2
    have g0 := free_at hr2 0
    have g1 := free_at hr2 1
    have g2 := free_at hr2 2
    have n0 := cell_at hn2 0
    have n1 := cell_at hn2 1
    have n2 := cell_at hn2 2
    have m2 := free_at hn2 2
    simp at q0 q1 q2 n0 n1 n2
    have hl1 := lt_some hr1
    have HO := Lib.hid hown
    have HB2 := Lib.hid hb2
    clear hown hb2 hF hFA
    go_wp2
    refine bodyPost_ret (v := .tuple #[.agg #[.int .i64 c'.id, .string c'.name, .slice va fl vc], .bool true]) (by simp [results, Tryz.results117, go_sem, q0, q1, q2]) rfl ?_
    unfold IsFind
    rw [HF.out]
    have hz2 := HB2.out.size
    simp only [World.size_alloc] at hz2
    refine ⟨va, fl, vc, rfl, ?_, hnv, ?_⟩
    · refine ⟨?_, HFF.out.1, HFF.out.2.1⟩
      refine ownsRow_mono (base := (w1.alloc (.cells #[.int .i64 c'.id, .string c'.name, .slice fa fl fc] 112)).heap.size) ?_ (by simp; omega)
      exact ownsRow_setCell_below (ownsRow_setCell_below (ownsRow_setCell_below (ownsRow_setCell_below HO.out (by simp <;> omega) _) (by simp <;> omega) _) (by simp <;> omega) _) (by simp <;> omega) _
    · have hb' : Below w.heap.size w w2 := (hbel1.alloc (by omega) _).trans (HB2.out.mono (by simp; omega))
      exact (((hb'.setCell (by simp; omega) _).setCell (by simp) _).setCell (by simp) _).setCell (by simp) _
set_option maxRecDepth 100000 in
theorem Find_any (ver id : Int) (cs : List Cmp) (a : Option Addr) (len cap : Nat) (w : World) (hcs : CompsAt w.heap.size w a len cs) (hf : ∀ c ∈ cs, c.fields.length ≤ 100000) :
    Calls Tryz.prog 76 #[.agg #[.int .i64 ver, .slice a len cap], .int .i64 id] w (IsFind id cs w) := by
  have hbel0 : Below w.heap.size w (((w.alloc (.cells #[.int .i64 ver, .slice a len cap] 24)).alloc (.cells #[.int .i64 id] 3)).alloc (.cells #[.int .i64 0, .string ByteArray.empty, .slice none 0 0] 112)) := by go_grown
  go_enter Tryz.func76, Tryz.ntmps76
  go_wp2_with fail
  refine (find_any ver id cs _ _ _ _ _ ((hcs.below hbel0).mono hbel0.size) hf ?_).mono ?_
  · rw [World.cell?_of_block (w := (w.alloc (.cells #[.int .i64 ver, .slice a len cap] 24)).alloc (.cells #[.int .i64 id] 3)) (by rw [halloc, if_neg (by simp)])]
    simp
  intro e w1 h
  have hz0 := hbel0.size
  unfold IsFind at h
  cases hfc : findC id cs with
  | none =>
    rw [hfc] at h
    obtain ⟨rfl, hb1⟩ := h
    have HF := Lib.hid hfc
    clear hfc
    have hr1 := keep hb1 (heap_alloc_new ((w.alloc (.cells #[.int .i64 ver, .slice a len cap] 24)).alloc (.cells #[.int .i64 id] 3)) (.cells #[.int .i64 0, .string ByteArray.empty, .slice none 0 0] 112))
    rw [World.size_alloc, World.size_alloc] at hr1
    have q0 := cell_at hr1 0
    have q1 := cell_at hr1 1
    have q2 := cell_at hr1 2
    have g0 := free_at hr1 0
    have g1 := free_at hr1 1
    have g2 := free_at hr1 2
    simp at q0 q1 q2
    have hbel1 : Below w.heap.size w w1 := hbel0.trans (hb1.mono hz0)
    go_wp2
    refine bodyPost_ret (v := .tuple #[.agg #[.int .i64 0, .string ByteArray.empty, .slice none 0 0], .bool false]) (by simp [results, Tryz.results76, go_sem, q0, q1, q2]) rfl ?_
    unfold IsFind
    rw [HF.out]
    exact ⟨rfl, ((hbel1.setCell (by simp; omega) _).setCell (by simp; omega) _).setCell (by simp; omega) _⟩
  | some c =>
    rw [hfc] at h
    obtain ⟨va, fl, vc, rfl, hF, hn, hb1⟩ := h
    have HF := Lib.hid hfc
    clear hfc
    have hr1 := keep hb1 (heap_alloc_new ((w.alloc (.cells #[.int .i64 ver, .slice a len cap] 24)).alloc (.cells #[.int .i64 id] 3)) (.cells #[.int .i64 0, .string ByteArray.empty, .slice none 0 0] 112))
    rw [World.size_alloc, World.size_alloc] at hr1
    have q0 := cell_at hr1 0
    have q1 := cell_at hr1 1
    have q2 := cell_at hr1 2
    have g0 := free_at hr1 0
    have g1 := free_at hr1 1
    have g2 := free_at hr1 2
    simp at q0 q1 q2
    have hbel1 : Below w.heap.size w w1 := hbel0.trans (hb1.mono hz0)
    have HFF := Lib.hid hF
    clear hF
    go_wp2
    refine bodyPost_ret (v := .tuple #[.agg #[.int .i64 c.id, .string c.name, .slice va fl vc], .bool true]) (by simp [results, Tryz.results76, go_sem, q0, q1, q2]) rfl ?_
    unfold IsFind
    rw [HF.out]
    refine ⟨va, fl, vc, rfl, ?_, hn, ((hbel1.setCell (by simp; omega) _).setCell (by simp; omega) _).setCell (by simp; omega) _⟩
    refine ⟨?_, HFF.out.2⟩
    refine ownsRow_mono (base := (((w.alloc (.cells #[.int .i64 ver, .slice a len cap] 24)).alloc (.cells #[.int .i64 id] 3)).alloc (.cells #[.int .i64 0, .string ByteArray.empty, .slice none 0 0] 112)).heap.size) ?_ (by simp; omega)
    exact ownsRow_setCell_below (ownsRow_setCell_below (ownsRow_setCell_below HFF.out.1 (by simp) _) (by simp) _) (by simp) _
end Go.Proofs.YtoadihebdaooaaaGreat
