/- Contracts of schema.Find and what it calls. · Contract of (Sig).Ids. · Plain laws of layouts: sizes of fields that can be are small; a schema that can be has such fields. · Plain: bytes of numbers, rows of values, what fits. · Contracts of octet.Writer.Num and String, and field.Put. Printed by mkfor.py out of S6.in. · Contracts of layout.Start, Elems, Fit. Printed by mkS7.py. -/
import Derived.Test.YtoadihebdaooaaaGreatQ3
import Derived.Lib.Builder
import Derived.OneCell
import Derived.Laws.BytesString
import Derived.Test.YtoadihebdaooaaaGreatQ2
namespace Go.Proofs.YtoadihebdaooaaaGreat
open Go.RowKit
set_option linter.unusedVariables false

theorem find1_any (i : Int) (nme : Value) (fv : Value) (id : Int) (p : Addr) (w : World) (hp : w.cell? p = some (.int .i64 id)) (hs : ∃ s, nme = .string s) (hv : ∃ a n c, fv = .slice a n c) :
    Calls Tryz.prog 118 #[.agg #[.int .i64 i, nme, fv], .pointer (some p)] w fun e w' => e = .returned (.bool (i == id)) ∧ Below w.heap.size w w' := by
  obtain ⟨s, rfl⟩ := hs
  obtain ⟨a, n, c, rfl⟩ := hv
  have hpb := World.block_lt_of_cell? w p hp
  have hp' : (w.alloc (.cells #[.int .i64 i, .string s, .slice a n c] 112)).cell? p = some (.int .i64 id) := by
    rw [World.cell?_of_block (w := w) (by rw [halloc, if_neg (by omega)])]; exact hp
  go_enter Tryz.func118, Tryz.ntmps118
  go_wp2
  go_ret
  exact ⟨rfl, by go_grown⟩

def idxF (id : Int) : Nat → List Cmp → Int
  | _, [] => -1
  | k, c :: r => if c.id = id then k else idxF id (k + 1) r
theorem idxF_skip {id : Int} {k : Nat} {c : Cmp} {r : List Cmp} (h : ¬ c.id = id) : idxF id k (c :: r) = idxF id (k + 1) r := by
  conv => lhs; unfold idxF
  rw [if_neg h]
theorem idxF_none {id : Int} : ∀ (l : List Cmp) (k : Nat), l.find? (fun c => decide (c.id = id)) = none → idxF id k l = -1
  | [], k, _ => rfl
  | c :: r, k, h => by
    rw [List.find?_cons] at h
    split at h
    · cases h
    · rename_i hc
      unfold idxF
      rw [if_neg (by simpa using hc)]
      exact idxF_none r (k + 1) h
theorem idxF_some {id : Int} {c : Cmp} : ∀ (l : List Cmp) (k : Nat), l.find? (fun c => decide (c.id = id)) = some c → ∃ j, idxF id k l = ((k + j : Nat) : Int) ∧ l[j]? = some c
  | [], k, h => by cases h
  | d :: r, k, h => by
    rw [List.find?_cons] at h
    split at h
    · rename_i hc
      cases h
      exact ⟨0, by unfold idxF; rw [if_pos (by simpa using hc)]; rfl, rfl⟩
    · rename_i hc
      obtain ⟨j, h1, h2⟩ := idxF_some r (k + 1) h
      exact ⟨j + 1, by unfold idxF; rw [if_neg (by simpa using hc), h1]; congr 1; omega, by simpa using h2⟩

set_option maxRecDepth 100000 in
set_option maxHeartbeats 1000000 in
theorem indexFunc_any (id : Int) (cs : List Cmp) (a : Option Addr) (len cap : Nat) (p : Addr) (w : World) (hcs : CompsAt w.heap.size w a len cs) (hp : w.cell? p = some (.int .i64 id)) :
    Calls Tryz.prog 146 #[.slice a len cap, .func (.func 118) #[] #[.pointer (some p)]] w fun e w' => e = .returned (.int .i64 (idxF id 0 cs)) ∧ Below w.heap.size w w' := by
  have hmx : len ≤ maxLen := hcs.2.1
  unfold maxLen at hmx
  have hpb := World.block_lt_of_cell? w p hp
  go_enter Tryz.func146, Tryz.ntmps146
  go_wp2_with fail
  go_loopw [8] (fun i wr => ∃ (k : Nat), k ≤ len ∧ i = .int .i64 k ∧ idxF id 0 cs = idxF id k (cs.drop k) ∧ Below w.heap.size w wr) (fun i _ => len - (intOf i).toNat)
  case atStart => exact ⟨0, Nat.zero_le _, rfl, rfl, Below.refl _ _⟩
  case round =>
    obtain ⟨k, hk, rfl, hgo, hbw⟩ := hrel
    have HG := Lib.hid hgo
    clear hgo
    have hzr := hbw.size
    by_cases hlt : k < len
    · obtain ⟨b, off, c, rfl, hB, hc, c0, c1, fa, fl, fc, c2, hF, hnil⟩ := hcs.get hbw hlt
      have hstep := Lib.hid (HG.out.trans (by rw [drop_get hc]))
      go_wp2_with fail
      refine (find1_any _ _ _ id p _ ((hbw.cell hpb).trans hp) ⟨_, rfl⟩ ⟨_, _, _, rfl⟩).mono ?_
      rintro e w1 ⟨rfl, hb1⟩
      by_cases h : c.id = id
      · have H1 : Hid (idxF id 0 cs = k) := Lib.hid (by rw [hstep.out]; unfold idxF; rw [if_pos h])
        have e1 : (c.id == id) = true := by simp [h]
        clear h
        go_wp2
        go_ret
        exact ⟨ret_intk H1.out.symm, hbw.trans (hb1.mono hzr)⟩
      · have H1 := Lib.hid (hstep.out.trans (idxF_skip h))
        have e1 : (c.id == id) = false := by simp [h]
        clear h
        go_wp2
        go_roundw
        case rel => exact ⟨k + 1, by omega, by go_num, H1.out, hbw.trans (hb1.mono hzr)⟩
        case measure => simp [intOf]; omega
    · obtain rfl : k = len := by omega
      have H1 : Hid (idxF id 0 cs = -1) := Lib.hid (by rw [HG.out, List.drop_eq_nil_of_le (by have := hcs.1; omega)]; rfl)
      go_wp2
      go_ret
      exact ⟨ret_intk H1.out.symm, hbw⟩

/-- The component of an id. -/
def findC (id : Int) (cs : List Cmp) : Option Cmp := cs.find? fun c => decide (c.id = id)
/-- The answer of 'find': the component, its fields in new memory. -/
def IsFind (id : Int) (cs : List Cmp) (w : World) (e : Ending) (w' : World) : Prop :=
  match findC id cs with
  | some c => ∃ va fl vc, e = .returned (.tuple #[.agg #[.int .i64 c.id, .string c.name, .slice va fl vc], .bool true]) ∧ (w'.ownsRow w.heap.size 123 3 (.slice va fl vc) fl (fldCells c.fields) ∧ c.fields.length = fl ∧ fl ≤ maxLen) ∧ (va = none → fl = 0 ∧ vc = 0) ∧ Below w.heap.size w w'
  | none => e = .returned (.tuple #[.agg #[.int .i64 0, .string ByteArray.empty, .slice none 0 0], .bool false]) ∧ Below w.heap.size w w'

set_option maxRecDepth 100000 in
set_option maxHeartbeats 2000000 in
theorem find_any (ver id : Int) (cs : List Cmp) (a : Option Addr) (len cap : Nat) (p : Addr) (w : World) (hcs : CompsAt w.heap.size w a len cs) (hf : ∀ c ∈ cs, c.fields.length ≤ 100000) (hp : w.cell? p = some (.int .i64 id)) :
    Calls Tryz.prog 117 #[.agg #[.int .i64 ver, .slice a len cap], .func (.func 118) #[] #[.pointer (some p)]] w (IsFind id cs w) := by
  have hpb := World.block_lt_of_cell? w p hp
  have hbel0 : Below w.heap.size w ((w.alloc (.cells #[.int .i64 ver, .slice a len cap] 24)).alloc (.cells #[.int .i64 0, .string ByteArray.empty, .slice none 0 0] 112)) := by go_grown
  go_enter Tryz.func117, Tryz.ntmps117
  go_wp2_with fail
  refine (indexFunc_any id cs _ _ _ p _ ((hcs.below hbel0).mono hbel0.size) ((hbel0.cell hpb).trans hp)).mono ?_
  rintro e w1 ⟨rfl, hb1⟩
  have hs1 := keep hb1 (keepA _ (heap_alloc_new w (.cells #[.int .i64 ver, .slice a len cap] 24)))
  have hr1 := keep hb1 (heap_alloc_new (w.alloc (.cells #[.int .i64 ver, .slice a len cap] 24)) (.cells #[.int .i64 0, .string ByteArray.empty, .slice none 0 0] 112))
  rw [World.size_alloc] at hr1
  have hbel1 : Below w.heap.size w w1 := hbel0.trans (hb1.mono hbel0.size)
  have s1 := cell_at hs1 1
  have r0 := cell_at hr1 0
  have r1 := cell_at hr1 1
  have r2 := cell_at hr1 2
  have f0 := free_at hr1 0
  have f1 := free_at hr1 1
  have f2 := free_at hr1 2
  simp at s1 r0 r1 r2
  cases hfc : findC id cs with
  | none =>
    have h0 := idxF_none cs 0 hfc
    have HF := Lib.hid hfc
    rw [h0]
    clear h0 hfc
    go_wp2
    refine bodyPost_ret (v := .tuple #[.agg #[.int .i64 0, .string ByteArray.empty, .slice none 0 0], .bool false]) (by simp [results, Tryz.results117, go_sem, r0, r1, r2]; rfl) rfl ?_
    unfold IsFind
    rw [HF.out]
    exact ⟨rfl, ((hbel1.setCell (by simp) _).setCell (by simp) _).setCell (by simp) _⟩
  | some c =>
    obtain ⟨j, h0, hj⟩ := idxF_some cs 0 hfc
    have HF := Lib.hid hfc
    rw [h0, Nat.zero_add]
    have hjl : j < len := by have := (List.getElem?_eq_some_iff.1 hj).1; have := hcs.1; omega
    obtain ⟨b, off, c', rfl, hB, hc', c0, c1, fa, fl, fc, c2, hF, hnil⟩ := hcs.get hbel1 hjl
    have hcc : c' = c := by rw [hj] at hc'; exact (Option.some.inj hc').symm
    subst hcc
    clear h0 hfc
    have hfl : fl ≤ 100000 := by have := hf c' (List.mem_of_getElem? hj); have := hF.1; omega
    have hmx : len ≤ maxLen := hcs.2.1
    unfold maxLen at hmx
    go_wp2_with fail
    have hzw := hbel1.size
    have HFF := Lib.hid hF
    have hFA : FieldsOn (· < w.heap.size) (w1.alloc (.cells #[.int .i64 c'.id, .string c'.name, .slice fa fl fc] 112)) fa fl c'.fields := HFF.out.on.imp (fun b hb => ⟨hb, by rw [halloc, if_neg (by omega)]⟩)
    refine (cloneFields_any fa fl fc _ hfl hnil (fldCells c'.fields) (by rw [← HFF.out.1]; exact flat3_len _ _ _ _) hFA.cells (fldCells_one _)).mono ?_
    rintro e w2 ⟨va, vc, rfl, hown, hb2, hnv⟩
    have hr2 := keep hb2 (keepA _ hr1)
    have hn2 := keep hb2 (heap_alloc_new w1 _)
    have q0 := cell_at hr2 0
    have q1 := cell_at hr2 1
    have q2 := cell_at hr2 2
    have g0 := free_at hr2 0
    have g1 := free_at hr2 1
    have g2 := free_at hr2 2
    have n0 := cell_at hn2 0
    have n1 := cell_at hn2 1
    have n2 := cell_at hn2 2
    have m2 := free_at hn2 2
    simp at q0 q1 q2 n0 n1 n2
    have hl1 := lt_some hr1
    have HO := Lib.hid hown
    have HB2 := Lib.hid hb2
    clear hown hb2 hF hFA
    go_wp2
    refine bodyPost_ret (v := .tuple #[.agg #[.int .i64 c'.id, .string c'.name, .slice va fl vc], .bool true]) (by simp [results, Tryz.results117, go_sem, q0, q1, q2]) rfl ?_
    unfold IsFind
    rw [HF.out]
    have hz2 := HB2.out.size
    simp only [World.size_alloc] at hz2
    refine ⟨va, fl, vc, rfl, ?_, hnv, ?_⟩
    · refine ⟨?_, HFF.out.1, HFF.out.2.1⟩
      refine ownsRow_mono (base := (w1.alloc (.cells #[.int .i64 c'.id, .string c'.name, .slice fa fl fc] 112)).heap.size) ?_ (by simp; omega)
      exact ownsRow_setCell_below (ownsRow_setCell_below (ownsRow_setCell_below (ownsRow_setCell_below HO.out (by simp <;> omega) _) (by simp <;> omega) _) (by simp <;> omega) _) (by simp <;> omega) _
    · have hb' : Below w.heap.size w w2 := (hbel1.alloc (by omega) _).trans (HB2.out.mono (by simp; omega))
      exact (((hb'.setCell (by simp; omega) _).setCell (by simp) _).setCell (by simp) _).setCell (by simp) _
set_option maxRecDepth 100000 in
theorem Find_any (ver id : Int) (cs : List Cmp) (a : Option Addr) (len cap : Nat) (w : World) (hcs : CompsAt w.heap.size w a len cs) (hf : ∀ c ∈ cs, c.fields.length ≤ 100000) :
    Calls Tryz.prog 76 #[.agg #[.int .i64 ver, .slice a len cap], .int .i64 id] w (IsFind id cs w) := by
  have hbel0 : Below w.heap.size w (((w.alloc (.cells #[.int .i64 ver, .slice a len cap] 24)).alloc (.cells #[.int .i64 id] 3)).alloc (.cells #[.int .i64 0, .string ByteArray.empty, .slice none 0 0] 112)) := by go_grown
  go_enter Tryz.func76, Tryz.ntmps76
  go_wp2_with fail
  refine (find_any ver id cs _ _ _ _ _ ((hcs.below hbel0).mono hbel0.size) hf ?_).mono ?_
  · rw [World.cell?_of_block (w := (w.alloc (.cells #[.int .i64 ver, .slice a len cap] 24)).alloc (.cells #[.int .i64 id] 3)) (by rw [halloc, if_neg (by simp)])]
    simp
  intro e w1 h
  have hz0 := hbel0.size
  unfold IsFind at h
  cases hfc : findC id cs with
  | none =>
    rw [hfc] at h
    obtain ⟨rfl, hb1⟩ := h
    have HF := Lib.hid hfc
    clear hfc
    have hr1 := keep hb1 (heap_alloc_new ((w.alloc (.cells #[.int .i64 ver, .slice a len cap] 24)).alloc (.cells #[.int .i64 id] 3)) (.cells #[.int .i64 0, .string ByteArray.empty, .slice none 0 0] 112))
    rw [World.size_alloc, World.size_alloc] at hr1
    have q0 := cell_at hr1 0
    have q1 := cell_at hr1 1
    have q2 := cell_at hr1 2
    have g0 := free_at hr1 0
    have g1 := free_at hr1 1
    have g2 := free_at hr1 2
    simp at q0 q1 q2
    have hbel1 : Below w.heap.size w w1 := hbel0.trans (hb1.mono hz0)
    go_wp2
    refine bodyPost_ret (v := .tuple #[.agg #[.int .i64 0, .string ByteArray.empty, .slice none 0 0], .bool false]) (by simp [results, Tryz.results76, go_sem, q0, q1, q2]) rfl ?_
    unfold IsFind
    rw [HF.out]
    exact ⟨rfl, ((hbel1.setCell (by simp; omega) _).setCell (by simp; omega) _).setCell (by simp; omega) _⟩
  | some c =>
    rw [hfc] at h
    obtain ⟨va, fl, vc, rfl, hF, hn, hb1⟩ := h
    have HF := Lib.hid hfc
    clear hfc
    have hr1 := keep hb1 (heap_alloc_new ((w.alloc (.cells #[.int .i64 ver, .slice a len cap] 24)).alloc (.cells #[.int .i64 id] 3)) (.cells #[.int .i64 0, .string ByteArray.empty, .slice none 0 0] 112))
    rw [World.size_alloc, World.size_alloc] at hr1
    have q0 := cell_at hr1 0
    have q1 := cell_at hr1 1
    have q2 := cell_at hr1 2
    have g0 := free_at hr1 0
    have g1 := free_at hr1 1
    have g2 := free_at hr1 2
    simp at q0 q1 q2
    have hbel1 : Below w.heap.size w w1 := hbel0.trans (hb1.mono hz0)
    have HFF := Lib.hid hF
    clear hF
    go_wp2
    refine bodyPost_ret (v := .tuple #[.agg #[.int .i64 c.id, .string c.name, .slice va fl vc], .bool true]) (by simp [results, Tryz.results76, go_sem, q0, q1, q2]) rfl ?_
    unfold IsFind
    rw [HF.out]
    refine ⟨va, fl, vc, rfl, ?_, hn, ((hbel1.setCell (by simp; omega) _).setCell (by simp; omega) _).setCell (by simp; omega) _⟩
    refine ⟨?_, HFF.out.2⟩
    refine ownsRow_mono (base := (((w.alloc (.cells #[.int .i64 ver, .slice a len cap] 24)).alloc (.cells #[.int .i64 id] 3)).alloc (.cells #[.int .i64 0, .string ByteArray.empty, .slice none 0 0] 112)).heap.size) ?_ (by simp; omega)
    exact ownsRow_setCell_below (ownsRow_setCell_below (ownsRow_setCell_below HFF.out.1 (by simp) _) (by simp) _) (by simp) _
end Go.Proofs.YtoadihebdaooaaaGreat
namespace Go.Proofs.YtoadihebdaooaaaGreat
open Go.RowKit
set_option linter.unusedVariables false

def idsTo (s : Int) (m : Nat) : List Int := ((List.range m).map fun (j : Nat) => (j : Int) + 1).filter fun i => hasB s i
theorem idsTo_succ (s : Int) (m : Nat) : idsTo s (m + 1) = idsTo s m ++ if hasB s ((m : Int) + 1) then [(m : Int) + 1] else [] := by
  unfold idsTo
  rw [List.range_succ, List.map_append, List.filter_append]
  simp [List.filter_cons]
theorem idsTo_len (s : Int) (m : Nat) : (idsTo s m).length ≤ m := by
  unfold idsTo
  have := List.length_filter_le (fun i => hasB s i) ((List.range m).map fun (j : Nat) => (j : Int) + 1)
  simpa using this
theorem idsTo_bd (s : Int) (m : Nat) : ∀ i ∈ idsTo s m, 1 ≤ i ∧ i ≤ m := by
  intro i hi
  unfold idsTo at hi
  obtain ⟨h1, _⟩ := List.mem_filter.1 hi
  obtain ⟨j, hj, rfl⟩ := List.mem_map.1 h1
  have := List.mem_range.1 hj
  omega
/-- The answer of 'Ids'. -/
def IsIds (s : Int) (w : World) (e : Ending) (w' : World) : Prop :=
  ∃ va n vc, e = .returned (.slice va n vc) ∧ n = (idsTo s 24).length ∧ w'.ownsRow w.heap.size 3 1 (.slice va n vc) n ((idsTo s 24).map (.int .i64)) ∧ Below w.heap.size w w'

set_option maxRecDepth 100000 in
set_option maxHeartbeats 1000000 in
theorem ids_any (s : Int) (w : World) (h0 : 0 ≤ s) (hs : s ≤ 4294967295) : Calls Tryz.prog 75 #[.int .u32 s] w (IsIds s w) := by
  obtain ⟨i0, hi, hz0, hz1, hz2⟩ := info_parts Tryz.info3
  go_enter Tryz.func75, Tryz.ntmps75
  go_wp2_with fail
  go_loopw [3, 4] (fun v i wr => ∃ (k : Nat) (va : Option Addr) (n vc : Nat), k ≤ 24 ∧ i = .int .i64 ((k : Int) + 1) ∧ v = .slice va n vc ∧ n = (idsTo s k).length ∧ n ≤ 24 ∧ wr.ownsRow w.heap.size 3 1 (.slice va n vc) n ((idsTo s k).map (.int .i64)) ∧ Below w.heap.size w wr)
    (fun _ i _ => 30 - (intOf i).toNat)
  case atStart => exact ⟨0, none, 0, 0, by omega, rfl, rfl, rfl, by omega, World.ownsRow_nil _ _ _ _, Below.refl _ _⟩
  case round =>
    obtain ⟨k, va, n, vc, hk, rfl, rfl, hn, hn24, hown, hbw⟩ := hrel
    have hzr := hbw.size
    by_cases hlt : k < 24
    · have hd1 : decide ((k : Int) + 1 ≤ 24) = true := by simp; omega
      have hsuc := Lib.hid (idsTo_succ s k)
      have HN := Lib.hid hn
      clear hn
      have hlen := idsTo_len s (k + 1)
      have HLEN := Lib.hid hlen
      clear hlen
      go_wp2_with fail
      refine (has_any _ _ _ h0 hs).mono ?_
      rintro e w' ⟨rfl, rfl⟩
      cases hh : hasB s ((k : Int) + 1)
      · have HS : Hid (idsTo s (k + 1) = idsTo s k) := Lib.hid (by rw [hsuc.out, hh]; simp)
        clear hh
        go_wp2_with fail
        go_roundw
        case rel => exact ⟨k + 1, va, n, vc, by omega, by go_num, rfl, by rw [HS.out]; exact HN.out, hn24, by rw [HS.out]; exact hown, hbw⟩
        case measure => simp [intOf]; omega
      · have HS : Hid (idsTo s (k + 1) = idsTo s k ++ [(k : Int) + 1]) := Lib.hid (by rw [hsuc.out, hh]; simp)
        clear hh
        have hn24' : n + 1 ≤ 24 := by have := HLEN.out; rw [HS.out] at this; simp at this; have := HN.out; omega
        have hownA := hown.alloc (.cells #[.int .i64 ((k : Int) + 1)] 3)
        go_wp2_with (at_builtin; go_loud (refine wpList_append_own _ rfl (.tmp 12) (.tmp 14) 95 rfl w.heap.size 3 i0 (.int .i64 0) 1 8 Tryz.underlying95 hi hz0 hz1 hz2 rfl (by decide) (.slice va n vc) n ((idsTo s k).map (.int .i64)) rfl hownA ⟨wr.heap.size, 0, none⟩ 1 1 [.int .i64 ((k : Int) + 1)] rfl rfl (cell_one_new _ _ _) (ints_oneCell .i64 [(k : Int) + 1]) (by unfold maxLen; omega) (by omega) (by simp; omega) ?_))
        intro v' w2 hown2 hg2 _
        obtain ⟨va', vc', hv'⟩ := ownsRow_slice hown2
        rw [hv'] at hown2 ⊢
        clear hv'
        have hrow : ∀ x, (Value.slice va n vc).ownBlock = some x → w.heap.size ≤ x := fun x hx => (hown.lt x hx).1
        have hbel : Below w.heap.size w w2 := (hbw.alloc hzr _).grown hg2 (by simp; omega) hrow
        have HO := Lib.hid hown2
        clear hown2 hown hownA hg2 hrow
        go_wp2_with fail
        go_roundw
        case rel => exact ⟨k + 1, va', n + 1, vc', by omega, by go_num, rfl, by rw [HS.out]; simp; exact HN.out, hn24', by rw [HS.out, List.map_append]; exact HO.out, hbel⟩
        case measure => simp [intOf]; omega
    · obtain rfl : k = 24 := by omega
      have hd1 : decide (((24 : Nat) : Int) + 1 ≤ 24) = false := by simp
      have HN := Lib.hid hn
      clear hn
      go_wp2_with fail
      go_returns
      exact ⟨va, n, vc, rfl, HN.out, hown, hbw⟩
end Go.Proofs.YtoadihebdaooaaaGreat
namespace Go.Proofs.YtoadihebdaooaaaGreat
open Go.RowKit
set_option linter.unusedVariables false
theorem w64_id {n : Int} (h0 : -9223372036854775808 ≤ n) (h1 : n ≤ 9223372036854775807) : wrap64 n = n := by
  unfold wrap64; omega
theorem upF_eq {a s : Int} (h0 : 0 ≤ a) (h1 : a ≤ 100000) (h2 : 1 ≤ s) (h3 : s ≤ 8) : upF a s = (a + s - 1) / s * s ∧ a ≤ upF a s ∧ upF a s ≤ a + 7 := by
  have e : upF a s = (a + s - 1) / s * s := by
    unfold upF
    rw [w64_id (n := a + s) (by omega) (by omega), w64_id (n := a + s - 1) (by omega) (by omega), Int.tdiv_eq_ediv_of_nonneg (by omega)]
    rcases (by omega : s = 1 ∨ s = 2 ∨ s = 3 ∨ s = 4 ∨ s = 5 ∨ s = 6 ∨ s = 7 ∨ s = 8) with rfl | rfl | rfl | rfl | rfl | rfl | rfl | rfl <;> (rw [w64_id (n := _ / _) (by omega) (by omega), w64_id (by omega) (by omega)])
  rw [e]
  refine ⟨rfl, ?_⟩
  rcases (by omega : s = 1 ∨ s = 2 ∨ s = 3 ∨ s = 4 ∨ s = 5 ∨ s = 6 ∨ s = 7 ∨ s = 8) with rfl | rfl | rfl | rfl | rfl | rfl | rfl | rfl <;> omega
theorem fldOk_bd {f : Fld} (h : fldOk f = true) : 1 ≤ kSize f.kind ∧ kSize f.kind ≤ 8 ∧ 1 ≤ f.count ∧ f.count ≤ 8 := by
  have := (kSize_bd f.kind).2
  simp [fldOk] at h
  omega
theorem planStep_bd {p : List Int × Int × Int} {f : Fld} (h : fldOk f = true) (h0 : 0 ≤ p.2.1) (h1 : p.2.1 ≤ 10000) (h2 : 1 ≤ p.2.2) (h3 : p.2.2 ≤ 8) :
    (planStep p f).2.1 = upF p.2.1 (kSize f.kind) + kSize f.kind * f.count ∧ 0 ≤ (planStep p f).2.1 ∧ (planStep p f).2.1 ≤ p.2.1 + 71 ∧ 1 ≤ (planStep p f).2.2 ∧ (planStep p f).2.2 ≤ 8 := by
  obtain ⟨k1, k2, c1, c2⟩ := fldOk_bd h
  have hu := upF_eq h0 (by omega) k1 k2
  have hm : 1 ≤ kSize f.kind * f.count ∧ kSize f.kind * f.count ≤ 64 := by
    generalize kSize f.kind = s at *
    rcases (by omega : s = 1 ∨ s = 2 ∨ s = 3 ∨ s = 4 ∨ s = 5 ∨ s = 6 ∨ s = 7 ∨ s = 8) with rfl | rfl | rfl | rfl | rfl | rfl | rfl | rfl <;> omega
  have e : (planStep p f).2.1 = upF p.2.1 (kSize f.kind) + kSize f.kind * f.count := by
    unfold planStep
    simp only
    rw [w64_id (n := kSize f.kind * f.count) (by omega) (by omega), w64_id (by omega) (by omega)]
  have e2 : (planStep p f).2.2 = max p.2.2 (kSize f.kind) := rfl
  rw [e, e2]
  refine ⟨rfl, by omega, by omega, by omega, by omega⟩
theorem planF_bd : ∀ (fs : List Fld), fs.all fldOk = true → ∀ p : List Int × Int × Int, 0 ≤ p.2.1 → p.2.1 + 71 * fs.length ≤ 10000 → 1 ≤ p.2.2 → p.2.2 ≤ 8 →
    0 ≤ (fs.foldl planStep p).2.1 ∧ (fs.foldl planStep p).2.1 ≤ p.2.1 + 71 * fs.length ∧ 1 ≤ (fs.foldl planStep p).2.2 ∧ (fs.foldl planStep p).2.2 ≤ 8
  | [], _, p, h0, h1, h2, h3 => ⟨h0, by simp, h2, h3⟩
  | f :: r, h, p, h0, h1, h2, h3 => by
    rw [List.all_cons, Bool.and_eq_true] at h
    rw [List.length_cons] at h1 ⊢
    obtain ⟨_, b1, b2, b3, b4⟩ := planStep_bd h.1 h0 (by omega) h2 h3
    have := planF_bd r h.2 (planStep p f) b1 (by omega) b3 b4
    rw [List.foldl_cons]
    omega
theorem layCheck_zero {fs : List Fld} (h : layCheck fs = 0) : fs.length ≤ 8 ∧ fs.all fldOk = true ∧ planSize fs ≤ 256 := by
  unfold layCheck at h
  split at h
  · cases h
  · split at h
    · split at h
      · cases h
      · rename_i a b c
        exact ⟨by omega, b, by omega⟩
    · cases h
theorem plan_bd {fs : List Fld} (h8 : fs.length ≤ 8) (h : fs.all fldOk = true) : 0 ≤ (planF fs).2.1 ∧ (planF fs).2.1 ≤ 568 ∧ 1 ≤ (planF fs).2.2 ∧ (planF fs).2.2 ≤ 8 := by
  have := planF_bd fs h ([], 0, 1) (by simp) (by simp; omega) (by simp) (by simp)
  unfold planF
  simp only at this
  omega
theorem planSize_bd {fs : List Fld} (h8 : fs.length ≤ 8) (h : fs.all fldOk = true) : 0 ≤ planSize fs ∧ planSize fs ≤ 575 := by
  obtain ⟨a, b, c, d⟩ := plan_bd h8 h
  have := upF_eq a (by omega) c d
  unfold planSize
  omega
theorem col_ok {fs : List Fld} (h : layCheck fs = 0) {most : Int} (h1 : 1 ≤ most) (h2 : most ≤ 256) : colOk (layPlanOf fs) most = true := by
  obtain ⟨a, b, c⟩ := layCheck_zero h
  have := planSize_bd a b
  unfold layPlanOf
  rw [if_pos h]
  simp [colOk]
  omega
theorem findC_mem {id : Int} {c : Cmp} : ∀ {cs : List Cmp}, findC id cs = some c → c ∈ cs := by
  intro cs h
  obtain ⟨j, _, hj⟩ := idxF_some cs 0 h
  exact List.mem_of_getElem? hj
theorem compsGo_lay : ∀ (cs : List Cmp) (last : Int) (seen : List (List UInt8)), compsGo last seen cs = 0 → ∀ c ∈ cs, layCheck c.fields = 0
  | [], _, _, _, c, hc => by simp at hc
  | x :: r, last, seen, h, c, hc => by
    unfold compsGo at h
    split at h
    · cases h
    · split at h
      · cases h
      · split at h
        · rename_i h3; exact absurd h h3
        · rename_i h1 h2 h3
          rcases List.mem_cons.1 hc with rfl | hc
          · have h4 : fieldsF c.fields = 0 := by
              rcases (by omega : fieldsF c.fields = 0 ∨ fieldsF c.fields ≠ 0) with h | h
              · exact h
              · exact absurd h h3
            unfold fieldsF at h4
            split at h4
            · exact h4
            · cases h4
          · exact compsGo_lay r _ _ h c hc
theorem schema_lay {ver : Int} {cs : List Cmp} (h : schemaCheck ver cs = 0) : ∀ c ∈ cs, layCheck c.fields = 0 := by
  unfold schemaCheck at h
  split at h
  · cases h
  · exact compsGo_lay cs _ _ h
end Go.Proofs.YtoadihebdaooaaaGreat
namespace Go.Proofs.YtoadihebdaooaaaGreat
open Go.RowKit
set_option linter.unusedVariables false
/-- Bytes of a number, little end first. -/
def leB (n : Nat) : Nat → List UInt8
  | 0 => []
  | k + 1 => leB n k ++ [UInt8.ofNat (n / 256 ^ k)]
theorem leB_len (n k : Nat) : (leB n k).length = k := by
  induction k with
  | zero => rfl
  | succ k ih => simp [leB, ih]
/-- Bytes of an element. -/
def putN (k : Int) (x : WI) : Nat := (x.val % 2 ^ (8 * (kSize k).toNat)).toNat
def putB (k : Int) (x : WI) : List UInt8 := leB (putN k x) (kSize k).toNat
theorem putB_len (k : Int) (x : WI) : (putB k x).length = (kSize k).toNat := leB_len _ _
/-- Noughts up to a length. -/
def padB (l : List UInt8) (n : Nat) : List UInt8 := l ++ List.replicate (n - l.length) 0
theorem padB_len {l : List UInt8} {n : Nat} (h : l.length ≤ n) : (padB l n).length = n := by simp [padB]; omega
def cnt (fs : List Fld) : Nat := (fs.map (·.count.toNat)).sum
theorem cnt_snoc (fs : List Fld) (f : Fld) : cnt (fs ++ [f]) = cnt fs + f.count.toNat := by simp [cnt]
theorem cnt_cons (fs : List Fld) (f : Fld) : cnt (f :: fs) = f.count.toNat + cnt fs := by simp [cnt]
def packStep (s : (List Int × Int × Int) × List UInt8 × List WI) (f : Fld) : (List Int × Int × Int) × List UInt8 × List WI :=
  (planStep s.1 f, padB s.2.1 (upF s.1.2.1 (kSize f.kind)).toNat ++ (s.2.2.take f.count.toNat).flatMap (putB f.kind), s.2.2.drop f.count.toNat)
def packPre (fs : List Fld) (val : List WI) : (List Int × Int × Int) × List UInt8 × List WI := fs.foldl packStep (([], 0, 1), [], val)
/-- The row of a value. -/
def packF (fs : List Fld) (val : List WI) : List UInt8 := padB (packPre fs val).2.1 (planSize fs).toNat
theorem packPre_snoc (fs : List Fld) (f : Fld) (val : List WI) : packPre (fs ++ [f]) val = packStep (packPre fs val) f := by simp [packPre]
theorem packFold_fst (fs : List Fld) : ∀ q : (List Int × Int × Int) × List UInt8 × List WI, (fs.foldl packStep q).1 = fs.foldl planStep q.1 := by
  induction fs with
  | nil => intro q; rfl
  | cons f r ih => intro q; rw [List.foldl_cons, List.foldl_cons, ih]; rfl
theorem packPre_fst (fs : List Fld) (val : List WI) : (packPre fs val).1 = planF fs := packFold_fst fs _
theorem planFold_pre (l : List Fld) : ∀ p : List Int × Int × Int, ∃ t, (l.foldl planStep p).1 = p.1 ++ t := by
  induction l with
  | nil => intro p; exact ⟨[], by simp⟩
  | cons f r ih => intro p; obtain ⟨t, ht⟩ := ih (planStep p f); exact ⟨upF p.2.1 (kSize f.kind) :: t, by rw [List.foldl_cons, ht]; simp [planStep]⟩
theorem planF_split (fs : List Fld) (k : Nat) : planF fs = (fs.drop k).foldl planStep (planF (fs.take k)) := by
  rw [planF, planF, ← List.foldl_append, List.take_append_drop]
theorem plan_at {fs : List Fld} {k : Nat} {f : Fld} (h : fs[k]? = some f) : (planF fs).1[k]? = some (upF (planF (fs.take k)).2.1 (kSize f.kind)) := by
  have hk : k < fs.length := (List.getElem?_eq_some_iff.1 h).1
  rw [planF_split fs (k + 1), take_snoc h, planF_snoc]
  obtain ⟨t, ht⟩ := planFold_pre (fs.drop (k + 1)) (planStep (planF (fs.take k)) f)
  rw [ht]
  have hl : (planF (fs.take k)).1.length = k := by rw [planF_len, List.length_take]; omega
  simp only [planStep]
  rw [List.append_assoc, List.getElem?_append_right (by omega), hl]
  simp
theorem flat_len (k : Int) (l : List WI) : (l.flatMap (putB k)).length = l.length * (kSize k).toNat := by
  induction l with
  | nil => simp
  | cons x r ih => rw [List.flatMap_cons, List.length_append, ih, putB_len, List.length_cons, Nat.succ_mul]; omega
theorem all_take {α : Type} {p : α → Bool} {l : List α} (h : l.all p = true) (k : Nat) : (l.take k).all p = true := by
  rw [List.all_eq_true] at h ⊢
  exact fun x hx => h x (List.mem_of_mem_take hx)
theorem pack_len : ∀ (n : Nat) (fs : List Fld), fs.length = n → n ≤ 8 → fs.all fldOk = true → ∀ val : List WI, cnt fs ≤ val.length →
    (packPre fs val).2.1.length = (planF fs).2.1.toNat ∧ (packPre fs val).2.2 = val.drop (cnt fs) := by
  intro n
  induction n with
  | zero =>
    intro fs hl _ _ val _
    obtain rfl := List.eq_nil_of_length_eq_zero hl
    exact ⟨rfl, rfl⟩
  | succ n ih =>
    intro fs hl h8 ha val hv
    rcases List.eq_nil_or_concat fs with rfl | ⟨r, f, rfl⟩
    · simp at hl
    · rw [List.concat_eq_append] at *
      have hlr : r.length = n := by simpa using hl
      rw [List.all_append, Bool.and_eq_true] at ha
      rw [cnt_snoc] at hv ⊢
      obtain ⟨i1, i2⟩ := ih r hlr (by omega) ha.1 val (by omega)
      have hf : fldOk f = true := by simpa using ha.2
      obtain ⟨k1, k2, c1, c2⟩ := fldOk_bd hf
      obtain ⟨b0, b1, b2, b3⟩ := plan_bd (by omega) ha.1
      obtain ⟨u1, u2, u3⟩ := upF_eq b0 (by omega) k1 k2
      obtain ⟨s1, s2, s3, s4, s5⟩ := planStep_bd hf b0 (by omega) b2 b3
      rw [packPre_snoc, planF_snoc, s1]
      simp only [packStep]
      rw [i2, packPre_fst]
      refine ⟨?_, by rw [List.drop_drop]⟩
      rw [List.length_append, padB_len (by omega), flat_len, List.length_take, List.length_drop, Nat.min_eq_left (by omega), Int.toNat_add (by omega) (Int.mul_nonneg (by omega) (by omega)), Int.toNat_mul (by omega) (by omega), Nat.mul_comm]
theorem packF_len {fs : List Fld} (h : layCheck fs = 0) {val : List WI} (hv : cnt fs ≤ val.length) : (packF fs val).length = (planSize fs).toNat := by
  obtain ⟨h8, ha, _⟩ := layCheck_zero h
  obtain ⟨b0, b1, b2, b3⟩ := plan_bd h8 ha
  obtain ⟨u1, u2, u3⟩ := upF_eq b0 (by omega) b2 b3
  unfold packF
  rw [padB_len]
  rw [(pack_len _ fs rfl h8 ha val hv).1]
  unfold planSize
  omega
/-- Whether a value fits. -/
def fitGo : List Fld → List WI → Int
  | [], _ => 0
  | f :: r, v => if (v.take f.count.toNat).all (fitsF f.kind) then fitGo r (v.drop f.count.toNat) else 3
def fitF (fs : List Fld) (val : List WI) : Int := if layCheck fs ≠ 0 then layCheck fs else if val.length ≠ cnt fs then 4 else fitGo fs val
theorem fitGo_val : ∀ (fs : List Fld) (v : List WI), fitGo fs v = 0 ∨ fitGo fs v = 3
  | [], _ => .inl rfl
  | f :: r, v => by
    unfold fitGo
    split
    · exact fitGo_val r _
    · exact .inr rfl
end Go.Proofs.YtoadihebdaooaaaGreat
namespace Go.Proofs.YtoadihebdaooaaaGreat
open Go.RowKit
set_option linter.unusedVariables false
theorem iswide_any (k : Int) (w : World) (h : k = 1 ∨ k = 2 ∨ k = 4 ∨ k = 8) : Calls Tryz.prog 166 #[.int .i64 k] w fun e w' => e = .returned (.bool true) ∧ w = w' := by
  rcases h with rfl | rfl | rfl | rfl <;>
  · go_enter Tryz.func166, Tryz.ntmps166
    go_wp2_with fail
    go_returns
    exact ⟨rfl, rfl⟩
theorem byteCells_app (l r : List UInt8) : Lib.byteCells (l ++ r) = Lib.byteCells l ++ Lib.byteCells r := by simp [Lib.byteCells]
theorem leB_succ (n k : Nat) : Lib.byteCells (leB n (k + 1)) = Lib.byteCells (leB n k) ++ [.int .u8 ((n / 256 ^ k % 256 : Nat) : Int)] := by
  rw [leB, byteCells_app]
  simp [Lib.byteCells]
theorem Tryz.info5 : (Tryz.prog.info? 5).map (fun i => (i.zero, i.size, i.bytes)) = some (some (.int .u8 0), 1, 1) := by kernel_rfl
set_option maxRecDepth 100000 in
set_option maxHeartbeats 1000000 in
theorem num_1 (B b : Nat) (bs : List UInt8) (v : Value) (n : Nat) (w : World) (hB : B ≤ b) (hBw : B ≤ w.heap.size) (hbk : w.heap[b]? = some (.cells #[v] 235 (0, 0))) (hown : w.ownsRow B 5 1 v bs.length (Lib.byteCells bs))
    (hn : n < 256) (hl : bs.length ≤ 100000) :
    Calls Tryz.prog 143 #[.pointer (some ⟨b, 0, none⟩), .int .i64 1, .int .u64 (n : Int)] w fun e w' => e = .returned (.bool true) ∧ ∃ v', w'.heap[b]? = some (.cells #[v'] 235 (0, 0)) ∧ w'.ownsRow B 5 1 v' (bs.length + 1) (Lib.byteCells (bs ++ leB n 1)) ∧ Below B w w' := by
  obtain ⟨i0, hi, hz0, hz1, hz2⟩ := info_parts Tryz.info5
  have hsh : ((n : Int) / 256 != 0) = false := by
    have : (n : Int) / 256 = 0 := by omega
    rw [this]; rfl
  obtain ⟨L, hL⟩ : ∃ L, L = bs.length := ⟨_, rfl⟩
  rw [← hL] at hown hl ⊢
  have HL := Lib.hid hL
  have HN := Lib.hid hn
  have HO := Lib.hid hown
  have HB := Lib.hid hbk
  clear hL hn hown hbk
  go_enter Tryz.func143, Tryz.ntmps143
  go_wp2_with fail
  refine (iswide_any _ _ (by simp)).mono ?_
  rintro e w1 ⟨rfl, rfl⟩
  go_wp2_with fail
  go_loopw [2, 27] (fun nn i wr => ∃ (j : Nat) (v' : Value), j ≤ 1 ∧ i = .int .i64 j ∧ nn = .int .u64 ((n / 256 ^ j : Nat) : Int) ∧ wr.heap[b]? = some (.cells #[v'] 235 (0, 0)) ∧ wr.ownsRow B 5 1 v' (L + j) (Lib.byteCells (bs ++ leB n j)) ∧ Below B w wr) (fun _ i _ => 1 - (intOf i).toNat)
  case atStart => exact ⟨0, v, by omega, rfl, by simp, HB.out, by simpa [leB] using HO.out, Below.refl _ _⟩
  case round =>
    obtain ⟨j, v', hj, rfl, rfl, hbk, hown, hbel⟩ := hrel
    by_cases hlt : j < 1
    · obtain ⟨va, vc, rfl⟩ := ownsRow_slice hown
      have hBwr : B ≤ wr.heap.size := Nat.le_trans hBw (by have := hbel.size; exact this)
      have c0 := cell_at hbk 0
      have f0 := free_at hbk 0
      simp at c0
      have hne := ownsRow_ne_block3 hown hbk (fun cur he => by cases he)
      generalize hm : n / 256 ^ j = m at *
      have HM := Lib.hid hm
      have hm0 : (0 : Int) ≤ (m : Int) := by omega
      have hmlt : (m : Int) ≤ 18446744073709551615 := by
        have h1 : n / 256 ^ j ≤ n := Nat.div_le_self _ _
        have := HN.out
        omega
      have HOW := Lib.hid hown
      have HBK := Lib.hid hbk
      have HNE := Lib.hid hne
      clear hown hbk hm hne
      go_wp2_with (at_builtin; go_loud (refine wpList_append_own _ rfl (.tmp 33) (.tmp 36) 192 rfl B 5 i0 (.int .u8 0) 1 1 Tryz.underlying192 hi hz0 hz1 hz2 rfl (by decide) (.slice va (L + j) vc) (L + j) _ rfl (HOW.out.alloc _) ⟨wr.heap.size, 0, none⟩ 1 1 [.int .u8 ((m : Int) % 256)] rfl rfl ?c1 ?c2 ?c3 ?c4 ?c5 ?_))
      case c1 =>
        intro i u hu
        match i, hu with
        | 0, hu => simp at hu; subst hu; simp [Addr.add]
      case c2 => intro u hu; simp at hu; subst hu; rfl
      case c3 => unfold maxLen; omega
      case c4 => omega
      case c5 => simp; omega
      intro v2 w2 hown2 hg2 _
      obtain ⟨va2, vc2, rfl⟩ := ownsRow_slice hown2
      have hbk2 := keepG hg2 (keepA _ HBK.out) HNE.out
      have d0 := cell_at hbk2 0
      have d1 := free_at hbk2 0
      simp at d0
      have hbel2 : Below B w w2 := (hbel.alloc hBwr _).grown hg2 (by simp; omega) (fun x hx => (HOW.out.lt x hx).1)
      have hset := hset w2 b 0 (.slice va2 (L + j + 1) vc2) _ _ _ hbk2
      have hown3 := ownsRow_setCell_other hown2 (a := ⟨b, 0, none⟩) (fun e => ownsRow_ne_block3 hown2 hbk2 (fun cur he => by cases he) e.symm) (.slice va2 (L + j + 1) vc2)
      have HS := Lib.hid hset
      have HO2 := Lib.hid hown3
      have HB2 := Lib.hid hbel2
      have HBK2 := Lib.hid hbk2
      clear hset hown2 hown3 hbel2 hbk2
      go_wp2
      go_roundw
      case rel =>
        refine ⟨j + 1, _, by omega, by go_num, ?_, HS.out, ?_, HB2.out.setCell hB _⟩
        · rw [Nat.pow_succ, ← Nat.div_div_eq_div_mul, HM.out]
          simp
        · have := HO2.out
          rw [byteCells_app, leB_succ, ← List.append_assoc, ← byteCells_app, HM.out]
          simpa [Nat.add_assoc] using this
      case measure => simp [intOf]; omega
    · obtain rfl : j = 1 := by omega
      go_wp2
      go_returns
      exact ⟨rfl, _, hbk, hown, hbel⟩
set_option maxRecDepth 100000 in
set_option maxHeartbeats 1000000 in
theorem num_2 (B b : Nat) (bs : List UInt8) (v : Value) (n : Nat) (w : World) (hB : B ≤ b) (hBw : B ≤ w.heap.size) (hbk : w.heap[b]? = some (.cells #[v] 235 (0, 0))) (hown : w.ownsRow B 5 1 v bs.length (Lib.byteCells bs))
    (hn : n < 65536) (hl : bs.length ≤ 100000) :
    Calls Tryz.prog 143 #[.pointer (some ⟨b, 0, none⟩), .int .i64 2, .int .u64 (n : Int)] w fun e w' => e = .returned (.bool true) ∧ ∃ v', w'.heap[b]? = some (.cells #[v'] 235 (0, 0)) ∧ w'.ownsRow B 5 1 v' (bs.length + 2) (Lib.byteCells (bs ++ leB n 2)) ∧ Below B w w' := by
  obtain ⟨i0, hi, hz0, hz1, hz2⟩ := info_parts Tryz.info5
  have hsh : ((n : Int) / 65536 != 0) = false := by
    have : (n : Int) / 65536 = 0 := by omega
    rw [this]; rfl
  obtain ⟨L, hL⟩ : ∃ L, L = bs.length := ⟨_, rfl⟩
  rw [← hL] at hown hl ⊢
  have HL := Lib.hid hL
  have HN := Lib.hid hn
  have HO := Lib.hid hown
  have HB := Lib.hid hbk
  clear hL hn hown hbk
  go_enter Tryz.func143, Tryz.ntmps143
  go_wp2_with fail
  refine (iswide_any _ _ (by simp)).mono ?_
  rintro e w1 ⟨rfl, rfl⟩
  go_wp2_with fail
  go_loopw [2, 27] (fun nn i wr => ∃ (j : Nat) (v' : Value), j ≤ 2 ∧ i = .int .i64 j ∧ nn = .int .u64 ((n / 256 ^ j : Nat) : Int) ∧ wr.heap[b]? = some (.cells #[v'] 235 (0, 0)) ∧ wr.ownsRow B 5 1 v' (L + j) (Lib.byteCells (bs ++ leB n j)) ∧ Below B w wr) (fun _ i _ => 2 - (intOf i).toNat)
  case atStart => exact ⟨0, v, by omega, rfl, by simp, HB.out, by simpa [leB] using HO.out, Below.refl _ _⟩
  case round =>
    obtain ⟨j, v', hj, rfl, rfl, hbk, hown, hbel⟩ := hrel
    by_cases hlt : j < 2
    · obtain ⟨va, vc, rfl⟩ := ownsRow_slice hown
      have hBwr : B ≤ wr.heap.size := Nat.le_trans hBw (by have := hbel.size; exact this)
      have c0 := cell_at hbk 0
      have f0 := free_at hbk 0
      simp at c0
      have hne := ownsRow_ne_block3 hown hbk (fun cur he => by cases he)
      generalize hm : n / 256 ^ j = m at *
      have HM := Lib.hid hm
      have hm0 : (0 : Int) ≤ (m : Int) := by omega
      have hmlt : (m : Int) ≤ 18446744073709551615 := by
        have h1 : n / 256 ^ j ≤ n := Nat.div_le_self _ _
        have := HN.out
        omega
      have HOW := Lib.hid hown
      have HBK := Lib.hid hbk
      have HNE := Lib.hid hne
      clear hown hbk hm hne
      go_wp2_with (at_builtin; go_loud (refine wpList_append_own _ rfl (.tmp 33) (.tmp 36) 192 rfl B 5 i0 (.int .u8 0) 1 1 Tryz.underlying192 hi hz0 hz1 hz2 rfl (by decide) (.slice va (L + j) vc) (L + j) _ rfl (HOW.out.alloc _) ⟨wr.heap.size, 0, none⟩ 1 1 [.int .u8 ((m : Int) % 256)] rfl rfl ?c1 ?c2 ?c3 ?c4 ?c5 ?_))
      case c1 =>
        intro i u hu
        match i, hu with
        | 0, hu => simp at hu; subst hu; simp [Addr.add]
      case c2 => intro u hu; simp at hu; subst hu; rfl
      case c3 => unfold maxLen; omega
      case c4 => omega
      case c5 => simp; omega
      intro v2 w2 hown2 hg2 _
      obtain ⟨va2, vc2, rfl⟩ := ownsRow_slice hown2
      have hbk2 := keepG hg2 (keepA _ HBK.out) HNE.out
      have d0 := cell_at hbk2 0
      have d1 := free_at hbk2 0
      simp at d0
      have hbel2 : Below B w w2 := (hbel.alloc hBwr _).grown hg2 (by simp; omega) (fun x hx => (HOW.out.lt x hx).1)
      have hset := hset w2 b 0 (.slice va2 (L + j + 1) vc2) _ _ _ hbk2
      have hown3 := ownsRow_setCell_other hown2 (a := ⟨b, 0, none⟩) (fun e => ownsRow_ne_block3 hown2 hbk2 (fun cur he => by cases he) e.symm) (.slice va2 (L + j + 1) vc2)
      have HS := Lib.hid hset
      have HO2 := Lib.hid hown3
      have HB2 := Lib.hid hbel2
      have HBK2 := Lib.hid hbk2
      clear hset hown2 hown3 hbel2 hbk2
      go_wp2
      go_roundw
      case rel =>
        refine ⟨j + 1, _, by omega, by go_num, ?_, HS.out, ?_, HB2.out.setCell hB _⟩
        · rw [Nat.pow_succ, ← Nat.div_div_eq_div_mul, HM.out]
          simp
        · have := HO2.out
          rw [byteCells_app, leB_succ, ← List.append_assoc, ← byteCells_app, HM.out]
          simpa [Nat.add_assoc] using this
      case measure => simp [intOf]; omega
    · obtain rfl : j = 2 := by omega
      go_wp2
      go_returns
      exact ⟨rfl, _, hbk, hown, hbel⟩
set_option maxRecDepth 100000 in
set_option maxHeartbeats 1000000 in
theorem num_4 (B b : Nat) (bs : List UInt8) (v : Value) (n : Nat) (w : World) (hB : B ≤ b) (hBw : B ≤ w.heap.size) (hbk : w.heap[b]? = some (.cells #[v] 235 (0, 0))) (hown : w.ownsRow B 5 1 v bs.length (Lib.byteCells bs))
    (hn : n < 4294967296) (hl : bs.length ≤ 100000) :
    Calls Tryz.prog 143 #[.pointer (some ⟨b, 0, none⟩), .int .i64 4, .int .u64 (n : Int)] w fun e w' => e = .returned (.bool true) ∧ ∃ v', w'.heap[b]? = some (.cells #[v'] 235 (0, 0)) ∧ w'.ownsRow B 5 1 v' (bs.length + 4) (Lib.byteCells (bs ++ leB n 4)) ∧ Below B w w' := by
  obtain ⟨i0, hi, hz0, hz1, hz2⟩ := info_parts Tryz.info5
  have hsh : ((n : Int) / 4294967296 != 0) = false := by
    have : (n : Int) / 4294967296 = 0 := by omega
    rw [this]; rfl
  obtain ⟨L, hL⟩ : ∃ L, L = bs.length := ⟨_, rfl⟩
  rw [← hL] at hown hl ⊢
  have HL := Lib.hid hL
  have HN := Lib.hid hn
  have HO := Lib.hid hown
  have HB := Lib.hid hbk
  clear hL hn hown hbk
  go_enter Tryz.func143, Tryz.ntmps143
  go_wp2_with fail
  refine (iswide_any _ _ (by simp)).mono ?_
  rintro e w1 ⟨rfl, rfl⟩
  go_wp2_with fail
  go_loopw [2, 27] (fun nn i wr => ∃ (j : Nat) (v' : Value), j ≤ 4 ∧ i = .int .i64 j ∧ nn = .int .u64 ((n / 256 ^ j : Nat) : Int) ∧ wr.heap[b]? = some (.cells #[v'] 235 (0, 0)) ∧ wr.ownsRow B 5 1 v' (L + j) (Lib.byteCells (bs ++ leB n j)) ∧ Below B w wr) (fun _ i _ => 4 - (intOf i).toNat)
  case atStart => exact ⟨0, v, by omega, rfl, by simp, HB.out, by simpa [leB] using HO.out, Below.refl _ _⟩
  case round =>
    obtain ⟨j, v', hj, rfl, rfl, hbk, hown, hbel⟩ := hrel
    by_cases hlt : j < 4
    · obtain ⟨va, vc, rfl⟩ := ownsRow_slice hown
      have hBwr : B ≤ wr.heap.size := Nat.le_trans hBw (by have := hbel.size; exact this)
      have c0 := cell_at hbk 0
      have f0 := free_at hbk 0
      simp at c0
      have hne := ownsRow_ne_block3 hown hbk (fun cur he => by cases he)
      generalize hm : n / 256 ^ j = m at *
      have HM := Lib.hid hm
      have hm0 : (0 : Int) ≤ (m : Int) := by omega
      have hmlt : (m : Int) ≤ 18446744073709551615 := by
        have h1 : n / 256 ^ j ≤ n := Nat.div_le_self _ _
        have := HN.out
        omega
      have HOW := Lib.hid hown
      have HBK := Lib.hid hbk
      have HNE := Lib.hid hne
      clear hown hbk hm hne
      go_wp2_with (at_builtin; go_loud (refine wpList_append_own _ rfl (.tmp 33) (.tmp 36) 192 rfl B 5 i0 (.int .u8 0) 1 1 Tryz.underlying192 hi hz0 hz1 hz2 rfl (by decide) (.slice va (L + j) vc) (L + j) _ rfl (HOW.out.alloc _) ⟨wr.heap.size, 0, none⟩ 1 1 [.int .u8 ((m : Int) % 256)] rfl rfl ?c1 ?c2 ?c3 ?c4 ?c5 ?_))
      case c1 =>
        intro i u hu
        match i, hu with
        | 0, hu => simp at hu; subst hu; simp [Addr.add]
      case c2 => intro u hu; simp at hu; subst hu; rfl
      case c3 => unfold maxLen; omega
      case c4 => omega
      case c5 => simp; omega
      intro v2 w2 hown2 hg2 _
      obtain ⟨va2, vc2, rfl⟩ := ownsRow_slice hown2
      have hbk2 := keepG hg2 (keepA _ HBK.out) HNE.out
      have d0 := cell_at hbk2 0
      have d1 := free_at hbk2 0
      simp at d0
      have hbel2 : Below B w w2 := (hbel.alloc hBwr _).grown hg2 (by simp; omega) (fun x hx => (HOW.out.lt x hx).1)
      have hset := hset w2 b 0 (.slice va2 (L + j + 1) vc2) _ _ _ hbk2
      have hown3 := ownsRow_setCell_other hown2 (a := ⟨b, 0, none⟩) (fun e => ownsRow_ne_block3 hown2 hbk2 (fun cur he => by cases he) e.symm) (.slice va2 (L + j + 1) vc2)
      have HS := Lib.hid hset
      have HO2 := Lib.hid hown3
      have HB2 := Lib.hid hbel2
      have HBK2 := Lib.hid hbk2
      clear hset hown2 hown3 hbel2 hbk2
      go_wp2
      go_roundw
      case rel =>
        refine ⟨j + 1, _, by omega, by go_num, ?_, HS.out, ?_, HB2.out.setCell hB _⟩
        · rw [Nat.pow_succ, ← Nat.div_div_eq_div_mul, HM.out]
          simp
        · have := HO2.out
          rw [byteCells_app, leB_succ, ← List.append_assoc, ← byteCells_app, HM.out]
          simpa [Nat.add_assoc] using this
      case measure => simp [intOf]; omega
    · obtain rfl : j = 4 := by omega
      go_wp2
      go_returns
      exact ⟨rfl, _, hbk, hown, hbel⟩
set_option maxRecDepth 100000 in
set_option maxHeartbeats 1000000 in
theorem num_8 (B b : Nat) (bs : List UInt8) (v : Value) (n : Nat) (w : World) (hB : B ≤ b) (hBw : B ≤ w.heap.size) (hbk : w.heap[b]? = some (.cells #[v] 235 (0, 0))) (hown : w.ownsRow B 5 1 v bs.length (Lib.byteCells bs))
    (hn : n < 18446744073709551616) (hl : bs.length ≤ 100000) :
    Calls Tryz.prog 143 #[.pointer (some ⟨b, 0, none⟩), .int .i64 8, .int .u64 (n : Int)] w fun e w' => e = .returned (.bool true) ∧ ∃ v', w'.heap[b]? = some (.cells #[v'] 235 (0, 0)) ∧ w'.ownsRow B 5 1 v' (bs.length + 8) (Lib.byteCells (bs ++ leB n 8)) ∧ Below B w w' := by
  obtain ⟨i0, hi, hz0, hz1, hz2⟩ := info_parts Tryz.info5
  have hsh : ((n : Int) / 18446744073709551616 != 0) = false := by
    have : (n : Int) / 18446744073709551616 = 0 := by omega
    rw [this]; rfl
  obtain ⟨L, hL⟩ : ∃ L, L = bs.length := ⟨_, rfl⟩
  rw [← hL] at hown hl ⊢
  have HL := Lib.hid hL
  have HN := Lib.hid hn
  have HO := Lib.hid hown
  have HB := Lib.hid hbk
  clear hL hn hown hbk
  go_enter Tryz.func143, Tryz.ntmps143
  go_wp2_with fail
  refine (iswide_any _ _ (by simp)).mono ?_
  rintro e w1 ⟨rfl, rfl⟩
  go_wp2_with fail
  go_loopw [2, 27] (fun nn i wr => ∃ (j : Nat) (v' : Value), j ≤ 8 ∧ i = .int .i64 j ∧ nn = .int .u64 ((n / 256 ^ j : Nat) : Int) ∧ wr.heap[b]? = some (.cells #[v'] 235 (0, 0)) ∧ wr.ownsRow B 5 1 v' (L + j) (Lib.byteCells (bs ++ leB n j)) ∧ Below B w wr) (fun _ i _ => 8 - (intOf i).toNat)
  case atStart => exact ⟨0, v, by omega, rfl, by simp, HB.out, by simpa [leB] using HO.out, Below.refl _ _⟩
  case round =>
    obtain ⟨j, v', hj, rfl, rfl, hbk, hown, hbel⟩ := hrel
    by_cases hlt : j < 8
    · obtain ⟨va, vc, rfl⟩ := ownsRow_slice hown
      have hBwr : B ≤ wr.heap.size := Nat.le_trans hBw (by have := hbel.size; exact this)
      have c0 := cell_at hbk 0
      have f0 := free_at hbk 0
      simp at c0
      have hne := ownsRow_ne_block3 hown hbk (fun cur he => by cases he)
      generalize hm : n / 256 ^ j = m at *
      have HM := Lib.hid hm
      have hm0 : (0 : Int) ≤ (m : Int) := by omega
      have hmlt : (m : Int) ≤ 18446744073709551615 := by
        have h1 : n / 256 ^ j ≤ n := Nat.div_le_self _ _
        have := HN.out
        omega
      have HOW := Lib.hid hown
      have HBK := Lib.hid hbk
      have HNE := Lib.hid hne
      clear hown hbk hm hne
      go_wp2_with (at_builtin; go_loud (refine wpList_append_own _ rfl (.tmp 33) (.tmp 36) 192 rfl B 5 i0 (.int .u8 0) 1 1 Tryz.underlying192 hi hz0 hz1 hz2 rfl (by decide) (.slice va (L + j) vc) (L + j) _ rfl (HOW.out.alloc _) ⟨wr.heap.size, 0, none⟩ 1 1 [.int .u8 ((m : Int) % 256)] rfl rfl ?c1 ?c2 ?c3 ?c4 ?c5 ?_))
      case c1 =>
        intro i u hu
        match i, hu with
        | 0, hu => simp at hu; subst hu; simp [Addr.add]
      case c2 => intro u hu; simp at hu; subst hu; rfl
      case c3 => unfold maxLen; omega
      case c4 => omega
      case c5 => simp; omega
      intro v2 w2 hown2 hg2 _
      obtain ⟨va2, vc2, rfl⟩ := ownsRow_slice hown2
      have hbk2 := keepG hg2 (keepA _ HBK.out) HNE.out
      have d0 := cell_at hbk2 0
      have d1 := free_at hbk2 0
      simp at d0
      have hbel2 : Below B w w2 := (hbel.alloc hBwr _).grown hg2 (by simp; omega) (fun x hx => (HOW.out.lt x hx).1)
      have hset := hset w2 b 0 (.slice va2 (L + j + 1) vc2) _ _ _ hbk2
      have hown3 := ownsRow_setCell_other hown2 (a := ⟨b, 0, none⟩) (fun e => ownsRow_ne_block3 hown2 hbk2 (fun cur he => by cases he) e.symm) (.slice va2 (L + j + 1) vc2)
      have HS := Lib.hid hset
      have HO2 := Lib.hid hown3
      have HB2 := Lib.hid hbel2
      have HBK2 := Lib.hid hbk2
      clear hset hown2 hown3 hbel2 hbk2
      go_wp2
      go_roundw
      case rel =>
        refine ⟨j + 1, _, by omega, by go_num, ?_, HS.out, ?_, HB2.out.setCell hB _⟩
        · rw [Nat.pow_succ, ← Nat.div_div_eq_div_mul, HM.out]
          simp
        · have := HO2.out
          rw [byteCells_app, leB_succ, ← List.append_assoc, ← byteCells_app, HM.out]
          simpa [Nat.add_assoc] using this
      case measure => simp [intOf]; omega
    · obtain rfl : j = 8 := by omega
      go_wp2
      go_returns
      exact ⟨rfl, _, hbk, hown, hbel⟩
theorem num_any (B b : Nat) (bs : List UInt8) (v : Value) (k n : Nat) (w : World) (hB : B ≤ b) (hBw : B ≤ w.heap.size) (hbk : w.heap[b]? = some (.cells #[v] 235 (0, 0))) (hown : w.ownsRow B 5 1 v bs.length (Lib.byteCells bs))
    (hk : k = 1 ∨ k = 2 ∨ k = 4 ∨ k = 8) (hn : n < 256 ^ k) (hl : bs.length ≤ 100000) :
    Calls Tryz.prog 143 #[.pointer (some ⟨b, 0, none⟩), .int .i64 (k : Int), .int .u64 (n : Int)] w fun e w' => e = .returned (.bool true) ∧ ∃ v', w'.heap[b]? = some (.cells #[v'] 235 (0, 0)) ∧ w'.ownsRow B 5 1 v' (bs.length + k) (Lib.byteCells (bs ++ leB n k)) ∧ Below B w w' := by
  rcases hk with rfl | rfl | rfl | rfl
  · exact num_1 B b bs v n w hB hBw hbk hown hn hl
  · exact num_2 B b bs v n w hB hBw hbk hown hn hl
  · exact num_4 B b bs v n w hB hBw hbk hown hn hl
  · exact num_8 B b bs v n w hB hBw hbk hown hn hl
set_option maxRecDepth 100000 in
theorem wstring_any (B b : Nat) (bs : List UInt8) (v : Value) (w : World) (hbk : w.heap[b]? = some (.cells #[v] 235 (0, 0))) (hown : w.ownsRow B 5 1 v bs.length (Lib.byteCells bs)) :
    Calls Tryz.prog 145 #[.pointer (some ⟨b, 0, none⟩)] w fun e w' => e = .returned (.string ⟨bs.toArray⟩) ∧ w = w' := by
  obtain ⟨va, vc, rfl⟩ := ownsRow_slice hown
  have c0 := cell_at hbk 0
  simp at c0
  have hcv : (convert 192 9 (.slice va bs.length vc)).run Tryz.prog w = .ok (.string ⟨bs.toArray⟩) w := by
    rcases Nat.eq_zero_or_pos bs.length with h0 | h0
    · obtain rfl := List.eq_nil_of_length_eq_zero h0
      rw [run_convert_bytes_string w 192 9 5 va _ vc Tryz.underlying192 Tryz.underlying5 Tryz.underlying9]
      cases va with
      | none => rfl
      | some a => exact run_bytesToString w a 0 vc [] (run_loadCells_list (P := Tryz.prog) w a [] (by simp))
    · obtain ⟨q, rfl, _, _, hq⟩ := row_block hown h0
      refine run_convert_bytes_back w 192 9 5 ⟨q, 0, none⟩ vc bs Tryz.underlying192 Tryz.underlying5 Tryz.underlying9 (fun j hj => ?_)
      rw [show (⟨q, 0, none⟩ : Addr).add j = ⟨q, j, none⟩ from by simp [Addr.add]; omega]
      exact hq j _ (by simp [Lib.byteCells, hj])
  clear hbk hown
  go_enter Tryz.func145, Tryz.ntmps145
  go_wp2_with fail
  go_returns
  exact ⟨rfl, rfl⟩
theorem kSize_set {k : Int} (h1 : 1 ≤ k) (h2 : k ≤ 10) : kSize k = 1 ∨ kSize k = 2 ∨ kSize k = 4 ∨ kSize k = 8 := by
  have h' : k = 1 ∨ k = 2 ∨ k = 3 ∨ k = 4 ∨ k = 5 ∨ k = 6 ∨ k = 7 ∨ k = 8 ∨ k = 9 ∨ k = 10 := by omega
  rcases h' with rfl | rfl | rfl | rfl | rfl | rfl | rfl | rfl | rfl | rfl <;> decide
theorem fits_hi {k : Int} {x : WI} (hx : x.wf) (hf : fitsF k x = true) : x.hi = 0 := by
  unfold fitsF at hf
  simp only [Bool.and_eq_true, decide_eq_true_eq] at hf
  obtain ⟨⟨⟨hk, hfo⟩, h1⟩, h2⟩ := hf
  have hb := kMax_bd k
  have hm : -9223372036854775808 ≤ kMin k := by
    unfold kMin
    split
    · rename_i h; have := hb.2.2 h; omega
    · omega
  obtain ⟨⟨a1, a2⟩, b1, b2⟩ := hx
  unfold WI.val at h1 h2
  split at h1 <;> rename_i hn <;> simp only [hn, if_true, if_false, Bool.false_eq_true] at h2 <;> omega
theorem and_mask (a : Int) (m : Nat) (h0 : 0 ≤ a) (h1 : a < 18446744073709551616) (hm : 2 ^ m - 1 < 18446744073709551616) : bits BinOp.and .u64 a ((2 ^ m - 1 : Nat) : Int) = ((a.toNat % 2 ^ m : Nat) : Int) := by
  rw [u64_and a _ h0 h1 (by omega) (by omega), Int.toNat_natCast, Nat.and_two_pow_sub_one_eq_mod]
theorem put_and {k : Int} {x : WI} (hx : x.wf) (hf : fitsF k x = true) (hk : kSize k = 1 ∨ kSize k = 2 ∨ kSize k = 4 ∨ kSize k = 8) :
    bits BinOp.and .u64 (if x.neg then IntKind.u64.wrap (-x.lo) else x.lo) (pMax (kSize k * 8)) = ((putN k x : Nat) : Int) := by
  have h0 := fits_hi hx hf
  obtain ⟨⟨a1, a2⟩, b1, b2⟩ := hx
  have hv : x.val = if x.neg then -x.lo else x.lo := by unfold WI.val; rw [h0]; simp
  have hr : ∃ a : Int, a = (if x.neg then IntKind.u64.wrap (-x.lo) else x.lo) ∧ 0 ≤ a ∧ a < 18446744073709551616 ∧ a = x.val % 18446744073709551616 := by
    rw [hv]
    cases x.neg
    · exact ⟨_, rfl, by simpa using b1, by simp; omega, by simp; omega⟩
    · simp only [if_true]
      rw [IntKind.wrap_u64]
      exact ⟨_, rfl, by omega, by omega, rfl⟩
  obtain ⟨a, ha, c1, c2, c3⟩ := hr
  rw [← ha]
  unfold putN
  rcases hk with h | h | h | h
  · have := and_mask a 8 c1 c2 (by decide)
    rw [h, show pMax (1 * 8) = ((2 ^ 8 - 1 : Nat) : Int) from rfl, this, show (8 * (1 : Int).toNat) = 8 from rfl, c3]
    simp
    omega
  · have := and_mask a 16 c1 c2 (by decide)
    rw [h, show pMax (2 * 8) = ((2 ^ 16 - 1 : Nat) : Int) from rfl, this, show (8 * (2 : Int).toNat) = 16 from rfl, c3]
    simp
    omega
  · have := and_mask a 32 c1 c2 (by decide)
    rw [h, show pMax (4 * 8) = ((2 ^ 32 - 1 : Nat) : Int) from rfl, this, show (8 * (4 : Int).toNat) = 32 from rfl, c3]
    simp
    omega
  · have := and_mask a 64 c1 c2 (by decide)
    rw [h, show pMax (8 * 8) = ((2 ^ 64 - 1 : Nat) : Int) from rfl, this, show (8 * (8 : Int).toNat) = 64 from rfl, c3]
    simp
    omega
theorem putN_lt (k : Int) (x : WI) : putN k x < 256 ^ (kSize k).toNat := by
  unfold putN
  have e : (2 : Int) ^ (8 * (kSize k).toNat) = ((256 ^ (kSize k).toNat : Nat) : Int) := by rw [Int.pow_mul]; simp
  rw [e]
  have hp : 0 < 256 ^ (kSize k).toNat := Nat.pow_pos (by decide)
  have h1 := Int.emod_lt_of_pos x.val (show (0 : Int) < ((256 ^ (kSize k).toNat : Nat) : Int) by omega)
  have h2 := Int.emod_nonneg x.val (show ((256 ^ (kSize k).toNat : Nat) : Int) ≠ 0 by omega)
  omega
set_option maxRecDepth 100000 in
theorem put_any (k : Int) (x : WI) (w : World) (hx : x.wf) (hf : fitsF k x = true) : Calls Tryz.prog 109 #[.int .i64 k, x.v] w fun e w' => e = .returned (.tuple #[.string ⟨(putB k x).toArray⟩, .int .i64 0]) ∧ Below w.heap.size w w' := by
  have hk : kindB k = true := by unfold fitsF at hf; simp only [Bool.and_eq_true] at hf; exact hf.1.1.1
  obtain ⟨k1, k2⟩ := kindB_bd hk
  have HF := Lib.hid hf
  clear hf
  have HX := Lib.hid hx
  obtain ⟨n, hi, lo⟩ := x
  cases n with
  | false =>
    show Calls Tryz.prog 109 #[.int .i64 k, .agg #[.bool false, .int .u64 hi, .int .u64 lo]] w _
    go_enter Tryz.func109, Tryz.ntmps109
    go_wp2_with fail
    refine (isKind_any _ _).mono ?_
    rintro e w1 ⟨rfl, rfl⟩
    rw [hk]
    go_wp2_with fail
    refine (fits_any k ⟨false, hi, lo⟩ _ HX.out).mono ?_
    rintro e w1 ⟨rfl, hb1⟩
    rw [HF.out]
    have hz := hb1.size
    have hblk := keep hb1 (heap_alloc_new w _)
    have c0 := cell_at hblk 0
    have c1 := cell_at hblk 1
    have c2 := cell_at hblk 2
    simp at c0 c1 c2 hz
    go_wp2_with fail
    refine (size_any _ _).mono ?_
    rintro e w2 ⟨rfl, hb2⟩
    go_wp2_with fail
    refine (size_any _ _).mono ?_
    rintro e w3 ⟨rfl, hb3⟩
    have hks := kSize_set k1 k2
    have hkb := kSize_bd k
    go_wp2_with fail
    refine (power_any _ _ (by omega)).mono ?_
    rintro e w4 ⟨rfl, rfl⟩
    have HAND := Lib.hid (put_and HX.out HF.out hks)
    obtain ⟨s, hs⟩ : ∃ s : Nat, kSize k = s := ⟨(kSize k).toNat, by omega⟩
    go_wp2_with fail
    have hw := keep hb3 (keep hb2 (heap_alloc_new w1 (.cells #[.slice none 0 0] 235)))
    have hz2 := hb2.size
    have hz3 := hb3.size
    have hlt := putN_lt k ⟨false, hi, lo⟩
    simp at hz2
    have hand : bits BinOp.and .u64 lo (pMax (kSize k * 8)) = _ := HAND.out
    rw [hs] at hand hlt
    rw [hand]
    refine (num_any w1.heap.size w1.heap.size [] (.slice none 0 0) s _ _ (Nat.le_refl _) (by omega) hw (World.ownsRow_nil _ _ _ _) (by omega) hlt (by simp)).mono ?_
    rintro e w5 ⟨rfl, v5, hw5, ho5, hb5⟩
    have HS := Lib.hid hs
    have HW := Lib.hid hw5
    have HO := Lib.hid ho5
    have HB : Hid (Below w.heap.size w w5) := Lib.hid ((((((Below.refl _ _).alloc (Nat.le_refl _) _).trans (hb1.mono (by simp))).alloc (by omega) _).trans ((hb2.trans (hb3.mono (by have := hb2.size; exact this))).mono (by simp; omega))).trans (hb5.mono (by omega)))
    clear hs hw hw5 ho5 hand hlt hblk hks hkb
    go_wp2_with fail
    have hl : (putB k ⟨false, hi, lo⟩).length = s := by rw [putB_len, HS.out]; rfl
    refine (wstring_any w1.heap.size w1.heap.size (putB k ⟨false, hi, lo⟩) v5 _ HW.out (by
      have := HO.out
      rw [hl]
      unfold putB
      rw [HS.out]
      simpa using this)).mono ?_
    rintro e w6 ⟨rfl, rfl⟩
    clear hl
    go_wp2_with fail
    go_ret2
    exact ⟨rfl, HB.out⟩
  | true =>
    show Calls Tryz.prog 109 #[.int .i64 k, .agg #[.bool true, .int .u64 hi, .int .u64 lo]] w _
    go_enter Tryz.func109, Tryz.ntmps109
    go_wp2_with fail
    refine (isKind_any _ _).mono ?_
    rintro e w1 ⟨rfl, rfl⟩
    rw [hk]
    go_wp2_with fail
    refine (fits_any k ⟨true, hi, lo⟩ _ HX.out).mono ?_
    rintro e w1 ⟨rfl, hb1⟩
    rw [HF.out]
    have hz := hb1.size
    have hblk := keep hb1 (heap_alloc_new w _)
    have c0 := cell_at hblk 0
    have c1 := cell_at hblk 1
    have c2 := cell_at hblk 2
    simp at c0 c1 c2 hz
    go_wp2_with fail
    refine (size_any _ _).mono ?_
    rintro e w2 ⟨rfl, hb2⟩
    go_wp2_with fail
    refine (size_any _ _).mono ?_
    rintro e w3 ⟨rfl, hb3⟩
    have hks := kSize_set k1 k2
    have hkb := kSize_bd k
    go_wp2_with fail
    refine (power_any _ _ (by omega)).mono ?_
    rintro e w4 ⟨rfl, rfl⟩
    have HAND := Lib.hid (put_and HX.out HF.out hks)
    obtain ⟨s, hs⟩ : ∃ s : Nat, kSize k = s := ⟨(kSize k).toNat, by omega⟩
    go_wp2_with fail
    have hw := keep hb3 (keep hb2 (heap_alloc_new w1 (.cells #[.slice none 0 0] 235)))
    have hz2 := hb2.size
    have hz3 := hb3.size
    have hlt := putN_lt k ⟨true, hi, lo⟩
    simp at hz2
    have hand : bits BinOp.and .u64 (IntKind.u64.wrap (-lo)) (pMax (kSize k * 8)) = _ := HAND.out
    rw [hs] at hand hlt
    rw [hand]
    refine (num_any w1.heap.size w1.heap.size [] (.slice none 0 0) s _ _ (Nat.le_refl _) (by omega) hw (World.ownsRow_nil _ _ _ _) (by omega) hlt (by simp)).mono ?_
    rintro e w5 ⟨rfl, v5, hw5, ho5, hb5⟩
    have HS := Lib.hid hs
    have HW := Lib.hid hw5
    have HO := Lib.hid ho5
    have HB : Hid (Below w.heap.size w w5) := Lib.hid ((((((Below.refl _ _).alloc (Nat.le_refl _) _).trans (hb1.mono (by simp))).alloc (by omega) _).trans ((hb2.trans (hb3.mono (by have := hb2.size; exact this))).mono (by simp; omega))).trans (hb5.mono (by omega)))
    clear hs hw hw5 ho5 hand hlt hblk hks hkb
    go_wp2_with fail
    have hl : (putB k ⟨true, hi, lo⟩).length = s := by rw [putB_len, HS.out]; rfl
    refine (wstring_any w1.heap.size w1.heap.size (putB k ⟨true, hi, lo⟩) v5 _ HW.out (by
      have := HO.out
      rw [hl]
      unfold putB
      rw [HS.out]
      simpa using this)).mono ?_
    rintro e w6 ⟨rfl, rfl⟩
    clear hl
    go_wp2_with fail
    go_ret2
    exact ⟨rfl, HB.out⟩
end Go.Proofs.YtoadihebdaooaaaGreat
namespace Go.Proofs.YtoadihebdaooaaaGreat
open Go.RowKit
set_option linter.unusedVariables false
/-- A slice of great numbers that lies below block B. -/
def IntsAt (B : Nat) (w : World) (a : Option Addr) (len cap : Nat) (xs : List WI) : Prop :=
  xs.length = len ∧ len ≤ cap ∧ cap ≤ maxLen ∧ (∀ x ∈ xs, x.wf) ∧ (len = 0 ∨ ∃ b off, a = some ⟨b, off, none⟩ ∧ b < B ∧ ∀ (i : Nat) (x : WI), xs[i]? = some x →
    w.cell? ⟨b, off + i * 3, none⟩ = some (.bool x.neg) ∧ w.cell? ⟨b, off + i * 3 + 1, none⟩ = some (.int .u64 x.hi) ∧ w.cell? ⟨b, off + i * 3 + 2, none⟩ = some (.int .u64 x.lo))
theorem IntsAt.below {B : Nat} {w w' : World} {a : Option Addr} {len cap : Nat} {xs : List WI} (h : IntsAt B w a len cap xs) (hb : Below B w w') : IntsAt B w' a len cap xs := by
  obtain ⟨h1, h2, h2', hw, h3⟩ := h
  refine ⟨h1, h2, h2', hw, ?_⟩
  rcases h3 with h3 | ⟨b, off, ha, hB, hc⟩
  · exact .inl h3
  · refine .inr ⟨b, off, ha, hB, fun i f hf => ?_⟩
    obtain ⟨c0, c1, c2⟩ := hc i f hf
    exact ⟨(hb.cell (p := ⟨b, off + i * 3, none⟩) hB).trans c0, (hb.cell (p := ⟨b, off + i * 3 + 1, none⟩) hB).trans c1, (hb.cell (p := ⟨b, off + i * 3 + 2, none⟩) hB).trans c2⟩
theorem IntsAt.mono {B B' : Nat} {w : World} {a : Option Addr} {len cap : Nat} {xs : List WI} (h : IntsAt B w a len cap xs) (hb : B ≤ B') : IntsAt B' w a len cap xs := by
  obtain ⟨h1, h2, h2', hw, h3⟩ := h
  refine ⟨h1, h2, h2', hw, ?_⟩
  rcases h3 with h3 | ⟨b, off, ha, hB, hc⟩
  · exact .inl h3
  · exact .inr ⟨b, off, ha, by omega, hc⟩
/-- A part of such a slice. -/
theorem IntsAt.take {B : Nat} {w : World} {a : Option Addr} {len cap n : Nat} {xs : List WI} (h : IntsAt B w a len cap xs) (hn : n ≤ len) : IntsAt B w a n cap (xs.take n) := by
  obtain ⟨h1, h2, h2', hw, h3⟩ := h
  refine ⟨by rw [List.length_take]; omega, by omega, h2', fun x hx => hw x (List.mem_of_mem_take hx), ?_⟩
  rcases h3 with h3 | ⟨b, off, ha, hB, hc⟩
  · exact .inl (by omega)
  · refine .inr ⟨b, off, ha, hB, fun i x hx => hc i x ?_⟩
    rw [List.getElem?_take] at hx
    split at hx
    · exact hx
    · cases hx
theorem IntsAt.drop {B : Nat} {w : World} {a : Option Addr} {len cap n : Nat} {xs : List WI} (h : IntsAt B w a len cap xs) (hn : n ≤ len) : IntsAt B w (if cap = n then a else a.map (·.add (n * 3))) (len - n) (cap - n) (xs.drop n) := by
  obtain ⟨h1, h2, h2', hw, h3⟩ := h
  refine ⟨by rw [List.length_drop]; omega, by omega, by omega, fun x hx => hw x (List.mem_of_mem_drop hx), ?_⟩
  by_cases h0 : len - n = 0
  · exact .inl h0
  · rcases h3 with h3 | ⟨b, off, rfl, hB, hc⟩
    · omega
    · refine .inr ⟨b, off + n * 3, ?_, hB, fun i x hx => ?_⟩
      · rw [if_neg (by omega)]
        simp [Addr.add]
      · rw [List.getElem?_drop] at hx
        have := hc (n + i) x hx
        rw [show off + (n + i) * 3 = off + n * 3 + i * 3 by omega] at this
        exact this
theorem IntsAt.get {B : Nat} {w w' : World} {a : Option Addr} {len cap : Nat} {xs : List WI} (h : IntsAt B w a len cap xs) (hb : Below B w w') {k : Nat} (hk : k < len) :
    ∃ b off x, a = some ⟨b, off, none⟩ ∧ b < B ∧ xs[k]? = some x ∧ x.wf ∧ w'.cell? ⟨b, off + k * 3, none⟩ = some (.bool x.neg) ∧ w'.cell? ⟨b, off + k * 3 + 1, none⟩ = some (.int .u64 x.hi) ∧ w'.cell? ⟨b, off + k * 3 + 2, none⟩ = some (.int .u64 x.lo) := by
  obtain ⟨h1, h2, h2', hw, h3⟩ := h.below hb
  rcases h3 with h3 | ⟨b, off, ha, hB, hc⟩
  · omega
  · have hl : k < xs.length := by omega
    exact ⟨b, off, xs[k], ha, hB, List.getElem?_eq_getElem hl, hw _ (List.getElem_mem hl), hc k _ (List.getElem?_eq_getElem hl)⟩
theorem cnt_take_succ {fs : List Fld} {k : Nat} {f : Fld} (h : fs[k]? = some f) : cnt (fs.take (k + 1)) = cnt (fs.take k) + f.count.toNat := by rw [take_snoc h, cnt_snoc]
theorem cnt_le : ∀ (fs : List Fld), fs.all fldOk = true → cnt fs ≤ 8 * fs.length
  | [], _ => by simp [cnt]
  | f :: r, h => by
    rw [List.all_cons, Bool.and_eq_true] at h
    have := fldOk_bd h.1
    have := cnt_le r h.2
    rw [cnt_cons, List.length_cons]
    omega
set_option maxRecDepth 100000 in
set_option maxHeartbeats 1000000 in
theorem start_any (fs : List Fld) (a : Option Addr) (len cap i : Nat) (w : World) (hfs : FieldsAt w.heap.size w a len fs) (hc : len ≤ cap) (hl : layCheck fs = 0) (hi : i < len) :
    Calls Tryz.prog 158 #[.slice a len cap, .int .i64 (i : Int)] w fun e w' => e = .returned (.int .i64 (cnt (fs.take i) : Int)) ∧ Below w.heap.size w w' := by
  have hmx : len ≤ maxLen := hfs.2.1
  obtain ⟨h8, hall, _⟩ := layCheck_zero hl
  have hlen := hfs.1
  have HLC := Lib.hid hl
  have HA := Lib.hid hall
  clear hl hall
  unfold maxLen at hmx
  have e1 : decide ((i : Int) < 0) = false := by simp
  have e2 : decide ((len : Int) ≤ (i : Int)) = false := by simp; omega
  go_enter Tryz.func158, Tryz.ntmps158
  go_wp2_with fail
  refine (layCheck_any fs _ _ _ _ hfs).mono ?_
  rintro e w1 ⟨rfl, hb1⟩
  rw [HLC.out]
  go_wp2_with fail
  go_loopw [5, 25] (fun n j wr => ∃ k : Nat, k ≤ i ∧ j = .int .i64 (k : Int) ∧ n = .int .i64 (cnt (fs.take k) : Int) ∧ Below w.heap.size w wr) (fun _ j _ => i - (intOf j).toNat)
  case atStart => exact ⟨0, by omega, rfl, rfl, hb1⟩
  case round =>
    obtain ⟨k, hk, rfl, rfl, hbw⟩ := hrel
    by_cases hlt : k < i
    · obtain ⟨b, off, f, rfl, hB, hf, c0, c1, c2⟩ := hfs.get hbw (show k < len by omega)
      have HT := Lib.hid (cnt_take_succ hf)
      have hfo : fldOk f = true := by have h := HA.out; rw [List.all_eq_true] at h; exact h f (List.mem_of_getElem? hf)
      obtain ⟨_, _, f1, f2⟩ := fldOk_bd hfo
      have hcb := cnt_le (fs.take k) (all_take HA.out k)
      rw [List.length_take] at hcb
      have hcb' : cnt (fs.take k) ≤ 64 := by omega
      generalize cnt (fs.take k) = m at *
      clear hcb hfo hf
      have hz := hbw.size
      go_wp2
      go_roundw
      case rel => exact ⟨k + 1, by omega, by go_num, by rw [HT.out]; congr 1; omega, by go_grown⟩
      case measure => simp [intOf]; omega
    · obtain rfl : k = i := by omega
      go_wp2
      go_ret
      exact ⟨rfl, hbw⟩
def elems_list (b off m cap : Nat) (s c : Int) : List (Value → World → Prop) :=
  [IsV (.slice (some ⟨b, off, none⟩) (m + 1) cap),
   IsV (.slice (some ⟨b, off, none⟩) (m + 1) cap),
   IsV (.int .i64 ((m : Int) + 1)),
   IsV (.int .i64 (m : Int)),
   IsV (.int .i64 s),
   IsV (.slice (some ⟨b, off, none⟩) (m + 1) cap),
   IsV (.slice (some ⟨b, off, none⟩) (m + 1) cap),
   IsV (.int .i64 ((m : Int) + 1)),
   IsV (.int .i64 (m : Int)),
   IsV (.pointer (some ⟨b, off + m * 3, none⟩)),
   IsV (.pointer (some ⟨b, off + m * 3 + 2, none⟩)),
   IsV (.int .i64 c),
   IsV (.int .i64 (s + c)),
   IsV (.int .i64 (s + c))]
theorem elems_list_lasts (b off m cap : Nat) (s c : Int) : ∀ p ∈ elems_list b off m cap  s c , Lasts p := by
  simp only [elems_list, List.mem_cons, List.not_mem_nil, or_false]
  rintro p hp
  repeat (rcases hp with rfl | hp; exact lasts_v _)
set_option maxRecDepth 100000 in
set_option maxHeartbeats 1000000 in
theorem elems_any (fs : List Fld) (a : Option Addr) (len cap : Nat) (w : World) (hfs : FieldsAt w.heap.size w a len fs) (hc : len ≤ cap) (hl : layCheck fs = 0) :
    Calls Tryz.prog 135 #[.slice a len cap] w fun e w' => e = .returned (.int .i64 (cnt fs : Int)) ∧ Below w.heap.size w w' := by
  have hmx : len ≤ maxLen := hfs.2.1
  obtain ⟨h8, hall, _⟩ := layCheck_zero hl
  have hlen := hfs.1
  have HLC := Lib.hid hl
  have HA := Lib.hid hall
  clear hl hall
  unfold maxLen at hmx
  rcases Nat.eq_zero_or_pos len with rfl | hpos
  · obtain rfl := List.eq_nil_of_length_eq_zero hlen
    go_enter Tryz.func135, Tryz.ntmps135
    go_wp2_with fail
    refine (layCheck_any [] _ _ _ _ hfs).mono ?_
    rintro e w1 ⟨rfl, hb1⟩
    rw [HLC.out]
    go_wp2_with fail
    go_ret
    exact ⟨rfl, hb1⟩
  · obtain ⟨m, rfl⟩ : ∃ m, len = m + 1 := ⟨len - 1, by omega⟩
    obtain ⟨b, off, f, rfl, hB, hf, c0, c1, c2⟩ := hfs.get (Below.refl _ w) (show m < m + 1 by omega)
    have hfo : fldOk f = true := by have h := HA.out; rw [List.all_eq_true] at h; exact h f (List.mem_of_getElem? hf)
    obtain ⟨_, _, f1, f2⟩ := fldOk_bd hfo
    have hcb := cnt_le (fs.take m) (all_take HA.out m)
    rw [List.length_take] at hcb
    have hT := cnt_take_succ hf
    rw [List.take_of_length_le (show fs.length ≤ m + 1 by omega)] at hT
    have HT := Lib.hid hT
    have HB := Lib.hid hB
    have HFS := Lib.hid hfs
    have hcb' : cnt (fs.take m) ≤ 64 := by omega
    obtain ⟨s, hs⟩ : ∃ s : Nat, cnt (fs.take m) = s := ⟨_, rfl⟩
    obtain ⟨c, hc'⟩ : ∃ c : Nat, f.count = c := ⟨f.count.toNat, by omega⟩
    rw [hs] at hcb'
    rw [hc'] at f1 f2 c2
    have HC := Lib.hid c2
    have hw1 : IntKind.i64.wrap (m : Int) = (m : Int) := IntWalk.i64_in _ (by omega)
    have hw2 : IntKind.i64.wrap ((s : Int) + (c : Int)) = (s : Int) + (c : Int) := IntWalk.i64_in _ (by omega)
    have HS := Lib.hid hs
    have HCC := Lib.hid hc'
    have i1 : (0 : Int) ≤ (m : Int) := by omega
    have i2 : (m : Int) < (m : Int) + 1 := by omega
    have e0 : ((m : Int) + 1 == 0) = false := by rw [beq_eq_false_iff_ne]; omega
    clear hf hfo hcb hT hB c0 c1 c2 hfs hs hc'
    go_enter Tryz.func135, Tryz.ntmps135
    go_wp2_with fail
    refine (layCheck_any fs _ _ _ _ HFS.out).mono ?_
    rintro e w1 ⟨rfl, hb1⟩
    rw [HLC.out]
    go_wp2_with fail
    have HB1 := Lib.hid hb1
    clear hb1
    refine wp_region_frame (by kernel_rfl) (by kernel_rfl) (by kernel_rfl) (byList (elems_list b off m cap s c)) (lasts_list (elems_list_lasts b off m cap s c)) ?_ ?_
    · intro vs w' iq o A F hb ho hd
      have m0 : A.tmps[0]?.getD undef = (.slice (some ⟨b, off, none⟩) (m + 1) cap) := F.m (by kernel_rfl) rfl
      have G := F.light (n := 24) (by kernel_rfl)
      clear F
      have c2 := ((HB1.out.trans (hb.mono HB1.out.size)).cell (p := ⟨b, off + m * 3 + 2, none⟩) HB.out).trans HC.out
      revert ho hd
      match iq with
      | 0 =>
        intro ho hd
        obtain rfl := (Option.some.inj ho).symm
        clear hd ho
        refine step_open rfl ?_
        clear G
        exact step_run (v := (.slice (some ⟨b, off, none⟩) (m + 1) cap)) (by go_simp) rfl
      | 1 =>
        intro ho hd
        obtain rfl := (Option.some.inj ho).symm
        clear hd ho
        refine step_open rfl ?_
        clear G
        exact step_run (v := (.slice (some ⟨b, off, none⟩) (m + 1) cap)) (by go_simp) rfl
      | 2 =>
        intro ho hd
        obtain rfl := (Option.some.inj ho).symm
        have d1 : vs 1 = (.slice (some ⟨b, off, none⟩) (m + 1) cap) := hd ⟨1, .data⟩ (by simp) rfl
        clear hd ho
        have h12 := G.h (j := 1) (d := 12) rfl (by decide) d1
        refine step_open rfl ?_
        clear G
        exact step_run (v := (.int .i64 ((m : Int) + 1))) (by go_simp) rfl
      | 3 =>
        intro ho hd
        obtain rfl := (Option.some.inj ho).symm
        have d2 : vs 2 = (.int .i64 ((m : Int) + 1)) := hd ⟨2, .data⟩ (by simp) rfl
        clear hd ho
        have h13 := G.h (j := 2) (d := 13) rfl (by decide) d2
        refine step_open rfl ?_
        clear G
        exact step_run (v := (.int .i64 (m : Int))) (by go_simp) rfl
      | 4 =>
        intro ho hd
        obtain rfl := (Option.some.inj ho).symm
        have d0 : vs 0 = (.slice (some ⟨b, off, none⟩) (m + 1) cap) := hd ⟨0, .data⟩ (by simp) rfl
        have d3 : vs 3 = (.int .i64 (m : Int)) := hd ⟨3, .data⟩ (by simp) rfl
        clear hd ho
        have h11 := G.h (j := 0) (d := 11) rfl (by decide) d0
        have h14 := G.h (j := 3) (d := 14) rfl (by decide) d3
        refine step_open rfl ?_
        clear G
        go_simp
        refine (start_any fs _ _ _ m _ ((HFS.out.below (HB1.out.trans (hb.mono HB1.out.size))).mono (by have := HB1.out.size; have := hb.size; omega)) (by omega) HLC.out (by omega)).mono ?_
        rintro e w2 ⟨rfl, hb2⟩
        rw [HS.out]
        exact ⟨_, rfl, rfl, hb2⟩
      | 5 =>
        intro ho hd
        obtain rfl := (Option.some.inj ho).symm
        clear hd ho
        refine step_open rfl ?_
        clear G
        exact step_run (v := (.slice (some ⟨b, off, none⟩) (m + 1) cap)) (by go_simp) rfl
      | 6 =>
        intro ho hd
        obtain rfl := (Option.some.inj ho).symm
        clear hd ho
        refine step_open rfl ?_
        clear G
        exact step_run (v := (.slice (some ⟨b, off, none⟩) (m + 1) cap)) (by go_simp) rfl
      | 7 =>
        intro ho hd
        obtain rfl := (Option.some.inj ho).symm
        have d6 : vs 6 = (.slice (some ⟨b, off, none⟩) (m + 1) cap) := hd ⟨6, .data⟩ (by simp) rfl
        clear hd ho
        have h17 := G.h (j := 6) (d := 17) rfl (by decide) d6
        refine step_open rfl ?_
        clear G
        exact step_run (v := (.int .i64 ((m : Int) + 1))) (by go_simp) rfl
      | 8 =>
        intro ho hd
        obtain rfl := (Option.some.inj ho).symm
        have d7 : vs 7 = (.int .i64 ((m : Int) + 1)) := hd ⟨7, .data⟩ (by simp) rfl
        clear hd ho
        have h18 := G.h (j := 7) (d := 18) rfl (by decide) d7
        refine step_open rfl ?_
        clear G
        exact step_run (v := (.int .i64 (m : Int))) (by go_simp) rfl
      | 9 =>
        intro ho hd
        obtain rfl := (Option.some.inj ho).symm
        have d5 : vs 5 = (.slice (some ⟨b, off, none⟩) (m + 1) cap) := hd ⟨5, .data⟩ (by simp) rfl
        have d8 : vs 8 = (.int .i64 (m : Int)) := hd ⟨8, .data⟩ (by simp) rfl
        clear hd ho
        have h16 := G.h (j := 5) (d := 16) rfl (by decide) d5
        have h19 := G.h (j := 8) (d := 19) rfl (by decide) d8
        refine step_open rfl ?_
        clear G
        exact step_run (v := (.pointer (some ⟨b, off + m * 3, none⟩))) (by go_simp) rfl
      | 10 =>
        intro ho hd
        obtain rfl := (Option.some.inj ho).symm
        have d9 : vs 9 = (.pointer (some ⟨b, off + m * 3, none⟩)) := hd ⟨9, .data⟩ (by simp) rfl
        clear hd ho
        have h20 := G.h (j := 9) (d := 20) rfl (by decide) d9
        refine step_open rfl ?_
        clear G
        exact step_run (v := (.pointer (some ⟨b, off + m * 3 + 2, none⟩))) (by go_simp) rfl
      | 11 =>
        intro ho hd
        obtain rfl := (Option.some.inj ho).symm
        have d10 : vs 10 = (.pointer (some ⟨b, off + m * 3 + 2, none⟩)) := hd ⟨10, .data⟩ (by simp) rfl
        clear hd ho
        have h21 := G.h (j := 10) (d := 21) rfl (by decide) d10
        refine step_open rfl ?_
        clear G
        exact step_run (v := (.int .i64 c)) (by go_simp) rfl
      | 12 =>
        intro ho hd
        obtain rfl := (Option.some.inj ho).symm
        have d4 : vs 4 = (.int .i64 s) := hd ⟨4, .data⟩ (by simp) rfl
        have d11 : vs 11 = (.int .i64 c) := hd ⟨11, .data⟩ (by simp) rfl
        clear hd ho
        have h15 := G.h (j := 4) (d := 15) rfl (by decide) d4
        have h22 := G.h (j := 11) (d := 22) rfl (by decide) d11
        refine step_open rfl ?_
        clear G
        exact step_run (v := (.int .i64 (s + c))) (by go_simp) rfl
      | 13 =>
        intro ho hd
        obtain rfl := (Option.some.inj ho).symm
        have d12 : vs 12 = (.int .i64 (s + c)) := hd ⟨12, .data⟩ (by simp) rfl
        clear hd ho
        have h23 := G.h (j := 12) (d := 23) rfl (by decide) d12
        refine step_open rfl ?_
        clear G
        exact step_run (v := (.int .i64 (s + c))) (by go_simp) rfl
      | n + 14 =>
        intro ho hd
        simp at ho
    · intro vs w' hb hR
      have hv : vs 13 = (.int .i64 ((s : Int) + c)) := hR 13 (by simp)
      have HB2 := Lib.hid (HB1.out.trans (hb.mono HB1.out.size))
      have HE := Lib.hid (show ((s : Int) + c) = (cnt fs : Int) by have h1 := HT.out; have h2 := HS.out; have h3 := HCC.out; omega)
      simp only [putAll, Act.put, List.setIfInBounds_toArray, List.set_cons_succ, List.set_cons_zero]
      rw [hv]
      clear hR hb hv
      go_wp2_with fail
      go_ret
      exact ⟨ret_intk HE.out, HB2.out⟩
theorem fitGo_snoc : ∀ (fs : List Fld) (val : List WI) (f : Fld), cnt fs + f.count.toNat ≤ val.length → fitGo fs val = 0 → fitGo (fs ++ [f]) val = if ((val.drop (cnt fs)).take f.count.toNat).all (fitsF f.kind) then 0 else 3
  | [], val, f, _, _ => by simp [fitGo, cnt]
  | g :: r, val, f, h, h0 => by
    rw [cnt_cons] at h ⊢
    rw [List.cons_append]
    unfold fitGo at h0 ⊢
    split at h0
    · rename_i hg
      rw [if_pos hg, fitGo_snoc r _ f (by rw [List.length_drop]; omega) h0, List.drop_drop]
    · cases h0
theorem fitGo_pre : ∀ (fs gs : List Fld) (val : List WI), fitGo fs val = 3 → fitGo (fs ++ gs) val = 3
  | [], gs, val, h => by cases h
  | g :: r, gs, val, h => by
    rw [List.cons_append]
    unfold fitGo at h ⊢
    split at h
    · rename_i hg
      rw [if_pos hg]; exact fitGo_pre r gs _ h
    · rename_i hg
      rw [if_neg hg]
theorem cnt_take_le {fs : List Fld} (k : Nat) : cnt (fs.take k) ≤ cnt fs := by
  have h : cnt fs = cnt (fs.take k) + cnt (fs.drop k) := by
    conv => lhs; rw [← List.take_append_drop k fs]
    simp only [cnt, List.map_append, List.sum_append]
  omega
theorem all_take_succ {α : Type} {p : α → Bool} {l : List α} {k : Nat} {x : α} (h : l[k]? = some x) (hp : (l.take k).all p = true) : (l.take (k + 1)).all p = p x := by
  rw [take_snoc h, List.all_append, hp]; simp
theorem all_take_false {α : Type} {p : α → Bool} {l : List α} {k : Nat} {x : α} (h : l[k]? = some x) (hp : p x = false) : l.all p = false := by
  rw [List.all_eq_false]
  exact ⟨x, List.mem_of_getElem? h, by simp [hp]⟩
/-- What Fit's rounds keep of the value: what is left of it. -/
def FitVal (B : Nat) (val : List WI) (fs : List Fld) (k : Nat) (v : Value) (w : World) : Prop := ∃ a len cap, v = .slice a len cap ∧ IntsAt B w a len cap (val.drop (cnt (fs.take k)))
set_option maxRecDepth 100000 in
set_option maxHeartbeats 2000000 in
theorem fit_any (fs : List Fld) (a : Option Addr) (len cap : Nat) (va : Option Addr) (vl vc : Nat) (val : List WI) (w : World) (hfs : FieldsAt w.heap.size w a len fs) (hc : len ≤ cap) (hv : IntsAt w.heap.size w va vl vc val) :
    Calls Tryz.prog 103 #[.slice a len cap, .slice va vl vc] w fun e w' => e = .returned (.int .i64 (fitF fs val)) ∧ Below w.heap.size w w' := by
  have hmx : len ≤ maxLen := hfs.2.1
  have hlen := hfs.1
  have hvl := hv.1
  have hvx : vc ≤ maxLen := hv.2.2.1
  have hvy : vl ≤ vc := hv.2.1
  unfold maxLen at hmx hvx
  have HFS := Lib.hid hfs
  have HV := Lib.hid hv
  have HLN := Lib.hid hlen
  have HVL := Lib.hid hvl
  clear hfs hv hlen hvl
  by_cases hl : layCheck fs = 0
  · obtain ⟨h8, hall, _⟩ := layCheck_zero hl
    have hcl := cnt_le fs hall
    have HLC := Lib.hid hl
    have HA := Lib.hid hall
    clear hl hall
    by_cases hn : vl = cnt fs
    · have hb : ((vl : Int) != (cnt fs : Int)) = false := by rw [hn]; simp
      have HN := Lib.hid hn
      clear hn
      go_enter Tryz.func103, Tryz.ntmps103
      go_wp2_with fail
      refine (layCheck_any fs _ _ _ _ HFS.out).mono ?_
      rintro e w1 ⟨rfl, hb1⟩
      rw [HLC.out]
      go_wp2_with fail
      refine (elems_any fs _ _ _ _ ((HFS.out.below hb1).mono (by have := hb1.size; omega)) hc HLC.out).mono ?_
      rintro e w2 ⟨rfl, hb2⟩
      have hbw : Below w.heap.size w w2 := hb1.trans (hb2.mono (by have := hb1.size; omega))
      clear hb1 hb2
      go_wp2_with fail
      clear hb
      go_loopw [1, 22] (fun v j wr => ∃ k : Nat, k ≤ len ∧ j = .int .i64 (k : Int) ∧ FitVal w.heap.size val fs k v wr ∧ fitGo (fs.take k) val = 0 ∧ Below w.heap.size w wr) (fun _ j _ => len - (intOf j).toNat)
      case atStart => exact ⟨0, by omega, rfl, ⟨_, _, _, rfl, by simpa [cnt] using HV.out.below hbw⟩, by simp [fitGo], hbw⟩
      case round =>
        obtain ⟨k, hk, rfl, ⟨a2, l2, c2, rfl, hva⟩, hgo, hbr⟩ := hrel
        have hz := hbr.size
        by_cases hlt : k < len
        · obtain ⟨b, off, f, rfl, hB, hf, c0, c1, c2'⟩ := HFS.out.get hbr hlt
          have hfo : fldOk f = true := by have h := HA.out; rw [List.all_eq_true] at h; exact h f (List.mem_of_getElem? hf)
          obtain ⟨_, _, f1, f2⟩ := fldOk_bd hfo
          have hct := cnt_take_succ hf
          have hcl2 := cnt_take_le (fs := fs) (k + 1)
          have hll := hva.1
          rw [List.length_drop] at hll
          have hl2x : c2 ≤ maxLen := hva.2.2.1
          have hl2y : l2 ≤ c2 := hva.2.1
          unfold maxLen at hl2x
          obtain ⟨c, hc'⟩ : ∃ c : Nat, f.count = c := ⟨f.count.toNat, by omega⟩
          have hcc : c ≤ l2 := by have h1 := HN.out; have h2 := HVL.out; rw [hc'] at hct; simp at hct; omega
          rw [hc'] at f1 f2 c2'
          have HCC := Lib.hid hc'
          have HF := Lib.hid hf
          have HGO := Lib.hid hgo
          have hvf := hva.below ((Below.refl w.heap.size wr).alloc hz (.cells #[.string f.name, .int .i64 f.kind, .int .i64 (c : Int)] 123))
          have HVA := Lib.hid hvf
          clear hfo hct hcl2 hll hc' hf hgo hva hvf
          go_wp2_with fail
          have hf7 := heap_alloc_new wr (.cells #[.string f.name, .int .i64 f.kind, .int .i64 (c : Int)] 123)
          have hbf : Below w.heap.size w (wr.alloc (.cells #[.string f.name, .int .i64 f.kind, .int .i64 (c : Int)] 123)) := hbr.alloc hz _
          have hzf := World.size_alloc wr (.cells #[.string f.name, .int .i64 f.kind, .int .i64 (c : Int)] 123)
          obtain ⟨H, hH⟩ : ∃ H, wr.heap.size = H := ⟨_, rfl⟩
          rw [hH] at hf7 hz hzf ⊢
          clear hH hbr c0 c1 c2'
          generalize wr.alloc (.cells #[.string f.name, .int .i64 f.kind, .int .i64 (c : Int)] 123) = wf at *
          have HF7 := Lib.hid hf7
          have HZF := Lib.hid hzf
          have HLT := Lib.hid hlt
          clear hf7 hzf hlt
          go_loopw [31] (fun j ws => ∃ m : Nat, m ≤ c ∧ j = .int .i64 (m : Int) ∧ ((val.drop (cnt (fs.take k))).take m).all (fitsF f.kind) = true ∧ Below (H + 1) wf ws) (fun j _ => c - (intOf j).toNat)
          case atStart => exact ⟨0, by omega, rfl, by simp, Below.refl _ _⟩
          case round =>
            obtain ⟨m, hm, rfl, hall, hbs⟩ := hrel
            have HALL := Lib.hid hall
            clear hall
            have hbs' := hbf.trans (hbs.mono (show w.heap.size ≤ H + 1 by omega))
            have hzs := hbs.size
            have hblk := (hbs.block H (by omega)).trans HF7.out
            have hHs := lt_some hblk
            have k1 := cell_at hblk 1
            have k2 := cell_at hblk 2
            simp at k1 k2
            by_cases hlt : m < c
            · obtain ⟨vb, vo, x, rfl, hvb, hx, hxw, x0, x1, x2⟩ := HVA.out.get (hbs.mono (show w.heap.size ≤ H + 1 by omega)) (show m < l2 by omega)
              have htk : ((val.drop (cnt (fs.take k))).take c)[m]? = some x := by rw [List.getElem?_take, if_pos hlt]; exact hx
              have HX := Lib.hid hx
              have HTK := Lib.hid htk
              have i1 : (0 : Int) ≤ (m : Int) := by omega
              have i2 : (m : Int) < (c : Int) := by omega
              clear hx htk hblk
              obtain ⟨xn, xh, xl⟩ := x
              go_wp2_with fail
              refine (fits_any f.kind ⟨xn, xh, xl⟩ _ hxw).mono ?_
              rintro e w5 ⟨rfl, hb5⟩
              have hb5' := hb5.size
              rw [World.size_alloc] at hb5'
              have hbel : Below (H + 1) wf w5 := (hbs.alloc (by omega) _).trans (hb5.mono (by simp; omega))
              have HBEL := Lib.hid hbel
              clear hb5 hbel
              cases hfit : fitsF f.kind ⟨xn, xh, xl⟩
              · have HR := Lib.hid (show (3 : Int) = fitF fs val by
                  unfold fitF
                  rw [if_neg (by simp [HLC.out]), if_neg (by have h1 := HN.out; have h2 := HVL.out; omega)]
                  have h1 := fitGo_snoc (fs.take k) val f (by have h1 := HN.out; have h2 := HVL.out; have h3 := cnt_take_succ HF.out; have h4 := cnt_take_le (fs := fs) (k + 1); omega) HGO.out
                  rw [HCC.out, Int.toNat_natCast, all_take_false HTK.out hfit, ← take_snoc HF.out] at h1
                  have h2 := fitGo_pre (fs.take (k + 1)) (fs.drop (k + 1)) val (by simpa using h1)
                  rw [List.take_append_drop] at h2
                  exact h2.symm)
                clear hfit
                go_wp2_with fail
                go_ret
                exact ⟨ret_intk HR.out, hbf.trans (HBEL.out.mono (by omega))⟩
              · have HFIT := Lib.hid hfit
                clear hfit
                go_wp2_with fail
                go_roundw
                case rel => exact ⟨m + 1, by omega, by go_num, by rw [all_take_succ HX.out HALL.out]; exact HFIT.out, HBEL.out⟩
                case measure => simp [intOf]; omega
            · obtain rfl : m = c := by omega
              have hg2 : fitGo (fs.take (k + 1)) val = 0 := by
                have h1 := fitGo_snoc (fs.take k) val f (by have h1 := HN.out; have h2 := HVL.out; have h3 := cnt_take_succ HF.out; have h4 := cnt_take_le (fs := fs) (k + 1); omega) HGO.out
                rw [HCC.out, Int.toNat_natCast, HALL.out, ← take_snoc HF.out] at h1
                simpa using h1
              have hdr := (HVA.out.below (hbs.mono (show w.heap.size ≤ H + 1 by omega))).drop hcc
              rw [List.drop_drop] at hdr
              have hct := cnt_take_succ HF.out
              rw [HCC.out, Int.toNat_natCast] at hct
              rw [← hct] at hdr
              have HDR := Lib.hid hdr
              have HG2 := Lib.hid hg2
              clear hdr hct hg2 hblk
              have hbs2 := hbs'
              have hlt2 := HLT.out
              by_cases he : c2 = m
              · subst he
                obtain rfl : l2 = c2 := by omega
                have hdr := HDR.out
                rw [if_pos rfl, Nat.sub_self] at hdr
                have HDR2 := Lib.hid hdr
                clear hdr
                go_wp2_with fail
                go_roundw
                case rel => exact ⟨k + 1, by omega, by go_num, ⟨_, _, _, rfl, HDR2.out⟩, HG2.out, hbs2⟩
                case measure => simp [intOf]; omega
              · have hdr := HDR.out
                rw [if_neg he] at hdr
                have HDR2 := Lib.hid hdr
                clear hdr
                go_wp2_with fail
                go_roundw
                case rel => exact ⟨k + 1, by omega, by go_num, ⟨_, _, _, rfl, HDR2.out⟩, HG2.out, hbs2⟩
                case measure => simp [intOf]; omega
        · obtain rfl : k = len := by omega
          rw [List.take_of_length_le (by have := HLN.out; omega)] at hgo
          have HR := Lib.hid (show (0 : Int) = fitF fs val by unfold fitF; rw [if_neg (by simp [HLC.out]), if_neg (by have h1 := HN.out; have h2 := HVL.out; omega), hgo])
          clear hgo hva
          go_wp2_with fail
          go_ret
          exact ⟨ret_intk HR.out, hbr⟩
    · have hb : ((vl : Int) != (cnt fs : Int)) = true := by rw [bne_iff_ne]; omega
      have HR := Lib.hid (show (4 : Int) = fitF fs val by unfold fitF; rw [if_neg (by simp [HLC.out]), if_pos (by have h2 := HVL.out; omega)])
      clear hn
      go_enter Tryz.func103, Tryz.ntmps103
      go_wp2_with fail
      refine (layCheck_any fs _ _ _ _ HFS.out).mono ?_
      rintro e w1 ⟨rfl, hb1⟩
      rw [HLC.out]
      go_wp2_with fail
      refine (elems_any fs _ _ _ _ ((HFS.out.below hb1).mono (by have := hb1.size; omega)) hc HLC.out).mono ?_
      rintro e w2 ⟨rfl, hb2⟩
      have hbw : Below w.heap.size w w2 := hb1.trans (hb2.mono (by have := hb1.size; omega))
      clear hb1 hb2
      go_wp2_with fail
      go_ret
      exact ⟨ret_intk HR.out, hbw⟩
  · have HR := Lib.hid (show layCheck fs = fitF fs val by unfold fitF; rw [if_pos hl])
    have hb : (layCheck fs != 0) = true := by rw [bne_iff_ne]; exact hl
    go_enter Tryz.func103, Tryz.ntmps103
    go_wp2_with fail
    refine (layCheck_any fs _ _ _ _ HFS.out).mono ?_
    rintro e w1 ⟨rfl, hb1⟩
    generalize layCheck fs = L at *
    go_wp2_with fail
    go_ret
    exact ⟨ret_intk HR.out, hb1⟩
end Go.Proofs.YtoadihebdaooaaaGreat
