/- Contracts of schema.Find and what it calls. · Contract of (Sig).Ids. · Plain laws of layouts: sizes of fields that can be are small; a schema that can be has such fields. · Plain: bytes of numbers, rows of values, what fits. -/
import Derived.Test.YtgebbmfoamkfnaaGreatDoorT6
import Derived.Test.YtgebbmfoamkfnaaGreatDoorT5
namespace Go.Proofs.YtgebbmfoamkfnaaGreatDoor
open Go.RowKit
set_option linter.unusedVariables false
theorem find1_any (i : Int) (nme : Value) (fv : Value) (id : Int) (p : Addr) (w : World) (hp : w.cell? p = some (.int .i64 id)) (hs : ∃ s, nme = .string s) (hv : ∃ a n c, fv = .slice a n c) :
  Calls Tryz.prog 149 #[.agg #[.int .i64 i, nme, fv], .pointer (some p)] w fun e w' => e = .returned (.bool (i == id)) ∧ Below w.heap.size w w' := by
 obtain ⟨s, rfl⟩ := hs
 obtain ⟨a, n, c, rfl⟩ := hv
 have hpb := World.block_lt_of_cell? w p hp
 have hp' : (w.alloc (.cells #[.int .i64 i, .string s, .slice a n c] 82)).cell? p = some (.int .i64 id) := by
  rw [World.cell?_of_block (w := w) (by rw [halloc, if_neg (by omega)])]; exact hp
 go_enter Tryz.func149, Tryz.ntmps149
 go_wp2
 go_ret
 exact ⟨rfl, by go_grown⟩
def idxF (id : Int) : Nat → List Cmp → Int
 | _, [] => -1
 | k, c :: r => if c.id = id then k else idxF id (k + 1) r
theorem idxF_skip {id : Int} {k : Nat} {c : Cmp} {r : List Cmp} (h : ¬ c.id = id) : idxF id k (c :: r) = idxF id (k + 1) r := by
 conv => lhs; unfold idxF
 rw [if_neg h]
theorem idxF_none {id : Int} : ∀ (l : List Cmp) (k : Nat), l.find? (fun c => decide (c.id = id)) = none → idxF id k l = -1
 | [], k, _ => rfl
 | c :: r, k, h => by
  rw [List.find?_cons] at h
  split at h
  ·cases h
  ·rename_i hc
   unfold idxF
   rw [if_neg (by simpa using hc)]
   exact idxF_none r (k + 1) h
theorem idxF_some {id : Int} {c : Cmp} : ∀ (l : List Cmp) (k : Nat), l.find? (fun c => decide (c.id = id)) = some c → ∃ j, idxF id k l = ((k + j : Nat) : Int) ∧ l[j]? = some c
 | [], k, h => by cases h
 | d :: r, k, h => by
  rw [List.find?_cons] at h
  split at h
  ·rename_i hc
   cases h
   exact ⟨0, by unfold idxF; rw [if_pos (by simpa using hc)]; rfl, rfl⟩
  ·rename_i hc
   obtain ⟨j, h1, h2⟩ := idxF_some r (k + 1) h
   exact ⟨j + 1, by unfold idxF; rw [if_neg (by simpa using hc), h1]; congr 1; omega, by simpa using h2⟩
set_option maxRecDepth 100000 in
set_option maxHeartbeats 1000000 in
theorem indexFunc_any (id : Int) (cs : List Cmp) (a : Option Addr) (len cap : Nat) (p : Addr) (w : World) (hcs : CompsAt w.heap.size w a len cs) (hp : w.cell? p = some (.int .i64 id)) :
  Calls Tryz.prog 180 #[.slice a len cap, .func (.func 149) #[] #[.pointer (some p)]] w fun e w' => e = .returned (.int .i64 (idxF id 0 cs)) ∧ Below w.heap.size w w' := by
 have hmx : len ≤ maxLen := hcs.2.1
 unfold maxLen at hmx
 have hpb := World.block_lt_of_cell? w p hp
 go_enter Tryz.func180, Tryz.ntmps180
 go_wp2_with fail
 go_loopw [8] (fun i wr => ∃ (k : Nat), k ≤ len ∧ i = .int .i64 k ∧ idxF id 0 cs = idxF id k (cs.drop k) ∧ Below w.heap.size w wr) (fun i _ => len - (intOf i).toNat)
 case atStart => exact ⟨0, Nat.zero_le _, rfl, rfl, Below.refl _ _⟩
 case round =>
  obtain ⟨k, hk, rfl, hgo, hbw⟩ := hrel
  have HG := Lib.hid hgo
  clear hgo
  have hzr := hbw.size
  by_cases hlt : k < len
  ·obtain ⟨b, off, c, rfl, hB, hc, c0, c1, fa, fl, fc, c2, hF, hnil⟩ := hcs.get hbw hlt
   have hstep := Lib.hid (HG.out.trans (by rw [drop_get hc]))
   go_wp2_with fail
   refine (find1_any _ _ _ id p _ ((hbw.cell hpb).trans hp) ⟨_, rfl⟩ ⟨_, _, _, rfl⟩).mono ?_
   rintro e w1 ⟨rfl, hb1⟩
   by_cases h : c.id = id
   ·have H1 : Hid (idxF id 0 cs = k) := Lib.hid (by rw [hstep.out]; unfold idxF; rw [if_pos h])
    have e1 : (c.id == id) = true := by simp [h]
    clear h
    go_wp2
    go_ret
    exact ⟨ret_intk H1.out.symm, hbw.trans (hb1.mono hzr)⟩
   ·have H1 := Lib.hid (hstep.out.trans (idxF_skip h))
    have e1 : (c.id == id) = false := by simp [h]
    clear h
    go_wp2
    go_roundw
    case rel => exact ⟨k + 1, by omega, by go_num, H1.out, hbw.trans (hb1.mono hzr)⟩
    case measure => simp [intOf]; omega
  ·obtain rfl : k = len := by omega
   have H1 : Hid (idxF id 0 cs = -1) := Lib.hid (by rw [HG.out, List.drop_eq_nil_of_le (by have := hcs.1; omega)]; rfl)
   go_wp2
   go_ret
   exact ⟨ret_intk H1.out.symm, hbw⟩
def findC (id : Int) (cs : List Cmp) : Option Cmp := cs.find? fun c => decide (c.id = id)
def IsFind (id : Int) (cs : List Cmp) (w : World) (e : Ending) (w' : World) : Prop :=
 match findC id cs with
 | some c => ∃ va fl vc, e = .returned (.tuple #[.agg #[.int .i64 c.id, .string c.name, .slice va fl vc], .bool true]) ∧ (w'.ownsRow w.heap.size 79 3 (.slice va fl vc) fl (fldCells c.fields) ∧ c.fields.length = fl ∧ fl ≤ maxLen) ∧ (va = none → fl = 0 ∧ vc = 0) ∧ Below w.heap.size w w'
 | none => e = .returned (.tuple #[.agg #[.int .i64 0, .string ByteArray.empty, .slice none 0 0], .bool false]) ∧ Below w.heap.size w w'
set_option maxRecDepth 100000 in
set_option maxHeartbeats 2000000 in
theorem find_any (ver id : Int) (cs : List Cmp) (a : Option Addr) (len cap : Nat) (p : Addr) (w : World) (hcs : CompsAt w.heap.size w a len cs) (hf : ∀ c ∈ cs, c.fields.length ≤ 100000) (hp : w.cell? p = some (.int .i64 id)) :
  Calls Tryz.prog 148 #[.agg #[.int .i64 ver, .slice a len cap], .func (.func 149) #[] #[.pointer (some p)]] w (IsFind id cs w) := by
 have hpb := World.block_lt_of_cell? w p hp
 have hbel0 : Below w.heap.size w ((w.alloc (.cells #[.int .i64 ver, .slice a len cap] 24)).alloc (.cells #[.int .i64 0, .string ByteArray.empty, .slice none 0 0] 82)) := by go_grown
 go_enter Tryz.func148, Tryz.ntmps148
 go_wp2_with fail
 refine (indexFunc_any id cs _ _ _ p _ ((hcs.below hbel0).mono hbel0.size) ((hbel0.cell hpb).trans hp)).mono ?_
 rintro e w1 ⟨rfl, hb1⟩
 have hs1 := keep hb1 (keepA _ (heap_alloc_new w (.cells #[.int .i64 ver, .slice a len cap] 24)))
 have hr1 := keep hb1 (heap_alloc_new (w.alloc (.cells #[.int .i64 ver, .slice a len cap] 24)) (.cells #[.int .i64 0, .string ByteArray.empty, .slice none 0 0] 82))
 rw [World.size_alloc] at hr1
 have hbel1 : Below w.heap.size w w1 := hbel0.trans (hb1.mono hbel0.size)
 have s1 := cell_at hs1 1
 have r0 := cell_at hr1 0
 have r1 := cell_at hr1 1
 have r2 := cell_at hr1 2
 have f0 := free_at hr1 0
 have f1 := free_at hr1 1
 have f2 := free_at hr1 2
 simp at s1 r0 r1 r2
 cases hfc : findC id cs with
 | none =>
  have h0 := idxF_none cs 0 hfc
  have HF := Lib.hid hfc
  rw [h0]
  clear h0 hfc
  go_wp2
  refine bodyPost_ret (v := .tuple #[.agg #[.int .i64 0, .string ByteArray.empty, .slice none 0 0], .bool false]) (by simp [results, Tryz.results148, go_sem, r0, r1, r2]; rfl) rfl ?_
  unfold IsFind
  rw [HF.out]
  exact ⟨rfl, ((hbel1.setCell (by simp) _).setCell (by simp) _).setCell (by simp) _⟩
 | some c =>
  obtain ⟨j, h0, hj⟩ := idxF_some cs 0 hfc
  have HF := Lib.hid hfc
  rw [h0, Nat.zero_add]
  have hjl : j < len := by have := (List.getElem?_eq_some_iff.1 hj).1; have := hcs.1; omega
  obtain ⟨b, off, c', rfl, hB, hc', c0, c1, fa, fl, fc, c2, hF, hnil⟩ := hcs.get hbel1 hjl
  have hcc : c' = c := by rw [hj] at hc'; exact (Option.some.inj hc').symm
  subst hcc
  clear h0 hfc
  have hfl : fl ≤ 100000 := by have := hf c' (List.mem_of_getElem? hj); have := hF.1; omega
  have hmx : len ≤ maxLen := hcs.2.1
  unfold maxLen at hmx
  go_wp2_with fail
  have hzw := hbel1.size
  have HFF := Lib.hid hF
  have hFA : FieldsOn (· < w.heap.size) (w1.alloc (.cells #[.int .i64 c'.id, .string c'.name, .slice fa fl fc] 82)) fa fl c'.fields := HFF.out.on.imp (fun b hb => ⟨hb, by rw [halloc, if_neg (by omega)]⟩)
  refine (cloneFields_any fa fl fc _ hfl hnil (fldCells c'.fields) (by rw [← HFF.out.1]; exact flat3_len _ _ _ _) hFA.cells (fldCells_one _)).mono ?_
  rintro e w2 ⟨va, vc, rfl, hown, hb2, hnv⟩
  have hr2 := keep hb2 (keepA _ hr1)
  have hn2 := keep hb2 (heap_alloc_new w1 _)
  have q0 := cell_at hr2 0
  have q1 := cell_at hr2 1
  have q2 := cell_at hr2 2
  have g0 := free_at hr2 0
  have g1 := free_at hr2 1
  have g2 := free_at hr2 2
  have n0 := cell_at hn2 0
  have n1 := cell_at hn2 1
  have n2 := cell_at hn2 2
  have m2 := free_at hn2 2
  simp at q0 q1 q2 n0 n1 n2
  have hl1 := lt_some hr1
  have HO := Lib.hid hown
  have HB2 := Lib.hid hb2
  clear hown hb2 hF hFA
  go_wp2
  refine bodyPost_ret (v := .tuple #[.agg #[.int .i64 c'.id, .string c'.name, .slice va fl vc], .bool true]) (by simp [results, Tryz.results148, go_sem, q0, q1, q2]) rfl ?_
  unfold IsFind
  rw [HF.out]
  have hz2 := HB2.out.size
  simp only [World.size_alloc] at hz2
  refine ⟨va, fl, vc, rfl, ?_, hnv, ?_⟩
  ·refine ⟨?_, HFF.out.1, HFF.out.2.1⟩
   refine ownsRow_mono (base := (w1.alloc (.cells #[.int .i64 c'.id, .string c'.name, .slice fa fl fc] 82)).heap.size) ?_ (by simp; omega)
   exact ownsRow_setCell_below (ownsRow_setCell_below (ownsRow_setCell_below (ownsRow_setCell_below HO.out (by simp <;> omega) _) (by simp <;> omega) _) (by simp <;> omega) _) (by simp <;> omega) _
  ·have hb' : Below w.heap.size w w2 := (hbel1.alloc (by omega) _).trans (HB2.out.mono (by simp; omega))
   exact (((hb'.setCell (by simp; omega) _).setCell (by simp) _).setCell (by simp) _).setCell (by simp) _
set_option maxRecDepth 100000 in
theorem Find_any (ver id : Int) (cs : List Cmp) (a : Option Addr) (len cap : Nat) (w : World) (hcs : CompsAt w.heap.size w a len cs) (hf : ∀ c ∈ cs, c.fields.length ≤ 100000) :
  Calls Tryz.prog 115 #[.agg #[.int .i64 ver, .slice a len cap], .int .i64 id] w (IsFind id cs w) := by
 have hbel0 : Below w.heap.size w (((w.alloc (.cells #[.int .i64 ver, .slice a len cap] 24)).alloc (.cells #[.int .i64 id] 3)).alloc (.cells #[.int .i64 0, .string ByteArray.empty, .slice none 0 0] 82)) := by go_grown
 go_enter Tryz.func115, Tryz.ntmps115
 go_wp2_with fail
 refine (find_any ver id cs _ _ _ _ _ ((hcs.below hbel0).mono hbel0.size) hf ?_).mono ?_
 ·rw [World.cell?_of_block (w := (w.alloc (.cells #[.int .i64 ver, .slice a len cap] 24)).alloc (.cells #[.int .i64 id] 3)) (by rw [halloc, if_neg (by simp)])]
  simp
 intro e w1 h
 have hz0 := hbel0.size
 unfold IsFind at h
 cases hfc : findC id cs with
 | none =>
  rw [hfc] at h
  obtain ⟨rfl, hb1⟩ := h
  have HF := Lib.hid hfc
  clear hfc
  have hr1 := keep hb1 (heap_alloc_new ((w.alloc (.cells #[.int .i64 ver, .slice a len cap] 24)).alloc (.cells #[.int .i64 id] 3)) (.cells #[.int .i64 0, .string ByteArray.empty, .slice none 0 0] 82))
  rw [World.size_alloc, World.size_alloc] at hr1
  have q0 := cell_at hr1 0
  have q1 := cell_at hr1 1
  have q2 := cell_at hr1 2
  have g0 := free_at hr1 0
  have g1 := free_at hr1 1
  have g2 := free_at hr1 2
  simp at q0 q1 q2
  have hbel1 : Below w.heap.size w w1 := hbel0.trans (hb1.mono hz0)
  go_wp2
  refine bodyPost_ret (v := .tuple #[.agg #[.int .i64 0, .string ByteArray.empty, .slice none 0 0], .bool false]) (by simp [results, Tryz.results115, go_sem, q0, q1, q2]) rfl ?_
  unfold IsFind
  rw [HF.out]
  exact ⟨rfl, ((hbel1.setCell (by simp; omega) _).setCell (by simp; omega) _).setCell (by simp; omega) _⟩
 | some c =>
  rw [hfc] at h
  obtain ⟨va, fl, vc, rfl, hF, hn, hb1⟩ := h
  have HF := Lib.hid hfc
  clear hfc
  have hr1 := keep hb1 (heap_alloc_new ((w.alloc (.cells #[.int .i64 ver, .slice a len cap] 24)).alloc (.cells #[.int .i64 id] 3)) (.cells #[.int .i64 0, .string ByteArray.empty, .slice none 0 0] 82))
  rw [World.size_alloc, World.size_alloc] at hr1
  have q0 := cell_at hr1 0
  have q1 := cell_at hr1 1
  have q2 := cell_at hr1 2
  have g0 := free_at hr1 0
  have g1 := free_at hr1 1
  have g2 := free_at hr1 2
  simp at q0 q1 q2
  have hbel1 : Below w.heap.size w w1 := hbel0.trans (hb1.mono hz0)
  have HFF := Lib.hid hF
  clear hF
  go_wp2
  refine bodyPost_ret (v := .tuple #[.agg #[.int .i64 c.id, .string c.name, .slice va fl vc], .bool true]) (by simp [results, Tryz.results115, go_sem, q0, q1, q2]) rfl ?_
  unfold IsFind
  rw [HF.out]
  refine ⟨va, fl, vc, rfl, ?_, hn, ((hbel1.setCell (by simp; omega) _).setCell (by simp; omega) _).setCell (by simp; omega) _⟩
  refine ⟨?_, HFF.out.2⟩
  refine ownsRow_mono (base := (((w.alloc (.cells #[.int .i64 ver, .slice a len cap] 24)).alloc (.cells #[.int .i64 id] 3)).alloc (.cells #[.int .i64 0, .string ByteArray.empty, .slice none 0 0] 82)).heap.size) ?_ (by simp; omega)
  exact ownsRow_setCell_below (ownsRow_setCell_below (ownsRow_setCell_below HFF.out.1 (by simp) _) (by simp) _) (by simp) _
end Go.Proofs.YtgebbmfoamkfnaaGreatDoor
namespace Go.Proofs.YtgebbmfoamkfnaaGreatDoor
open Go.RowKit
set_option linter.unusedVariables false
def idsTo (s : Int) (m : Nat) : List Int := ((List.range m).map fun (j : Nat) => (j : Int) + 1).filter fun i => hasB s i
theorem idsTo_succ (s : Int) (m : Nat) : idsTo s (m + 1) = idsTo s m ++ if hasB s ((m : Int) + 1) then [(m : Int) + 1] else [] := by
 unfold idsTo
 rw [List.range_succ, List.map_append, List.filter_append]
 simp [List.filter_cons]
theorem idsTo_len (s : Int) (m : Nat) : (idsTo s m).length ≤ m := by
 unfold idsTo
 have := List.length_filter_le (fun i => hasB s i) ((List.range m).map fun (j : Nat) => (j : Int) + 1)
 simpa using this
theorem idsTo_bd (s : Int) (m : Nat) : ∀ i ∈ idsTo s m, 1 ≤ i ∧ i ≤ m := by
 intro i hi
 unfold idsTo at hi
 obtain ⟨h1, _⟩ := List.mem_filter.1 hi
 obtain ⟨j, hj, rfl⟩ := List.mem_map.1 h1
 have := List.mem_range.1 hj
 omega
def IsIds (s : Int) (w : World) (e : Ending) (w' : World) : Prop :=
 ∃ va n vc, e = .returned (.slice va n vc) ∧ n = (idsTo s 24).length ∧ w'.ownsRow w.heap.size 3 1 (.slice va n vc) n ((idsTo s 24).map (.int .i64)) ∧ Below w.heap.size w w'
set_option maxRecDepth 100000 in
set_option maxHeartbeats 1000000 in
theorem ids_any (s : Int) (w : World) (h0 : 0 ≤ s) (hs : s ≤ 4294967295) : Calls Tryz.prog 77 #[.int .u32 s] w (IsIds s w) := by
 obtain ⟨i0, hi, hz0, hz1, hz2⟩ := info_parts Tryz.info3
 go_enter Tryz.func77, Tryz.ntmps77
 go_wp2_with fail
 go_loopw [3, 4] (fun v i wr => ∃ (k : Nat) (va : Option Addr) (n vc : Nat), k ≤ 24 ∧ i = .int .i64 ((k : Int) + 1) ∧ v = .slice va n vc ∧ n = (idsTo s k).length ∧ n ≤ 24 ∧ wr.ownsRow w.heap.size 3 1 (.slice va n vc) n ((idsTo s k).map (.int .i64)) ∧ Below w.heap.size w wr)
  (fun _ i _ => 30 - (intOf i).toNat)
 case atStart => exact ⟨0, none, 0, 0, by omega, rfl, rfl, rfl, by omega, World.ownsRow_nil _ _ _ _, Below.refl _ _⟩
 case round =>
  obtain ⟨k, va, n, vc, hk, rfl, rfl, hn, hn24, hown, hbw⟩ := hrel
  have hzr := hbw.size
  by_cases hlt : k < 24
  ·have hd1 : decide ((k : Int) + 1 ≤ 24) = true := by simp; omega
   have hsuc := Lib.hid (idsTo_succ s k)
   have HN := Lib.hid hn
   clear hn
   have hlen := idsTo_len s (k + 1)
   have HLEN := Lib.hid hlen
   clear hlen
   go_wp2_with fail
   refine (has_any _ _ _ h0 hs).mono ?_
   rintro e w' ⟨rfl, rfl⟩
   cases hh : hasB s ((k : Int) + 1)
   ·have HS : Hid (idsTo s (k + 1) = idsTo s k) := Lib.hid (by rw [hsuc.out, hh]; simp)
    clear hh
    go_wp2_with fail
    go_roundw
    case rel => exact ⟨k + 1, va, n, vc, by omega, by go_num, rfl, by rw [HS.out]; exact HN.out, hn24, by rw [HS.out]; exact hown, hbw⟩
    case measure => simp [intOf]; omega
   ·have HS : Hid (idsTo s (k + 1) = idsTo s k ++ [(k : Int) + 1]) := Lib.hid (by rw [hsuc.out, hh]; simp)
    clear hh
    have hn24' : n + 1 ≤ 24 := by have := HLEN.out; rw [HS.out] at this; simp at this; have := HN.out; omega
    have hownA := hown.alloc (.cells #[.int .i64 ((k : Int) + 1)] 3)
    go_wp2_with (at_builtin; go_loud (refine wpList_append_own _ rfl (.tmp 12) (.tmp 14) 72 rfl w.heap.size 3 i0 (.int .i64 0) 1 8 Tryz.underlying72 hi hz0 hz1 hz2 rfl (by decide) (.slice va n vc) n ((idsTo s k).map (.int .i64)) rfl hownA ⟨wr.heap.size, 0, none⟩ 1 1 [.int .i64 ((k : Int) + 1)] rfl rfl (cell_one_new _ _ _) (ints_oneCell .i64 [(k : Int) + 1]) (by unfold maxLen; omega) (by omega) (by simp; omega) ?_))
    intro v' w2 hown2 hg2 _
    obtain ⟨va', vc', hv'⟩ := ownsRow_slice hown2
    rw [hv'] at hown2 ⊢
    clear hv'
    have hrow : ∀ x, (Value.slice va n vc).ownBlock = some x → w.heap.size ≤ x := fun x hx => (hown.lt x hx).1
    have hbel : Below w.heap.size w w2 := (hbw.alloc hzr _).grown hg2 (by simp; omega) hrow
    have HO := Lib.hid hown2
    clear hown2 hown hownA hg2 hrow
    go_wp2_with fail
    go_roundw
    case rel => exact ⟨k + 1, va', n + 1, vc', by omega, by go_num, rfl, by rw [HS.out]; simp; exact HN.out, hn24', by rw [HS.out, List.map_append]; exact HO.out, hbel⟩
    case measure => simp [intOf]; omega
  ·obtain rfl : k = 24 := by omega
   have hd1 : decide (((24 : Nat) : Int) + 1 ≤ 24) = false := by simp
   have HN := Lib.hid hn
   clear hn
   go_wp2_with fail
   go_returns
   exact ⟨va, n, vc, rfl, HN.out, hown, hbw⟩
end Go.Proofs.YtgebbmfoamkfnaaGreatDoor
namespace Go.Proofs.YtgebbmfoamkfnaaGreatDoor
open Go.RowKit
set_option linter.unusedVariables false
theorem w64_id {n : Int} (h0 : -9223372036854775808 ≤ n) (h1 : n ≤ 9223372036854775807) : wrap64 n = n := by
 unfold wrap64; omega
theorem upF_eq {a s : Int} (h0 : 0 ≤ a) (h1 : a ≤ 100000) (h2 : 1 ≤ s) (h3 : s ≤ 8) : upF a s = (a + s - 1) / s * s ∧ a ≤ upF a s ∧ upF a s ≤ a + 7 := by
 have e : upF a s = (a + s - 1) / s * s := by
  unfold upF
  rw [w64_id (n := a + s) (by omega) (by omega), w64_id (n := a + s - 1) (by omega) (by omega), Int.tdiv_eq_ediv_of_nonneg (by omega)]
  rcases (by omega : s = 1 ∨ s = 2 ∨ s = 3 ∨ s = 4 ∨ s = 5 ∨ s = 6 ∨ s = 7 ∨ s = 8) with rfl | rfl | rfl | rfl | rfl | rfl | rfl | rfl <;> (rw [w64_id (n := _ / _) (by omega) (by omega), w64_id (by omega) (by omega)])
 rw [e]
 refine ⟨rfl, ?_⟩
 rcases (by omega : s = 1 ∨ s = 2 ∨ s = 3 ∨ s = 4 ∨ s = 5 ∨ s = 6 ∨ s = 7 ∨ s = 8) with rfl | rfl | rfl | rfl | rfl | rfl | rfl | rfl <;> omega
theorem fldOk_bd {f : Fld} (h : fldOk f = true) : 1 ≤ kSize f.kind ∧ kSize f.kind ≤ 8 ∧ 1 ≤ f.count ∧ f.count ≤ 8 := by
 have := (kSize_bd f.kind).2
 simp [fldOk] at h
 omega
theorem planStep_bd {p : List Int × Int × Int} {f : Fld} (h : fldOk f = true) (h0 : 0 ≤ p.2.1) (h1 : p.2.1 ≤ 10000) (h2 : 1 ≤ p.2.2) (h3 : p.2.2 ≤ 8) :
  (planStep p f).2.1 = upF p.2.1 (kSize f.kind) + kSize f.kind * f.count ∧ 0 ≤ (planStep p f).2.1 ∧ (planStep p f).2.1 ≤ p.2.1 + 71 ∧ 1 ≤ (planStep p f).2.2 ∧ (planStep p f).2.2 ≤ 8 := by
 obtain ⟨k1, k2, c1, c2⟩ := fldOk_bd h
 have hu := upF_eq h0 (by omega) k1 k2
 have hm : 1 ≤ kSize f.kind * f.count ∧ kSize f.kind * f.count ≤ 64 := by
  generalize kSize f.kind = s at *
  rcases (by omega : s = 1 ∨ s = 2 ∨ s = 3 ∨ s = 4 ∨ s = 5 ∨ s = 6 ∨ s = 7 ∨ s = 8) with rfl | rfl | rfl | rfl | rfl | rfl | rfl | rfl <;> omega
 have e : (planStep p f).2.1 = upF p.2.1 (kSize f.kind) + kSize f.kind * f.count := by
  unfold planStep
  simp only
  rw [w64_id (n := kSize f.kind * f.count) (by omega) (by omega), w64_id (by omega) (by omega)]
 have e2 : (planStep p f).2.2 = max p.2.2 (kSize f.kind) := rfl
 rw [e, e2]
 refine ⟨rfl, by omega, by omega, by omega, by omega⟩
theorem planF_bd : ∀ (fs : List Fld), fs.all fldOk = true → ∀ p : List Int × Int × Int, 0 ≤ p.2.1 → p.2.1 + 71 * fs.length ≤ 10000 → 1 ≤ p.2.2 → p.2.2 ≤ 8 →
  0 ≤ (fs.foldl planStep p).2.1 ∧ (fs.foldl planStep p).2.1 ≤ p.2.1 + 71 * fs.length ∧ 1 ≤ (fs.foldl planStep p).2.2 ∧ (fs.foldl planStep p).2.2 ≤ 8
 | [], _, p, h0, h1, h2, h3 => ⟨h0, by simp, h2, h3⟩
 | f :: r, h, p, h0, h1, h2, h3 => by
  rw [List.all_cons, Bool.and_eq_true] at h
  rw [List.length_cons] at h1 ⊢
  obtain ⟨_, b1, b2, b3, b4⟩ := planStep_bd h.1 h0 (by omega) h2 h3
  have := planF_bd r h.2 (planStep p f) b1 (by omega) b3 b4
  rw [List.foldl_cons]
  omega
theorem layCheck_zero {fs : List Fld} (h : layCheck fs = 0) : fs.length ≤ 8 ∧ fs.all fldOk = true ∧ planSize fs ≤ 256 := by
 unfold layCheck at h
 split at h
 ·cases h
 ·split at h
  ·split at h
   ·cases h
   ·rename_i a b c
    exact ⟨by omega, b, by omega⟩
  ·cases h
theorem plan_bd {fs : List Fld} (h8 : fs.length ≤ 8) (h : fs.all fldOk = true) : 0 ≤ (planF fs).2.1 ∧ (planF fs).2.1 ≤ 568 ∧ 1 ≤ (planF fs).2.2 ∧ (planF fs).2.2 ≤ 8 := by
 have := planF_bd fs h ([], 0, 1) (by simp) (by simp; omega) (by simp) (by simp)
 unfold planF
 simp only at this
 omega
theorem planSize_bd {fs : List Fld} (h8 : fs.length ≤ 8) (h : fs.all fldOk = true) : 0 ≤ planSize fs ∧ planSize fs ≤ 575 := by
 obtain ⟨a, b, c, d⟩ := plan_bd h8 h
 have := upF_eq a (by omega) c d
 unfold planSize
 omega
theorem col_ok {fs : List Fld} (h : layCheck fs = 0) {most : Int} (h1 : 1 ≤ most) (h2 : most ≤ 256) : colOk (layPlanOf fs) most = true := by
 obtain ⟨a, b, c⟩ := layCheck_zero h
 have := planSize_bd a b
 unfold layPlanOf
 rw [if_pos h]
 simp [colOk]
 omega
theorem findC_mem {id : Int} {c : Cmp} : ∀ {cs : List Cmp}, findC id cs = some c → c ∈ cs := by
 intro cs h
 obtain ⟨j, _, hj⟩ := idxF_some cs 0 h
 exact List.mem_of_getElem? hj
theorem compsGo_lay : ∀ (cs : List Cmp) (last : Int) (seen : List (List UInt8)), compsGo last seen cs = 0 → ∀ c ∈ cs, layCheck c.fields = 0
 | [], _, _, _, c, hc => by simp at hc
 | x :: r, last, seen, h, c, hc => by
  unfold compsGo at h
  split at h
  ·cases h
  ·split at h
   ·cases h
   ·split at h
    ·rename_i h3; exact absurd h h3
    ·rename_i h1 h2 h3
     rcases List.mem_cons.1 hc with rfl | hc
     ·have h4 : fieldsF c.fields = 0 := by
       rcases (by omega : fieldsF c.fields = 0 ∨ fieldsF c.fields ≠ 0) with h | h
       ·exact h
       ·exact absurd h h3
      unfold fieldsF at h4
      split at h4
      ·exact h4
      ·cases h4
     ·exact compsGo_lay r _ _ h c hc
theorem schema_lay {ver : Int} {cs : List Cmp} (h : schemaCheck ver cs = 0) : ∀ c ∈ cs, layCheck c.fields = 0 := by
 unfold schemaCheck at h
 split at h
 ·cases h
 ·exact compsGo_lay cs _ _ h
end Go.Proofs.YtgebbmfoamkfnaaGreatDoor
namespace Go.Proofs.YtgebbmfoamkfnaaGreatDoor
open Go.RowKit
set_option linter.unusedVariables false
def leB (n : Nat) : Nat → List UInt8
 | 0 => []
 | k + 1 => leB n k ++ [UInt8.ofNat (n / 256 ^ k)]
theorem leB_len (n k : Nat) : (leB n k).length = k := by
 induction k with
 | zero => rfl
 | succ k ih => simp [leB, ih]
def putN (k : Int) (x : WI) : Nat := (x.val % 2 ^ (8 * (kSize k).toNat)).toNat
def putB (k : Int) (x : WI) : List UInt8 := leB (putN k x) (kSize k).toNat
theorem putB_len (k : Int) (x : WI) : (putB k x).length = (kSize k).toNat := leB_len _ _
def padB (l : List UInt8) (n : Nat) : List UInt8 := l ++ List.replicate (n - l.length) 0
theorem padB_len {l : List UInt8} {n : Nat} (h : l.length ≤ n) : (padB l n).length = n := by simp [padB]; omega
def cnt (fs : List Fld) : Nat := (fs.map (·.count.toNat)).sum
theorem cnt_snoc (fs : List Fld) (f : Fld) : cnt (fs ++ [f]) = cnt fs + f.count.toNat := by simp [cnt]
theorem cnt_cons (fs : List Fld) (f : Fld) : cnt (f :: fs) = f.count.toNat + cnt fs := by simp [cnt]
def packStep (s : (List Int × Int × Int) × List UInt8 × List WI) (f : Fld) : (List Int × Int × Int) × List UInt8 × List WI :=
 (planStep s.1 f, padB s.2.1 (upF s.1.2.1 (kSize f.kind)).toNat ++ (s.2.2.take f.count.toNat).flatMap (putB f.kind), s.2.2.drop f.count.toNat)
def packPre (fs : List Fld) (val : List WI) : (List Int × Int × Int) × List UInt8 × List WI := fs.foldl packStep (([], 0, 1), [], val)
def packF (fs : List Fld) (val : List WI) : List UInt8 := padB (packPre fs val).2.1 (planSize fs).toNat
theorem packPre_snoc (fs : List Fld) (f : Fld) (val : List WI) : packPre (fs ++ [f]) val = packStep (packPre fs val) f := by simp [packPre]
theorem packFold_fst (fs : List Fld) : ∀ q : (List Int × Int × Int) × List UInt8 × List WI, (fs.foldl packStep q).1 = fs.foldl planStep q.1 := by
 induction fs with
 | nil => intro q; rfl
 | cons f r ih => intro q; rw [List.foldl_cons, List.foldl_cons, ih]; rfl
theorem packPre_fst (fs : List Fld) (val : List WI) : (packPre fs val).1 = planF fs := packFold_fst fs _
theorem planFold_pre (l : List Fld) : ∀ p : List Int × Int × Int, ∃ t, (l.foldl planStep p).1 = p.1 ++ t := by
 induction l with
 | nil => intro p; exact ⟨[], by simp⟩
 | cons f r ih => intro p; obtain ⟨t, ht⟩ := ih (planStep p f); exact ⟨upF p.2.1 (kSize f.kind) :: t, by rw [List.foldl_cons, ht]; simp [planStep]⟩
theorem planF_split (fs : List Fld) (k : Nat) : planF fs = (fs.drop k).foldl planStep (planF (fs.take k)) := by
 rw [planF, planF, ← List.foldl_append, List.take_append_drop]
theorem plan_at {fs : List Fld} {k : Nat} {f : Fld} (h : fs[k]? = some f) : (planF fs).1[k]? = some (upF (planF (fs.take k)).2.1 (kSize f.kind)) := by
 have hk : k < fs.length := (List.getElem?_eq_some_iff.1 h).1
 rw [planF_split fs (k + 1), take_snoc h, planF_snoc]
 obtain ⟨t, ht⟩ := planFold_pre (fs.drop (k + 1)) (planStep (planF (fs.take k)) f)
 rw [ht]
 have hl : (planF (fs.take k)).1.length = k := by rw [planF_len, List.length_take]; omega
 simp only [planStep]
 rw [List.append_assoc, List.getElem?_append_right (by omega), hl]
 simp
theorem flat_len (k : Int) (l : List WI) : (l.flatMap (putB k)).length = l.length * (kSize k).toNat := by
 induction l with
 | nil => simp
 | cons x r ih => rw [List.flatMap_cons, List.length_append, ih, putB_len, List.length_cons, Nat.succ_mul]; omega
theorem all_take {α : Type} {p : α → Bool} {l : List α} (h : l.all p = true) (k : Nat) : (l.take k).all p = true := by
 rw [List.all_eq_true] at h ⊢
 exact fun x hx => h x (List.mem_of_mem_take hx)
theorem pack_len : ∀ (n : Nat) (fs : List Fld), fs.length = n → n ≤ 8 → fs.all fldOk = true → ∀ val : List WI, cnt fs ≤ val.length →
  (packPre fs val).2.1.length = (planF fs).2.1.toNat ∧ (packPre fs val).2.2 = val.drop (cnt fs) := by
 intro n
 induction n with
 | zero =>
  intro fs hl _ _ val _
  obtain rfl := List.eq_nil_of_length_eq_zero hl
  exact ⟨rfl, rfl⟩
 | succ n ih =>
  intro fs hl h8 ha val hv
  rcases List.eq_nil_or_concat fs with rfl | ⟨r, f, rfl⟩
  ·simp at hl
  ·rw [List.concat_eq_append] at *
   have hlr : r.length = n := by simpa using hl
   rw [List.all_append, Bool.and_eq_true] at ha
   rw [cnt_snoc] at hv ⊢
   obtain ⟨i1, i2⟩ := ih r hlr (by omega) ha.1 val (by omega)
   have hf : fldOk f = true := by simpa using ha.2
   obtain ⟨k1, k2, c1, c2⟩ := fldOk_bd hf
   obtain ⟨b0, b1, b2, b3⟩ := plan_bd (by omega) ha.1
   obtain ⟨u1, u2, u3⟩ := upF_eq b0 (by omega) k1 k2
   obtain ⟨s1, s2, s3, s4, s5⟩ := planStep_bd hf b0 (by omega) b2 b3
   rw [packPre_snoc, planF_snoc, s1]
   simp only [packStep]
   rw [i2, packPre_fst]
   refine ⟨?_, by rw [List.drop_drop]⟩
   rw [List.length_append, padB_len (by omega), flat_len, List.length_take, List.length_drop, Nat.min_eq_left (by omega), Int.toNat_add (by omega) (Int.mul_nonneg (by omega) (by omega)), Int.toNat_mul (by omega) (by omega), Nat.mul_comm]
theorem packF_len {fs : List Fld} (h : layCheck fs = 0) {val : List WI} (hv : cnt fs ≤ val.length) : (packF fs val).length = (planSize fs).toNat := by
 obtain ⟨h8, ha, _⟩ := layCheck_zero h
 obtain ⟨b0, b1, b2, b3⟩ := plan_bd h8 ha
 obtain ⟨u1, u2, u3⟩ := upF_eq b0 (by omega) b2 b3
 unfold packF
 rw [padB_len]
 rw [(pack_len _ fs rfl h8 ha val hv).1]
 unfold planSize
 omega
def fitGo : List Fld → List WI → Int
 | [], _ => 0
 | f :: r, v => if (v.take f.count.toNat).all (fitsF f.kind) then fitGo r (v.drop f.count.toNat) else 3
def fitF (fs : List Fld) (val : List WI) : Int := if layCheck fs ≠ 0 then layCheck fs else if val.length ≠ cnt fs then 4 else fitGo fs val
end Go.Proofs.YtgebbmfoamkfnaaGreatDoor
