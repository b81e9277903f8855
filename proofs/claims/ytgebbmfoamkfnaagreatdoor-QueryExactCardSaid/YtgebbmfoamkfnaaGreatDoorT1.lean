/- Contracts of the small functions that compute with numbers and strings. · Contracts of the kinds' sizes. · Contracts of layout.plan, layout.Check, layout.Of. · General lemmas, for texts over A3: worlds that differ in one block, whole rows. · Contracts of layout.Check, layout.Of, column.New, schema.IsName. -/
import Derived.Test.YtgebbmfoamkfnaaGreatDoorRows
import Derived.WalkKit
import Derived.WalkSpells
import Derived.WalkLawsBesides
import Derived.Outline
import Derived.Handy
import Derived.Lib.Hide
import Derived.Laws.CopyOwn
import Derived.BigFrame
namespace Go.Proofs.YtgebbmfoamkfnaaGreatDoor
open Go.RowKit
set_option linter.unusedVariables false
def idB (n : Int) : Bool := decide (1 ≤ n ∧ n ≤ 24)
def hasB (s n : Int) : Bool := idB n && (bits BinOp.and IntKind.u32 (s / 2 ^ n.toNat) 1 == 1)
def sWith (s n : Int) : Int := if idB n then bits BinOp.or IntKind.u32 s (2 ^ n.toNat % 4294967296) else s
def sWithout (s n : Int) : Int := if idB n then bits BinOp.andNot IntKind.u32 s (2 ^ n.toNat % 4294967296) else s
def sIs (s : Int) : Bool := bits BinOp.andNot IntKind.u32 s 33554430 == 0
theorem ret_bool {a b : Bool} (h : a = b) : Ending.returned (.bool a) = .returned (.bool b) := by rw [h]
theorem ret_intk {k : IntKind} {a b : Int} (h : a = b) : Ending.returned (.int k a) = .returned (.int k b) := by rw [h]
theorem idB_true {n : Int} (h1 : 1 ≤ n) (h2 : n ≤ 24) : idB n = true := by simp [idB, h1, h2]
theorem idB_false {n : Int} (h : ¬ (1 ≤ n ∧ n ≤ 24)) : idB n = false := by simp [idB]; omega
theorem isId_any (n : Int) (w : World) : Calls Tryz.prog 54 #[.int .i64 n] w fun e w' => e = .returned (.bool (idB n)) ∧ w = w' := by
 by_cases h1 : 1 ≤ n
 ·by_cases h2 : n ≤ 24
  ·go_enter Tryz.func54, Tryz.ntmps54
   go_wp2
   go_ret
   exact ⟨by simp [idB, h1, h2], rfl⟩
  ·go_enter Tryz.func54, Tryz.ntmps54
   go_wp2
   go_ret
   exact ⟨by simp [idB, h2], rfl⟩
 ·go_enter Tryz.func54, Tryz.ntmps54
  go_wp2
  go_ret
  exact ⟨by simp [idB]; omega, rfl⟩
theorem has_any (s n : Int) (w : World) (h0 : 0 ≤ s) (hs : s ≤ 4294967295) : Calls Tryz.prog 60 #[.int .u32 s, .int .i64 n] w fun e w' => e = .returned (.bool (hasB s n)) ∧ w = w' := by
 by_cases h : 1 ≤ n ∧ n ≤ 24
 ·obtain ⟨h1, h2⟩ := h
  go_enter Tryz.func60, Tryz.ntmps60
  go_wp2
  go_ret
  exact ⟨by simp [hasB, idB_true h1 h2], rfl⟩
 ·have hf := Lib.hid (idB_false h)
  by_cases h1 : 1 ≤ n
  all_goals
   go_enter Tryz.func60, Tryz.ntmps60
   go_wp2
   go_ret
   exact ⟨by simp [hasB, hf.out], rfl⟩
theorem with_any (s n : Int) (w : World) (h0 : 0 ≤ s) (hs : s ≤ 4294967295) : Calls Tryz.prog 18 #[.int .u32 s, .int .i64 n] w fun e w' => e = .returned (.int .u32 (sWith s n)) ∧ w = w' := by
 by_cases h : 1 ≤ n ∧ n ≤ 24
 ·obtain ⟨h1, h2⟩ := h
  go_enter Tryz.func18, Tryz.ntmps18
  go_wp2
  go_ret
  exact ⟨by simp [sWith, idB_true h1 h2], rfl⟩
 ·have hf := Lib.hid (idB_false h)
  rcases (by omega : n < 1 ∨ (1 ≤ n ∧ 24 < n)) with h1 | ⟨h1, h2⟩
  ·clear h
   go_enter Tryz.func18, Tryz.ntmps18
   go_wp2
   go_ret
   exact ⟨by simp [sWith, hf.out], rfl⟩
  ·clear h
   have hd : decide (n ≤ 24) = false := by simp; omega
   go_enter Tryz.func18, Tryz.ntmps18
   go_wp2
   go_ret
   exact ⟨by simp [sWith, hf.out], rfl⟩
theorem sigIs_any (s : Int) (w : World) (h0 : 0 ≤ s) (hs : s ≤ 4294967295) : Calls Tryz.prog 31 #[.int .u32 s] w fun e w' => e = .returned (.bool (sIs s)) ∧ w = w' := by
 go_enter Tryz.func31, Tryz.ntmps31
 go_wp2
 go_ret
 exact ⟨rfl, rfl⟩
def letB (b : Int) : Bool := decide (97 ≤ b ∧ b ≤ 122)
theorem isLetter_any (b : Int) (w : World) (h0 : 0 ≤ b) (hs : b ≤ 255) : Calls Tryz.prog 105 #[.int .u8 b] w fun e w' => e = .returned (.bool (letB b)) ∧ w = w' := by
 by_cases h1 : 97 ≤ b
 ·by_cases h2 : b ≤ 122
  all_goals
   go_enter Tryz.func105, Tryz.ntmps105
   go_wp2
   go_ret
   exact ⟨by simp [letB, h1, h2], rfl⟩
 ·go_enter Tryz.func105, Tryz.ntmps105
  go_wp2
  go_ret
  exact ⟨by simp [letB]; omega, rfl⟩
def kindB (k : Int) : Bool := decide (1 ≤ k ∧ k ≤ 10)
theorem isKind_any (k : Int) (w : World) : Calls Tryz.prog 157 #[.int .i64 k] w fun e w' => e = .returned (.bool (kindB k)) ∧ w = w' := by
 by_cases h1 : 1 ≤ k
 ·by_cases h2 : k ≤ 10
  all_goals
   go_enter Tryz.func157, Tryz.ntmps157
   go_wp2
   go_ret
   exact ⟨by simp [kindB, h1, h2], rfl⟩
 ·go_enter Tryz.func157, Tryz.ntmps157
  go_wp2
  go_ret
  exact ⟨by simp [kindB]; omega, rfl⟩
end Go.Proofs.YtgebbmfoamkfnaaGreatDoor
namespace Go.Proofs.YtgebbmfoamkfnaaGreatDoor
open Go.RowKit
set_option linter.unusedVariables false
def shapesObj : Obj := Obj.cells
    #[Value.string { data := #[] }, Value.int IntKind.i64 0, Value.bool false,
     Value.string { data := #[98, 111, 111, 108] }, Value.int IntKind.i64 1, Value.bool false,
     Value.string { data := #[105, 56] }, Value.int IntKind.i64 1, Value.bool true,
     Value.string { data := #[105, 49, 54] }, Value.int IntKind.i64 2, Value.bool true,
     Value.string { data := #[105, 51, 50] }, Value.int IntKind.i64 4, Value.bool true,
     Value.string { data := #[105, 54, 52] }, Value.int IntKind.i64 8, Value.bool true,
     Value.string { data := #[117, 56] }, Value.int IntKind.i64 1, Value.bool false,
     Value.string { data := #[117, 49, 54] }, Value.int IntKind.i64 2, Value.bool false,
     Value.string { data := #[117, 51, 50] }, Value.int IntKind.i64 4, Value.bool false,
     Value.string { data := #[117, 54, 52] }, Value.int IntKind.i64 8, Value.bool false,
     Value.string { data := #[114, 101, 102] }, Value.int IntKind.i64 8, Value.bool false]
    277
set_option maxRecDepth 100000 in
theorem shapes_any (w : World) : Calls Tryz.prog 199 #[] w fun e w' => e = .returned (.slice (some ⟨w.heap.size, 0, none⟩) 11 11) ∧ w.alloc shapesObj = w' := by
 go_enter Tryz.func199, Tryz.ntmps199
 go_wp2
 go_ret
 exact ⟨rfl, rfl⟩
def kSize (k : Int) : Int := if k = 1 then 1 else if k = 2 then 1 else if k = 3 then 2 else if k = 4 then 4 else if k = 5 then 8 else if k = 6 then 1 else if k = 7 then 2 else if k = 8 then 4 else if k = 9 then 8 else if k = 10 then 8 else 0
theorem kSize_zero {k : Int} (h : ¬ (1 ≤ k ∧ k ≤ 10)) : kSize k = 0 := by unfold kSize; repeat (rw [if_neg (by omega)])
theorem kSize_bd (k : Int) : 0 ≤ kSize k ∧ kSize k ≤ 8 := by unfold kSize; repeat' split <;> omega
theorem kindB_true {k : Int} (h1 : 1 ≤ k) (h2 : k ≤ 10) : kindB k = true := by simp [kindB, h1, h2]
theorem kindB_false {k : Int} (h : ¬ (1 ≤ k ∧ k ≤ 10)) : kindB k = false := by simp [kindB]; omega
theorem shapes_cells (W : World) (k : Int) (h1 : 1 ≤ k) (h2 : k ≤ 10) : ∃ s b, (W.alloc shapesObj).cell? ⟨W.heap.size, k.toNat * 3, none⟩ = some (.string s) ∧
  (W.alloc shapesObj).cell? ⟨W.heap.size, k.toNat * 3 + 1, none⟩ = some (.int .i64 (kSize k)) ∧ (W.alloc shapesObj).cell? ⟨W.heap.size, k.toNat * 3 + 2, none⟩ = some (.bool b) := by
 have h' : k = 1 ∨ k = 2 ∨ k = 3 ∨ k = 4 ∨ k = 5 ∨ k = 6 ∨ k = 7 ∨ k = 8 ∨ k = 9 ∨ k = 10 := by omega
 have hh : (W.alloc shapesObj).heap[W.heap.size]? = some shapesObj := heap_alloc_new W _
 rcases h' with rfl | rfl | rfl | rfl | rfl | rfl | rfl | rfl | rfl | rfl
 all_goals
  apply Exists.intro
  apply Exists.intro
  refine ⟨?_, ?_, ?_⟩
  all_goals (unfold World.cell?; rw [hh]; rfl)
def IsShape (k : Int) (w : World) (e : Ending) (w' : World) : Prop := ∃ s b, e = .returned (.agg #[.string s, .int .i64 (kSize k), .bool b]) ∧ Below w.heap.size w w'
theorem of_any (k : Int) (w : World) : Calls Tryz.prog 173 #[.int .i64 k] w (IsShape k w) := by
 by_cases h : 1 ≤ k ∧ k ≤ 10
 ·obtain ⟨h1, h2⟩ := h
  obtain ⟨s, b, c0, c1, c2⟩ := shapes_cells (w.alloc (Obj.cells #[Value.string { data := #[] }, Value.int IntKind.i64 0, Value.bool false] 277)) k h1 h2
  rw [World.size_alloc] at c0 c1 c2
  have hk := kindB_true h1 h2
  go_enter Tryz.func173, Tryz.ntmps173
  go_wp2_with (first | (go_at_call 199; refine (shapes_any _).mono ?_; rintro e w' ⟨rfl, rfl⟩) | (go_at_call 157; refine (isKind_any _ _).mono ?_; rintro e w' ⟨rfl, rfl⟩))
  go_returns
  exact ⟨s, b, rfl, by go_grown⟩
 ·have hk := kindB_false h
  have hz := Lib.hid (kSize_zero h)
  go_enter Tryz.func173, Tryz.ntmps173
  go_wp2_with (first | (go_at_call 199; refine (shapes_any _).mono ?_; rintro e w' ⟨rfl, rfl⟩) | (go_at_call 157; refine (isKind_any _ _).mono ?_; rintro e w' ⟨rfl, rfl⟩))
  go_returns
  exact ⟨_, _, by rw [hz.out], by go_grown⟩
end Go.Proofs.YtgebbmfoamkfnaaGreatDoor
namespace Go.Proofs.YtgebbmfoamkfnaaGreatDoor
open Go.RowKit
set_option linter.unusedVariables false
theorem fld102_1 (s : ByteArray) (k : Int) (b : Bool) (w : World) : Sem.run Tryz.prog (Instr.field 277 (.agg #[.string s, .int .i64 k, .bool b]) 1) w = .ok (.int .i64 k) w := by kernel_rfl
set_option maxRecDepth 100000 in
theorem size_any (k : Int) (w : World) : Calls Tryz.prog 144 #[.int .i64 k] w fun e w' => e = .returned (.int .i64 (kSize k)) ∧ Below w.heap.size w w' := by
 have hf := fld102_1
 go_enter Tryz.func144, Tryz.ntmps144
 go_wp2_with (go_at_call 173; refine (of_any _ _).mono ?_; rintro e w' ⟨s, b, rfl, hb⟩)
 go_ret
 exact ⟨rfl, by assumption⟩
def upF (a s : Int) : Int := wrap64 (wrap64 ((wrap64 (wrap64 (a + s) - 1)).tdiv s) * s)
theorem up_any (a s : Int) (w : World) (h : 1 ≤ s) : Calls Tryz.prog 154 #[.int .i64 a, .int .i64 s] w fun e w' => e = .returned (.int .i64 (upF a s)) ∧ w = w' := by
 go_enter Tryz.func154, Tryz.ntmps154
 go_wp2
 go_ret
 exact ⟨rfl, rfl⟩
structure Fld where
 name : ByteArray
 kind : Int
 count : Int
def FieldsAt (B : Nat) (w : World) (a : Option Addr) (len : Nat) (fs : List Fld) : Prop :=
 fs.length = len ∧ len ≤ maxLen ∧ (len = 0 ∨ ∃ b off, a = some ⟨b, off, none⟩ ∧ b < B ∧ ∀ (i : Nat) (f : Fld), fs[i]? = some f →
  w.cell? ⟨b, off + i * 3, none⟩ = some (.string f.name) ∧ w.cell? ⟨b, off + i * 3 + 1, none⟩ = some (.int .i64 f.kind) ∧ w.cell? ⟨b, off + i * 3 + 2, none⟩ = some (.int .i64 f.count))
theorem FieldsAt.below {B : Nat} {w w' : World} {a : Option Addr} {len : Nat} {fs : List Fld} (h : FieldsAt B w a len fs) (hb : Below B w w') : FieldsAt B w' a len fs := by
 obtain ⟨h1, h2, h3⟩ := h
 refine ⟨h1, h2, ?_⟩
 rcases h3 with h3 | ⟨b, off, ha, hB, hc⟩
 ·exact .inl h3
 ·refine .inr ⟨b, off, ha, hB, fun i f hf => ?_⟩
  obtain ⟨c0, c1, c2⟩ := hc i f hf
  exact ⟨(hb.cell (p := ⟨b, off + i * 3, none⟩) hB).trans c0, (hb.cell (p := ⟨b, off + i * 3 + 1, none⟩) hB).trans c1, (hb.cell (p := ⟨b, off + i * 3 + 2, none⟩) hB).trans c2⟩
def planStep (p : List Int × Int × Int) (f : Fld) : List Int × Int × Int :=
 (p.1 ++ [upF p.2.1 (kSize f.kind)], wrap64 (upF p.2.1 (kSize f.kind) + wrap64 (kSize f.kind * f.count)), max p.2.2 (kSize f.kind))
def planF (fs : List Fld) : List Int × Int × Int := fs.foldl planStep ([], 0, 1)
def planSize (fs : List Fld) : Int := upF (planF fs).2.1 (planF fs).2.2
theorem planF_snoc (fs : List Fld) (f : Fld) : planF (fs ++ [f]) = planStep (planF fs) f := by simp [planF]
theorem foldl_len (fs : List Fld) : ∀ p : List Int × Int × Int, (fs.foldl planStep p).1.length = p.1.length + fs.length := by
 induction fs with
 | nil => intro p; simp
 | cons f r ih => intro p; rw [List.foldl_cons, ih]; simp [planStep]; omega
theorem planF_len (fs : List Fld) : (planF fs).1.length = fs.length := by simp [planF, foldl_len]
theorem foldl_most (fs : List Fld) : ∀ p : List Int × Int × Int, 1 ≤ p.2.2 → 1 ≤ (fs.foldl planStep p).2.2 := by
 induction fs with
 | nil => intro p h; simpa using h
 | cons f r ih => intro p h; rw [List.foldl_cons]; exact ih _ (by simp only [planStep]; omega)
theorem planF_most (fs : List Fld) : 1 ≤ (planF fs).2.2 := foldl_most fs _ (by simp)
theorem take_snoc {α : Type} {l : List α} {k : Nat} {x : α} (h : l[k]? = some x) : l.take (k + 1) = l.take k ++ [x] := by
 rw [List.take_add_one, h]; rfl
theorem halloc (w : World) (o : Obj) (k : Nat) : (w.alloc o).heap[k]? = if k = w.heap.size then some o else w.heap[k]? := by
 show (w.heap.push o)[k]? = _
 rw [Array.getElem?_push]
theorem hset_ne (w : World) (a : Addr) (u : Value) (k : Nat) (h : k ≠ a.block) : (w.setCell a u).heap[k]? = w.heap[k]? := Below.heap_setCell w a u k h
theorem hset (w : World) (b o : Nat) (u : Value) (cs : Array Value) (e : TypeId) (fz : Nat × Nat) (h : w.heap[b]? = some (.cells cs e fz)) : (w.setCell ⟨b, o, none⟩ u).heap[b]? = some (.cells (cs.setIfInBounds o u) e fz) := by
 simp [World.setCell, Array.getElem?_modify, h]
theorem FieldsAt.get {B : Nat} {w w' : World} {a : Option Addr} {len : Nat} {fs : List Fld} (h : FieldsAt B w a len fs) (hb : Below B w w') {k : Nat} (hk : k < len) :
  ∃ b off f, a = some ⟨b, off, none⟩ ∧ b < B ∧ fs[k]? = some f ∧ w'.cell? ⟨b, off + k * 3, none⟩ = some (.string f.name) ∧ w'.cell? ⟨b, off + k * 3 + 1, none⟩ = some (.int .i64 f.kind) ∧ w'.cell? ⟨b, off + k * 3 + 2, none⟩ = some (.int .i64 f.count) := by
 obtain ⟨h1, h2, h3⟩ := h.below hb
 rcases h3 with h3 | ⟨b, off, ha, hB, hc⟩
 ·omega
 ·have hl : k < fs.length := by omega
  exact ⟨b, off, fs[k], ha, hB, List.getElem?_eq_getElem hl, hc k _ (List.getElem?_eq_getElem hl)⟩
theorem lt_some {w : World} {b : Nat} {o : Obj} (h : w.heap[b]? = some o) : b < w.heap.size := (Array.getElem?_eq_some_iff.1 h).1
theorem keep {W w1 : World} {b : Nat} {o : Obj} (hb : Below W.heap.size W w1) (h : W.heap[b]? = some o) : w1.heap[b]? = some o := (hb.block b (lt_some h)).trans h
theorem keepA {W : World} {b : Nat} {o : Obj} (x : Obj) (h : W.heap[b]? = some o) : (W.alloc x).heap[b]? = some o := by rw [halloc, if_neg (by have := lt_some h; omega)]; exact h
theorem grownOf {W w1 : World} (hb : Below W.heap.size W w1) (row : Option Nat) : W.grownBy w1 row := ⟨hb.os, hb.tape, hb.output, hb.size, fun k hk _ => hb.block k hk⟩
theorem keepG {W w1 : World} {b : Nat} {o : Obj} {row : Option Nat} (hg : W.grownBy w1 row) (h : W.heap[b]? = some o) (hn : some b ≠ row) : w1.heap[b]? = some o := (hg.block b (lt_some h) hn).trans h
theorem cell_at {w : World} {b : Nat} {cs : Array Value} {e : TypeId} {fz : Nat × Nat} (h : w.heap[b]? = some (.cells cs e fz)) (o : Nat) : w.cell? ⟨b, o, none⟩ = cs[o]? := by simp [World.cell?, h]
theorem free_at {w : World} {b : Nat} {cs : Array Value} {e : TypeId} (h : w.heap[b]? = some (.cells cs e (0, 0))) (o : Nat) : w.frozen? ⟨b, o, none⟩ = false := by simp [World.frozen?, h]
theorem Tryz.info3 : (Tryz.prog.info? 3).map (fun i => (i.zero, i.size, i.bytes)) = some (some (.int .i64 0), 1, 8) := by kernel_rfl
theorem ownsRow_slice {w : World} {base : Nat} {e : TypeId} {size : Nat} {v : Value} {n : Nat} {xs : List Value} (h : w.ownsRow base e size v n xs) : ∃ a c, v = .slice a n c := by
 rcases h.2 with ⟨rfl, rfl⟩ | ⟨g, cap, cur, rfl, _⟩
 ·exact ⟨_, _, rfl⟩
 ·exact ⟨_, _, rfl⟩
theorem ownsRow_mono {w : World} {base base' : Nat} {e : TypeId} {size : Nat} {v : Value} {n : Nat} {xs : List Value} (h : w.ownsRow base e size v n xs) (hb : base' ≤ base) : w.ownsRow base' e size v n xs := by
 obtain ⟨h1, h2⟩ := h
 refine ⟨h1, ?_⟩
 rcases h2 with h2 | ⟨g, cap, cur, hv, hg, r⟩
 ·exact .inl h2
 ·exact .inr ⟨g, cap, cur, hv, Nat.le_trans hb hg, r⟩
def IsPlan (fs : List Fld) (len : Nat) (w : World) (e : Ending) (w' : World) : Prop :=
 ∃ va vc, e = .returned (.agg #[.int .i64 (planSize fs), .slice va len vc]) ∧ w'.ownsRow w.heap.size 3 1 (.slice va len vc) len ((planF fs).1.map (.int .i64)) ∧ Below w.heap.size w w'
set_option maxRecDepth 100000 in
set_option maxHeartbeats 1000000 in
theorem plan_any (fs : List Fld) (a : Option Addr) (len cap : Nat) (w : World) (hfs : FieldsAt w.heap.size w a len fs) (h8 : len ≤ 8) (hv : ∀ f ∈ fs, 1 ≤ kSize f.kind) :
  Calls Tryz.prog 120 #[.slice a len cap] w (IsPlan fs len w) := by
 obtain ⟨i0, hi, hz0, hz1, hz2⟩ := info_parts Tryz.info3
 have hmx : len ≤ maxLen := hfs.2.1
 go_enter Tryz.func120, Tryz.ntmps120
 go_wp2
 go_loopw [4, 5, 13] (fun e m i wr => ∃ (k : Nat) (va : Option Addr) (vc : Nat), k ≤ len ∧ i = .int .i64 k ∧ e = .int .i64 (planF (fs.take k)).2.1 ∧ m = .int .i64 (planF (fs.take k)).2.2 ∧
   wr.heap[w.heap.size]? = some (.cells #[.int .i64 0, .slice none 0 0] 217 (0, 0)) ∧ wr.heap[w.heap.size + 1]? = some (.cells #[.int .i64 0, .slice va k vc] 217 (0, 0)) ∧
   wr.ownsRow (w.heap.size + 2) 3 1 (.slice va k vc) k ((planF (fs.take k)).1.map (.int .i64)) ∧ Below w.heap.size w wr ∧ w.heap.size + 2 ≤ wr.heap.size)
  (fun _ _ i _ => len - (intOf i).toNat)
 case atStart =>
  refine ⟨0, none, 0, Nat.zero_le _, rfl, rfl, rfl, ?_, ?_, World.ownsRow_nil _ _ _ _, ?_, ?_⟩
  ·simp only [halloc, World.size_alloc]; simp
  ·simp only [halloc, World.size_alloc]; simp
  ·go_grown
  ·simp
 case round =>
  obtain ⟨k, va, vc, hk, rfl, rfl, rfl, hr, hp, hown, hbw, hsz⟩ := hrel
  by_cases hlt : k < len
  ·obtain ⟨b, off, f, rfl, hB, hf, c0, c1, c2⟩ := hfs.get hbw hlt
   have hsn := Lib.hid (planF_snoc (fs.take k) f)
   have htk := Lib.hid (take_snoc hf)
   have hm1 := planF_most (fs.take k)
   have hv1 := hv f (List.mem_of_getElem? hf)
   have hlen : Hid ((planF (fs.take k)).1.length = k) := Lib.hid (by rw [planF_len, List.length_take]; have := hfs.1; omega)
   generalize planF (fs.take k) = P at *
   obtain ⟨ats, e0, m0⟩ := P
   go_wp2_with fail
   refine (size_any _ _).mono ?_
   rintro e w1 ⟨rfl, hb1⟩
   have hp1 := keep hb1 (keepA _ hp)
   have hr1 := keep hb1 (keepA _ hr)
   have hf1 := keep hb1 (heap_alloc_new wr _)
   have g1 := cell_at hp1 1
   have g2 := free_at hp1 1
   have f2 := cell_at hf1 2
   simp at g1 f2
   have hz1' := hb1.size
   rw [World.size_alloc] at hz1'
   go_wp2_with fail
   refine (up_any _ _ _ (by omega)).mono ?_
   rintro e w' ⟨rfl, rfl⟩
   have hown1 := (((hown.alloc (Obj.cells #[Value.string f.name, Value.int IntKind.i64 f.kind, Value.int IntKind.i64 f.count] 79)).kept (grownOf hb1 none) (by cases (Value.slice va k vc).ownBlock <;> simp)).alloc (.cells #[.int .i64 (upF e0 (kSize f.kind))] 3))
   go_wp2_with (at_builtin; go_loud (refine wpList_append_own _ rfl (.tmp 24) (.tmp 26) 72 rfl (w.heap.size + 2) 3 i0 (.int .i64 0) 1 8 Tryz.underlying72 hi hz0 hz1 hz2 rfl (by decide) (.slice va k vc) k (ats.map (.int .i64)) rfl hown1 ⟨w1.heap.size, 0, none⟩ 1 1 [.int .i64 (upF e0 (kSize f.kind))] rfl rfl ?c1 ?c2 ?c3 ?c4 ?c5 ?_))
   case c1 =>
    intro j u hj
    match j, hj with
    | 0, hj => simp at hj; subst hj; simp [Addr.add]
   case c2 => intro u hu; simp at hu; subst hu; rfl
   case c3 => unfold maxLen; omega
   case c4 => omega
   case c5 => simp; omega
   intro v' w2 hown2 hg2 _
   obtain ⟨va', vc', hv'⟩ := ownsRow_slice hown2
   rw [hv'] at hown2 ⊢
   clear hv'
   have hrow : ∀ x, (Value.slice va k vc).ownBlock = some x → w.heap.size + 2 ≤ x ∧ x < wr.heap.size := hown.lt
   have hp2 := keepG hg2 (keepA _ hp1) (fun e => by have := hrow _ e.symm; omega)
   have hr2 := keepG hg2 (keepA _ hr1) (fun e => by have := hrow _ e.symm; omega)
   have hf2 := keepG hg2 (keepA _ hf1) (fun e => by have := hrow _ e.symm; omega)
   have d0 := cell_at hp2 1
   have d1 := free_at hp2 1
   have d2 := cell_at hf2 2
   simp at d0 d2
   have hbel : Below w.heap.size w w2 := ((((hbw.alloc (by omega) _).trans (hb1.mono (by simp; omega))).alloc (by omega) _).grown hg2 (by simp; omega) (fun x hx => by have := hrow x hx; omega))
   have hsz2 : wr.heap.size + 2 ≤ w2.heap.size := by have := hg2.size; simp at this; omega
   have hset := hset w2 (w.heap.size + 1) 1 (.slice va' (k + 1) vc') _ _ _ hp2
   have hset0 := (hset_ne w2 ⟨w.heap.size + 1, 1, none⟩ (.slice va' (k + 1) vc') w.heap.size (by simp)).trans hr2
   have HS := Lib.hid (And.intro hset hset0)
   have HO := Lib.hid hown2
   clear hp hr hp1 hr1 hf1 hp2 hr2 hf2 hset hset0 hown2 hown1 hrow hb1 hg2 g1 g2 f2
   go_wp2
   go_roundw
   case rel =>
    refine ⟨k + 1, va', vc', by omega, by go_num, ?_, ?_, HS.out.2, by simpa using HS.out.1, ?_, ?_, ?_⟩
    ·rw [htk.out, hsn.out]; simp only [planStep]
    ·rw [htk.out, hsn.out]; simp only [planStep]
     exact congrArg _ (by rw [Int.max_def]; split <;> split <;> omega)
    ·rw [htk.out, hsn.out]; simp only [planStep, List.map_append, List.map_cons, List.map_nil]
     exact ownsRow_setCell_below HO.out (by simp) _
    ·exact hbel.setCell (by simp) _
    ·simp [World.setCell]; omega
   case measure => simp [intOf]; omega
  ·obtain rfl : k = len := by omega
   have ht : fs.take k = fs := List.take_of_length_le (by have := hfs.1; omega)
   rw [ht] at hown ⊢
   clear ht
   have p0 := cell_at hp 0
   have p1 := cell_at hp 1
   have f0 := free_at hp 0
   have r0 := cell_at hr 0
   have r1 := cell_at hr 1
   have f1 := free_at hr 0
   have f2 := free_at hr 1
   simp at p0 p1 r0 r1
   go_wp2_with fail
   refine (up_any _ _ _ (planF_most _)).mono ?_
   rintro e w' ⟨rfl, rfl⟩
   go_wp2
   refine bodyPost_ret (by simp [results, Tryz.results120, go_sem, r0, r1]; try rfl) rfl ?_
   refine ⟨va, vc, rfl, ?_, ?_⟩
   ·exact ownsRow_mono (ownsRow_setCell_below (ownsRow_setCell_below (ownsRow_setCell_below hown (by simp) _) (by simp) _) (by simp) _) (by omega)
   ·exact ((hbw.setCell (by simp) _).setCell (by simp) _).setCell (by simp) _
end Go.Proofs.YtgebbmfoamkfnaaGreatDoor
namespace Go.Proofs.YtgebbmfoamkfnaaGreatDoor
open Go.RowKit
set_option linter.unusedVariables false
theorem below_drewN {B : Nat} {a w : World} (h : Below B a w) : ∀ n, Below B a (w.drewN n) := fun n => ⟨h.os, h.tape, h.output, h.size, h.block⟩
theorem row_block {w : World} {base : Nat} {e : TypeId} {s : Nat} {va : Option Addr} {n vc : Nat} {xs : List Value} (h : w.ownsRow base e s (.slice va n vc) n xs) (h0 : 0 < n) :
  ∃ q, va = some ⟨q, 0, none⟩ ∧ base ≤ q ∧ q < w.heap.size ∧ ∀ (k : Nat) (u : Value), xs[k]? = some u → w.cell? ⟨q, k, none⟩ = some u := by
 rcases h.2 with ⟨hv, h0'⟩ | ⟨q, cap', cur, hv, hg, hh, hc1, hc2, hc3, hc4⟩
 ·omega
 ·cases hv
  refine ⟨q, rfl, hg, lt_some hh, fun k u hk => ?_⟩
  rw [cell_at hh]
  rw [← hc4, List.getElem?_take] at hk
  split at hk
  ·simpa using hk
  ·cases hk
theorem ownsRow_ne3 {w : World} {b b' : Nat} {e e' : TypeId} {s s' : Nat} {v v' : Value} {n n' : Nat} {xs xs' : List Value} (h : w.ownsRow b e s v n xs) (h' : w.ownsRow b' e' s' v' n' xs') (hne : e ≠ e') : v.ownBlock = none ∨ v.ownBlock ≠ v'.ownBlock := by
 rcases h.2 with ⟨rfl, _⟩ | ⟨g, cap, cur, rfl, _, hg, _⟩
 ·exact .inl rfl
 ·refine .inr fun he => ?_
  rcases h'.2 with ⟨rfl, _⟩ | ⟨g', cap', cur', rfl, _, hg', _⟩
  ·cases he
  ·simp [Value.ownBlock] at he
   subst he
   rw [hg] at hg'
   cases hg'
   exact hne rfl
theorem ownsRow_ne_block3 {w : World} {b : Nat} {e : TypeId} {s : Nat} {v : Value} {n : Nat} {xs : List Value} (h : w.ownsRow b e s v n xs) {g : Nat} {o : Obj} (hg : w.heap[g]? = some o) (hne : ∀ cur, o ≠ .cells cur e (0, 0)) : some g ≠ v.ownBlock := by
 rcases h.2 with ⟨rfl, _⟩ | ⟨g', cap, cur, rfl, _, hg', _⟩
 ·simp [Value.ownBlock]
 ·intro he
  simp [Value.ownBlock] at he
  subst he
  rw [hg] at hg'
  cases hg'
  exact hne _ rfl
structure Only (b : Nat) (w w' : World) : Prop where
 os : w'.os = w.os
 tape : w'.tape = w.tape
 output : w'.output = w.output
 size : w'.heap.size = w.heap.size
 block : ∀ k, k ≠ b → w'.heap[k]? = w.heap[k]?
theorem Only.refl (b : Nat) (w : World) : Only b w w := ⟨rfl, rfl, rfl, rfl, fun _ _ => rfl⟩
theorem Only.trans {b : Nat} {x y z : World} (h : Only b x y) (k : Only b y z) : Only b x z :=
 ⟨k.os.trans h.os, k.tape.trans h.tape, k.output.trans h.output, k.size.trans h.size, fun i hi => (k.block i hi).trans (h.block i hi)⟩
theorem Only.setCell (w : World) (a : Addr) (u : Value) : Only a.block w (w.setCell a u) := ⟨rfl, rfl, rfl, by simp [World.setCell], fun k hk => hset_ne w a u k hk⟩
theorem Only.at (w : World) (b o : Nat) (u : Value) : Only b w (w.setCell ⟨b, o, none⟩ u) := Only.setCell w ⟨b, o, none⟩ u
theorem Only.drew {b : Nat} {x y : World} (h : Only b x y) : Only b x y.drew := ⟨h.os, h.tape, h.output, h.size, h.block⟩
theorem Only.below {b B : Nat} {w w' : World} (h : Only b w w') (hb : B ≤ b) : Below B w w' := ⟨h.os, h.tape, h.output, by rw [h.size]; exact Nat.le_refl _, fun k hk => h.block k (by omega)⟩
theorem keepO {b k : Nat} {w w' : World} {o : Obj} (h : Only b w w') (hk : w.heap[k]? = some o) (hne : k ≠ b) : w'.heap[k]? = some o := (h.block k hne).trans hk
end Go.Proofs.YtgebbmfoamkfnaaGreatDoor
namespace Go.Proofs.YtgebbmfoamkfnaaGreatDoor
open Go.RowKit
set_option linter.unusedVariables false
theorem FieldsAt.mono {B B' : Nat} {w : World} {a : Option Addr} {len : Nat} {fs : List Fld} (h : FieldsAt B w a len fs) (hb : B ≤ B') : FieldsAt B' w a len fs := by
 obtain ⟨h1, h2, h3⟩ := h
 refine ⟨h1, h2, ?_⟩
 rcases h3 with h3 | ⟨b, off, ha, hB, hc⟩
 ·exact .inl h3
 ·exact .inr ⟨b, off, ha, by omega, hc⟩
def fldOk (f : Fld) : Bool := decide (1 ≤ kSize f.kind) && decide (1 ≤ f.count) && decide (f.count ≤ 8)
def layCheck (fs : List Fld) : Int :=
 if 8 < fs.length then 1 else if fs.all fldOk then (if 256 < planSize fs then 5 else 0) else 1
theorem layCheck_long {fs : List Fld} (h : 8 < fs.length) : layCheck fs = 1 := by simp [layCheck, h]
theorem layCheck_bad {fs : List Fld} {f : Fld} {k : Nat} (hf : fs[k]? = some f) (h : fldOk f = false) : layCheck fs = 1 := by
 unfold layCheck
 split
 ·rfl
 ·rw [if_neg]
  intro ha
  rw [List.all_eq_true] at ha
  have := ha f (List.mem_of_getElem? hf)
  rw [h] at this; cases this
theorem layCheck_ok {fs : List Fld} (h : fs.length ≤ 8) (ha : fs.all fldOk = true) : layCheck fs = if 256 < planSize fs then 5 else 0 := by
 unfold layCheck; rw [if_neg (by omega), if_pos ha]
theorem fldOk_size {fs : List Fld} (h : fs.all fldOk = true) : ∀ f ∈ fs, 1 ≤ kSize f.kind := by
 intro f hf
 have := List.all_eq_true.1 h f hf
 simp [fldOk] at this
 omega
theorem fld84_0 (k : Int) (va : Option Addr) (n c : Nat) (w : World) : Sem.run Tryz.prog (Instr.field 217 (.agg #[.int .i64 k, .slice va n c]) 0) w = .ok (.int .i64 k) w := by kernel_rfl
set_option maxRecDepth 100000 in
set_option maxHeartbeats 1000000 in
theorem layCheck_any (fs : List Fld) (a : Option Addr) (len cap : Nat) (w : World) (hfs : FieldsAt w.heap.size w a len fs) :
  Calls Tryz.prog 106 #[.slice a len cap] w fun e w' => e = .returned (.int .i64 (layCheck fs)) ∧ Below w.heap.size w w' := by
 have hmx : len ≤ maxLen := hfs.2.1
 unfold maxLen at hmx
 have hfl := fld84_0
 by_cases h8 : 8 < len
 ·have HL := Lib.hid (layCheck_long (fs := fs) (by rw [hfs.1]; exact h8))
  go_enter Tryz.func106, Tryz.ntmps106
  go_wp2
  go_ret
  exact ⟨ret_intk HL.out.symm, Below.refl _ _⟩
 ·go_enter Tryz.func106, Tryz.ntmps106
  go_wp2
  go_loopw [10] (fun i wr => ∃ (k : Nat), k ≤ len ∧ i = .int .i64 k ∧ (fs.take k).all fldOk = true ∧ Below w.heap.size w wr)
   (fun i _ => len - (intOf i).toNat)
  case atStart => exact ⟨0, Nat.zero_le _, rfl, rfl, Below.refl _ _⟩
  case round =>
   obtain ⟨k, hk, rfl, hall, hbw⟩ := hrel
   have HA := Lib.hid hall
   clear hall
   have hzr := hbw.size
   by_cases hlt : k < len
   ·obtain ⟨b, off, f, rfl, hB, hf, c0, c1, c2⟩ := hfs.get hbw hlt
    have htk := Lib.hid (take_snoc hf)
    have hks := kSize_bd f.kind
    go_wp2_with fail
    refine (size_any _ _).mono ?_
    rintro e w1 ⟨rfl, hb1⟩
    have hf1 := keep hb1 (heap_alloc_new wr _)
    have f2 := cell_at hf1 2
    simp at f2
    have hbel : Below w.heap.size w w1 := (hbw.alloc (by omega) _).trans (hb1.mono (by simp; omega))
    rcases (by omega : kSize f.kind = 0 ∨ (1 ≤ kSize f.kind ∧ f.count < 1) ∨ (1 ≤ kSize f.kind ∧ 1 ≤ f.count ∧ 8 < f.count) ∨ (1 ≤ kSize f.kind ∧ 1 ≤ f.count ∧ f.count ≤ 8)) with h | ⟨h, h'⟩ | ⟨h, h', h''⟩ | ⟨h, h', h''⟩
    ·have HB := Lib.hid (layCheck_bad hf (by simp [fldOk, h]))
     rw [h]
     clear h
     go_wp2
     go_returns
     exact ⟨ret_intk HB.out.symm, hbel⟩
    ·have HB := Lib.hid (layCheck_bad hf (by simp [fldOk, h]; omega))
     have e1 : (kSize f.kind == 0) = false := by simp; omega
     go_wp2
     go_returns
     exact ⟨ret_intk HB.out.symm, hbel⟩
    ·have HB := Lib.hid (layCheck_bad hf (by simp [fldOk, h]; omega))
     have e1 : (kSize f.kind == 0) = false := by simp; omega
     go_wp2
     go_returns
     exact ⟨ret_intk HB.out.symm, hbel⟩
    ·have HB := Lib.hid (show fldOk f = true by simp [fldOk]; omega)
     have e1 : (kSize f.kind == 0) = false := by simp; omega
     go_wp2
     go_roundw
     case rel =>
      refine ⟨k + 1, by omega, by go_num, ?_, hbel⟩
      rw [htk.out, List.all_append, HA.out]
      simp [HB.out]
     case measure => simp [intOf]; omega
   ·obtain rfl : k = len := by omega
    have ht : fs.take k = fs := List.take_of_length_le (by have := hfs.1; omega)
    have HA' : Hid (fs.all fldOk = true) := Lib.hid (by have := HA.out; rwa [ht] at this)
    have HL := Lib.hid (layCheck_ok (by have := hfs.1; omega) HA'.out)
    clear ht
    go_wp2_with fail
    refine (plan_any fs _ _ _ _ ((hfs.below hbw).mono hzr) (by omega) (fldOk_size HA'.out)).mono ?_
    rintro e w1 ⟨va, vc, rfl, hown, hb1⟩
    by_cases h : 256 < planSize fs
    ·go_wp2
     go_returns
     exact ⟨ret_intk (by rw [HL.out, if_pos h]), hbw.trans (hb1.mono (by omega))⟩
    ·go_wp2
     go_returns
     exact ⟨ret_intk (by rw [HL.out, if_neg (by omega)]), hbw.trans (hb1.mono (by omega))⟩
def layPlanOf (fs : List Fld) : Int := if layCheck fs = 0 then planSize fs else 0
def IsOf (fs : List Fld) (w : World) (e : Ending) (w' : World) : Prop :=
 ∃ va n vc, e = .returned (.tuple #[.agg #[.int .i64 (layPlanOf fs), .slice va n vc], .int .i64 (layCheck fs)]) ∧ Below w.heap.size w w' ∧
  (layCheck fs = 0 → w'.ownsRow w.heap.size 3 1 (.slice va n vc) n ((planF fs).1.map (.int .i64)) ∧ n = fs.length)
set_option maxRecDepth 100000 in
theorem layOf_any (fs : List Fld) (a : Option Addr) (len cap : Nat) (w : World) (hfs : FieldsAt w.heap.size w a len fs) :
  Calls Tryz.prog 152 #[.slice a len cap] w (IsOf fs w) := by
 have hsz := World.size_alloc w (.cells #[.int .i64 0, .slice none 0 0] 217)
 go_enter Tryz.func152, Tryz.ntmps152
 go_wp2_with fail
 refine (layCheck_any fs _ _ _ _ ((hfs.below (Below.alloc (Below.refl _ _) (Nat.le_refl _) _)).mono (by simp))).mono ?_
 rintro e w1 ⟨rfl, hb1⟩
 have hr1 := keep hb1 (heap_alloc_new w _)
 have r0 := cell_at hr1 0
 have r1 := cell_at hr1 1
 have f0 := free_at hr1 0
 have f1 := free_at hr1 1
 simp at r0 r1
 have hbel : Below w.heap.size w w1 := (Below.alloc (Below.refl _ _) (Nat.le_refl _) _).trans (hb1.mono (by simp))
 by_cases h : layCheck fs = 0
 ·have h8 : fs.length ≤ 8 ∧ fs.all fldOk = true := by
   unfold layCheck at h
   split at h
   ·cases h
   ·split at h
    ·exact ⟨by omega, by assumption⟩
    ·cases h
  have HP : Hid (layPlanOf fs = planSize fs) := Lib.hid (by simp [layPlanOf, h])
  have HC := Lib.hid h
  have e1 : (layCheck fs != 0) = false := by simp [h]
  clear h
  go_wp2_with fail
  refine (plan_any fs _ _ _ _ ((hfs.below hbel).mono hbel.size) (by have := hfs.1; omega) (fldOk_size h8.2)).mono ?_
  rintro e w2 ⟨va, vc, rfl, hown, hb2⟩
  have hr2 := keep hb2 hr1
  have s0 := cell_at hr2 0
  have s1 := cell_at hr2 1
  have t0 := free_at hr2 0
  have t1 := free_at hr2 1
  simp at s0 s1
  go_wp2
  refine bodyPost_ret (v := .tuple #[.agg #[.int .i64 (planSize fs), .slice va len vc], .int .i64 0]) (by simp [results, Tryz.results152, go_sem, s0, s1]) rfl ?_
  refine ⟨va, len, vc, by rw [HP.out, HC.out], ?_, fun _ => ⟨?_, hfs.1.symm⟩⟩
  ·exact ((hbel.trans (hb2.mono hbel.size)).setCell (by simp) _).setCell (by simp) _
  ·have := lt_some hr1
   exact ownsRow_mono (ownsRow_setCell_below (ownsRow_setCell_below hown (by simpa using this) _) (by simpa using this) _) (by omega)
 ·have HP : Hid (layPlanOf fs = 0) := Lib.hid (by simp [layPlanOf, h])
  have e1 : (layCheck fs != 0) = true := by simp [h]
  have HN := Lib.hid h
  clear h
  go_wp2
  refine bodyPost_ret (v := .tuple #[.agg #[.int .i64 0, .slice none 0 0], .int .i64 (layCheck fs)]) (by simp [results, Tryz.results152, go_sem, r0, r1]) rfl ?_
  refine ⟨none, 0, 0, by rw [HP.out], ?_, fun h => absurd h HN.out⟩
  exact (hbel.setCell (by simp) _).setCell (by simp) _
end Go.Proofs.YtgebbmfoamkfnaaGreatDoor
