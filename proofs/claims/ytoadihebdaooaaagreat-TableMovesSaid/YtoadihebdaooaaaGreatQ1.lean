/- Contracts of the small functions that compute with numbers and strings. · Contracts of the kinds' sizes. · Contracts of layout.plan, layout.Check, layout.Of. · General lemmas, for texts over A3: worlds that differ in one block, whole rows. · Contracts of layout.Check, layout.Of, column.New, schema.IsName. · Contracts of column.New, schema.IsName. · Maps told as functions: general lemmas, over any program. · Contract of schema.fields. · Contract of schema.Check. · A region that draws its order, each operation of which leaves what was there as it was (it reads, calls, makes memory): one fact an operation, in whatever order. -/
import Derived.Test.YtoadihebdaooaaaGreatRows
import Derived.WalkKit
import Derived.WalkSpells
import Derived.WalkLawsBesides
import Derived.Outline
import Derived.Handy
import Derived.Lib.Hide
import Derived.Laws.CopyOwn
import Derived.BigFrame
import Derived.Maps.OwnSet
import Derived.RegionTactic
import Derived.Orders
namespace Go.Proofs.YtoadihebdaooaaaGreat
open Go.RowKit
set_option linter.unusedVariables false

def idB (n : Int) : Bool := decide (1 ≤ n ∧ n ≤ 24)
def hasB (s n : Int) : Bool := idB n && (bits BinOp.and IntKind.u32 (s / 2 ^ n.toNat) 1 == 1)
def sWith (s n : Int) : Int := if idB n then bits BinOp.or IntKind.u32 s (2 ^ n.toNat % 4294967296) else s
def sWithout (s n : Int) : Int := if idB n then bits BinOp.andNot IntKind.u32 s (2 ^ n.toNat % 4294967296) else s
def sIs (s : Int) : Bool := bits BinOp.andNot IntKind.u32 s 33554430 == 0

theorem ret_bool {a b : Bool} (h : a = b) : Ending.returned (.bool a) = .returned (.bool b) := by rw [h]
theorem ret_intk {k : IntKind} {a b : Int} (h : a = b) : Ending.returned (.int k a) = .returned (.int k b) := by rw [h]

theorem idB_true {n : Int} (h1 : 1 ≤ n) (h2 : n ≤ 24) : idB n = true := by simp [idB, h1, h2]
theorem idB_false {n : Int} (h : ¬ (1 ≤ n ∧ n ≤ 24)) : idB n = false := by simp [idB]; omega

theorem isId_any (n : Int) (w : World) : Calls Tryz.prog 99 #[.int .i64 n] w fun e w' => e = .returned (.bool (idB n)) ∧ w = w' := by
  by_cases h1 : 1 ≤ n
  · by_cases h2 : n ≤ 24
    · go_enter Tryz.func99, Tryz.ntmps99
      go_wp2
      go_ret
      exact ⟨by simp [idB, h1, h2], rfl⟩
    · go_enter Tryz.func99, Tryz.ntmps99
      go_wp2
      go_ret
      exact ⟨by simp [idB, h2], rfl⟩
  · go_enter Tryz.func99, Tryz.ntmps99
    go_wp2
    go_ret
    exact ⟨by simp [idB]; omega, rfl⟩

theorem has_any (s n : Int) (w : World) (h0 : 0 ≤ s) (hs : s ≤ 4294967295) : Calls Tryz.prog 98 #[.int .u32 s, .int .i64 n] w fun e w' => e = .returned (.bool (hasB s n)) ∧ w = w' := by
  by_cases h : 1 ≤ n ∧ n ≤ 24
  · obtain ⟨h1, h2⟩ := h
    go_enter Tryz.func98, Tryz.ntmps98
    go_wp2
    go_ret
    exact ⟨by simp [hasB, idB_true h1 h2], rfl⟩
  · have hf := Lib.hid (idB_false h)
    by_cases h1 : 1 ≤ n
    all_goals
      go_enter Tryz.func98, Tryz.ntmps98
      go_wp2
      go_ret
      exact ⟨by simp [hasB, hf.out], rfl⟩

theorem without_any (s n : Int) (w : World) (h0 : 0 ≤ s) (hs : s ≤ 4294967295) : Calls Tryz.prog 61 #[.int .u32 s, .int .i64 n] w fun e w' => e = .returned (.int .u32 (sWithout s n)) ∧ w = w' := by
  by_cases h : 1 ≤ n ∧ n ≤ 24
  · obtain ⟨h1, h2⟩ := h
    go_enter Tryz.func61, Tryz.ntmps61
    go_wp2
    go_ret
    exact ⟨by simp [sWithout, idB_true h1 h2], rfl⟩
  · have hf := Lib.hid (idB_false h)
    rcases (by omega : n < 1 ∨ (1 ≤ n ∧ 24 < n)) with h1 | ⟨h1, h2⟩
    · clear h
      go_enter Tryz.func61, Tryz.ntmps61
      go_wp2
      go_ret
      exact ⟨by simp [sWithout, hf.out], rfl⟩
    · clear h
      have hd : decide (n ≤ 24) = false := by simp; omega
      go_enter Tryz.func61, Tryz.ntmps61
      go_wp2
      go_ret
      exact ⟨by simp [sWithout, hf.out], rfl⟩

theorem with_any (s n : Int) (w : World) (h0 : 0 ≤ s) (hs : s ≤ 4294967295) : Calls Tryz.prog 62 #[.int .u32 s, .int .i64 n] w fun e w' => e = .returned (.int .u32 (sWith s n)) ∧ w = w' := by
  by_cases h : 1 ≤ n ∧ n ≤ 24
  · obtain ⟨h1, h2⟩ := h
    go_enter Tryz.func62, Tryz.ntmps62
    go_wp2
    go_ret
    exact ⟨by simp [sWith, idB_true h1 h2], rfl⟩
  · have hf := Lib.hid (idB_false h)
    rcases (by omega : n < 1 ∨ (1 ≤ n ∧ 24 < n)) with h1 | ⟨h1, h2⟩
    · clear h
      go_enter Tryz.func62, Tryz.ntmps62
      go_wp2
      go_ret
      exact ⟨by simp [sWith, hf.out], rfl⟩
    · clear h
      have hd : decide (n ≤ 24) = false := by simp; omega
      go_enter Tryz.func62, Tryz.ntmps62
      go_wp2
      go_ret
      exact ⟨by simp [sWith, hf.out], rfl⟩

theorem sigIs_any (s : Int) (w : World) (h0 : 0 ≤ s) (hs : s ≤ 4294967295) : Calls Tryz.prog 74 #[.int .u32 s] w fun e w' => e = .returned (.bool (sIs s)) ∧ w = w' := by
  go_enter Tryz.func74, Tryz.ntmps74
  go_wp2
  go_ret
  exact ⟨rfl, rfl⟩

def letB (b : Int) : Bool := decide (97 ≤ b ∧ b ≤ 122)
theorem isLetter_any (b : Int) (w : World) (h0 : 0 ≤ b) (hs : b ≤ 255) : Calls Tryz.prog 129 #[.int .u8 b] w fun e w' => e = .returned (.bool (letB b)) ∧ w = w' := by
  by_cases h1 : 97 ≤ b
  · by_cases h2 : b ≤ 122
    all_goals
      go_enter Tryz.func129, Tryz.ntmps129
      go_wp2
      go_ret
      exact ⟨by simp [letB, h1, h2], rfl⟩
  · go_enter Tryz.func129, Tryz.ntmps129
    go_wp2
    go_ret
    exact ⟨by simp [letB]; omega, rfl⟩

def kindB (k : Int) : Bool := decide (1 ≤ k ∧ k ≤ 10)
theorem isKind_any (k : Int) (w : World) : Calls Tryz.prog 142 #[.int .i64 k] w fun e w' => e = .returned (.bool (kindB k)) ∧ w = w' := by
  by_cases h1 : 1 ≤ k
  · by_cases h2 : k ≤ 10
    all_goals
      go_enter Tryz.func142, Tryz.ntmps142
      go_wp2
      go_ret
      exact ⟨by simp [kindB, h1, h2], rfl⟩
  · go_enter Tryz.func142, Tryz.ntmps142
    go_wp2
    go_ret
    exact ⟨by simp [kindB]; omega, rfl⟩

end Go.Proofs.YtoadihebdaooaaaGreat
namespace Go.Proofs.YtoadihebdaooaaaGreat
open Go.RowKit
set_option linter.unusedVariables false

def shapesObj : Obj := Obj.cells
        #[Value.string { data := #[] }, Value.int IntKind.i64 0, Value.bool false,
          Value.string { data := #[98, 111, 111, 108] }, Value.int IntKind.i64 1, Value.bool false,
          Value.string { data := #[105, 56] }, Value.int IntKind.i64 1, Value.bool true,
          Value.string { data := #[105, 49, 54] }, Value.int IntKind.i64 2, Value.bool true,
          Value.string { data := #[105, 51, 50] }, Value.int IntKind.i64 4, Value.bool true,
          Value.string { data := #[105, 54, 52] }, Value.int IntKind.i64 8, Value.bool true,
          Value.string { data := #[117, 56] }, Value.int IntKind.i64 1, Value.bool false,
          Value.string { data := #[117, 49, 54] }, Value.int IntKind.i64 2, Value.bool false,
          Value.string { data := #[117, 51, 50] }, Value.int IntKind.i64 4, Value.bool false,
          Value.string { data := #[117, 54, 52] }, Value.int IntKind.i64 8, Value.bool false,
          Value.string { data := #[114, 101, 102] }, Value.int IntKind.i64 8, Value.bool false]
        241
set_option maxRecDepth 100000 in
theorem shapes_any (w : World) : Calls Tryz.prog 167 #[] w fun e w' => e = .returned (.slice (some ⟨w.heap.size, 0, none⟩) 11 11) ∧ w.alloc shapesObj = w' := by
  go_enter Tryz.func167, Tryz.ntmps167
  go_wp2
  go_ret
  exact ⟨rfl, rfl⟩

/-- The size of a kind's elements. -/
def kSize (k : Int) : Int := if k = 1 then 1 else if k = 2 then 1 else if k = 3 then 2 else if k = 4 then 4 else if k = 5 then 8 else if k = 6 then 1 else if k = 7 then 2 else if k = 8 then 4 else if k = 9 then 8 else if k = 10 then 8 else 0
theorem kSize_zero {k : Int} (h : ¬ (1 ≤ k ∧ k ≤ 10)) : kSize k = 0 := by unfold kSize; repeat (rw [if_neg (by omega)])
theorem kSize_bd (k : Int) : 0 ≤ kSize k ∧ kSize k ≤ 8 := by unfold kSize; repeat' split <;> omega
theorem kindB_true {k : Int} (h1 : 1 ≤ k) (h2 : k ≤ 10) : kindB k = true := by simp [kindB, h1, h2]
theorem kindB_false {k : Int} (h : ¬ (1 ≤ k ∧ k ≤ 10)) : kindB k = false := by simp [kindB]; omega
theorem shapes_cells (W : World) (k : Int) (h1 : 1 ≤ k) (h2 : k ≤ 10) : ∃ s b, (W.alloc shapesObj).cell? ⟨W.heap.size, k.toNat * 3, none⟩ = some (.string s) ∧
    (W.alloc shapesObj).cell? ⟨W.heap.size, k.toNat * 3 + 1, none⟩ = some (.int .i64 (kSize k)) ∧ (W.alloc shapesObj).cell? ⟨W.heap.size, k.toNat * 3 + 2, none⟩ = some (.bool b) := by
  have h' : k = 1 ∨ k = 2 ∨ k = 3 ∨ k = 4 ∨ k = 5 ∨ k = 6 ∨ k = 7 ∨ k = 8 ∨ k = 9 ∨ k = 10 := by omega
  have hh : (W.alloc shapesObj).heap[W.heap.size]? = some shapesObj := heap_alloc_new W _
  rcases h' with rfl | rfl | rfl | rfl | rfl | rfl | rfl | rfl | rfl | rfl
  all_goals
    apply Exists.intro
    apply Exists.intro
    refine ⟨?_, ?_, ?_⟩
    all_goals (unfold World.cell?; rw [hh]; rfl)

/-- The answer of 'of': a shape of this size. -/
def IsShape (k : Int) (w : World) (e : Ending) (w' : World) : Prop := ∃ s b, e = .returned (.agg #[.string s, .int .i64 (kSize k), .bool b]) ∧ Below w.heap.size w w'
theorem of_any (k : Int) (w : World) : Calls Tryz.prog 147 #[.int .i64 k] w (IsShape k w) := by
  by_cases h : 1 ≤ k ∧ k ≤ 10
  · obtain ⟨h1, h2⟩ := h
    obtain ⟨s, b, c0, c1, c2⟩ := shapes_cells (w.alloc (Obj.cells #[Value.string { data := #[] }, Value.int IntKind.i64 0, Value.bool false] 241)) k h1 h2
    rw [World.size_alloc] at c0 c1 c2
    have hk := kindB_true h1 h2
    go_enter Tryz.func147, Tryz.ntmps147
    go_wp2_with (first | (go_at_call 167; refine (shapes_any _).mono ?_; rintro e w' ⟨rfl, rfl⟩) | (go_at_call 142; refine (isKind_any _ _).mono ?_; rintro e w' ⟨rfl, rfl⟩))
    go_returns
    exact ⟨s, b, rfl, by go_grown⟩
  · have hk := kindB_false h
    have hz := Lib.hid (kSize_zero h)
    go_enter Tryz.func147, Tryz.ntmps147
    go_wp2_with (first | (go_at_call 167; refine (shapes_any _).mono ?_; rintro e w' ⟨rfl, rfl⟩) | (go_at_call 142; refine (isKind_any _ _).mono ?_; rintro e w' ⟨rfl, rfl⟩))
    go_returns
    exact ⟨_, _, by rw [hz.out], by go_grown⟩
end Go.Proofs.YtoadihebdaooaaaGreat
namespace Go.Proofs.YtoadihebdaooaaaGreat
open Go.RowKit
set_option linter.unusedVariables false
theorem fld102_1 (s : ByteArray) (k : Int) (b : Bool) (w : World) : Sem.run Tryz.prog (Instr.field 241 (.agg #[.string s, .int .i64 k, .bool b]) 1) w = .ok (.int .i64 k) w := by kernel_rfl
set_option maxRecDepth 100000 in
theorem size_any (k : Int) (w : World) : Calls Tryz.prog 123 #[.int .i64 k] w fun e w' => e = .returned (.int .i64 (kSize k)) ∧ Below w.heap.size w w' := by
  have hf := fld102_1
  go_enter Tryz.func123, Tryz.ntmps123
  go_wp2_with (go_at_call 147; refine (of_any _ _).mono ?_; rintro e w' ⟨s, b, rfl, hb⟩)
  go_ret
  exact ⟨rfl, by assumption⟩
def upF (a s : Int) : Int := wrap64 (wrap64 ((wrap64 (wrap64 (a + s) - 1)).tdiv s) * s)
theorem up_any (a s : Int) (w : World) (h : 1 ≤ s) : Calls Tryz.prog 137 #[.int .i64 a, .int .i64 s] w fun e w' => e = .returned (.int .i64 (upF a s)) ∧ w = w' := by
  go_enter Tryz.func137, Tryz.ntmps137
  go_wp2
  go_ret
  exact ⟨rfl, rfl⟩

structure Fld where
  name : ByteArray
  kind : Int
  count : Int

/-- A slice of fields that lies below block B. -/
def FieldsAt (B : Nat) (w : World) (a : Option Addr) (len : Nat) (fs : List Fld) : Prop :=
  fs.length = len ∧ len ≤ maxLen ∧ (len = 0 ∨ ∃ b off, a = some ⟨b, off, none⟩ ∧ b < B ∧ ∀ (i : Nat) (f : Fld), fs[i]? = some f →
    w.cell? ⟨b, off + i * 3, none⟩ = some (.string f.name) ∧ w.cell? ⟨b, off + i * 3 + 1, none⟩ = some (.int .i64 f.kind) ∧ w.cell? ⟨b, off + i * 3 + 2, none⟩ = some (.int .i64 f.count))

theorem FieldsAt.below {B : Nat} {w w' : World} {a : Option Addr} {len : Nat} {fs : List Fld} (h : FieldsAt B w a len fs) (hb : Below B w w') : FieldsAt B w' a len fs := by
  obtain ⟨h1, h2, h3⟩ := h
  refine ⟨h1, h2, ?_⟩
  rcases h3 with h3 | ⟨b, off, ha, hB, hc⟩
  · exact .inl h3
  · refine .inr ⟨b, off, ha, hB, fun i f hf => ?_⟩
    obtain ⟨c0, c1, c2⟩ := hc i f hf
    exact ⟨(hb.cell (p := ⟨b, off + i * 3, none⟩) hB).trans c0, (hb.cell (p := ⟨b, off + i * 3 + 1, none⟩) hB).trans c1, (hb.cell (p := ⟨b, off + i * 3 + 2, none⟩) hB).trans c2⟩

def planStep (p : List Int × Int × Int) (f : Fld) : List Int × Int × Int :=
  (p.1 ++ [upF p.2.1 (kSize f.kind)], wrap64 (upF p.2.1 (kSize f.kind) + wrap64 (kSize f.kind * f.count)), max p.2.2 (kSize f.kind))
def planF (fs : List Fld) : List Int × Int × Int := fs.foldl planStep ([], 0, 1)
def planSize (fs : List Fld) : Int := upF (planF fs).2.1 (planF fs).2.2
theorem planF_snoc (fs : List Fld) (f : Fld) : planF (fs ++ [f]) = planStep (planF fs) f := by simp [planF]
theorem foldl_len (fs : List Fld) : ∀ p : List Int × Int × Int, (fs.foldl planStep p).1.length = p.1.length + fs.length := by
  induction fs with
  | nil => intro p; simp
  | cons f r ih => intro p; rw [List.foldl_cons, ih]; simp [planStep]; omega
theorem planF_len (fs : List Fld) : (planF fs).1.length = fs.length := by simp [planF, foldl_len]
theorem foldl_most (fs : List Fld) : ∀ p : List Int × Int × Int, 1 ≤ p.2.2 → 1 ≤ (fs.foldl planStep p).2.2 := by
  induction fs with
  | nil => intro p h; simpa using h
  | cons f r ih => intro p h; rw [List.foldl_cons]; exact ih _ (by simp only [planStep]; omega)
theorem planF_most (fs : List Fld) : 1 ≤ (planF fs).2.2 := foldl_most fs _ (by simp)
theorem take_snoc {α : Type} {l : List α} {k : Nat} {x : α} (h : l[k]? = some x) : l.take (k + 1) = l.take k ++ [x] := by
  rw [List.take_add_one, h]; rfl

theorem bcell {W w1 : World} (hb : Below W.heap.size W w1) : (∀ b o, b < W.heap.size → w1.cell? ⟨b, o, none⟩ = W.cell? ⟨b, o, none⟩) ∧ (∀ b o, b < W.heap.size → w1.frozen? ⟨b, o, none⟩ = W.frozen? ⟨b, o, none⟩) :=
  ⟨fun b o h => hb.cell (p := ⟨b, o, none⟩) h, fun b o h => hb.frozen (p := ⟨b, o, none⟩) h⟩
theorem halloc (w : World) (o : Obj) (k : Nat) : (w.alloc o).heap[k]? = if k = w.heap.size then some o else w.heap[k]? := by
  show (w.heap.push o)[k]? = _
  rw [Array.getElem?_push]
theorem hset_ne (w : World) (a : Addr) (u : Value) (k : Nat) (h : k ≠ a.block) : (w.setCell a u).heap[k]? = w.heap[k]? := Below.heap_setCell w a u k h
theorem hset (w : World) (b o : Nat) (u : Value) (cs : Array Value) (e : TypeId) (fz : Nat × Nat) (h : w.heap[b]? = some (.cells cs e fz)) : (w.setCell ⟨b, o, none⟩ u).heap[b]? = some (.cells (cs.setIfInBounds o u) e fz) := by
  simp [World.setCell, Array.getElem?_modify, h]
theorem FieldsAt.get {B : Nat} {w w' : World} {a : Option Addr} {len : Nat} {fs : List Fld} (h : FieldsAt B w a len fs) (hb : Below B w w') {k : Nat} (hk : k < len) :
    ∃ b off f, a = some ⟨b, off, none⟩ ∧ b < B ∧ fs[k]? = some f ∧ w'.cell? ⟨b, off + k * 3, none⟩ = some (.string f.name) ∧ w'.cell? ⟨b, off + k * 3 + 1, none⟩ = some (.int .i64 f.kind) ∧ w'.cell? ⟨b, off + k * 3 + 2, none⟩ = some (.int .i64 f.count) := by
  obtain ⟨h1, h2, h3⟩ := h.below hb
  rcases h3 with h3 | ⟨b, off, ha, hB, hc⟩
  · omega
  · have hl : k < fs.length := by omega
    exact ⟨b, off, fs[k], ha, hB, List.getElem?_eq_getElem hl, hc k _ (List.getElem?_eq_getElem hl)⟩
theorem lt_some {w : World} {b : Nat} {o : Obj} (h : w.heap[b]? = some o) : b < w.heap.size := (Array.getElem?_eq_some_iff.1 h).1
/-- A block that was there stays. -/
theorem keep {W w1 : World} {b : Nat} {o : Obj} (hb : Below W.heap.size W w1) (h : W.heap[b]? = some o) : w1.heap[b]? = some o := (hb.block b (lt_some h)).trans h
theorem keepA {W : World} {b : Nat} {o : Obj} (x : Obj) (h : W.heap[b]? = some o) : (W.alloc x).heap[b]? = some o := by rw [halloc, if_neg (by have := lt_some h; omega)]; exact h
theorem grownOf {W w1 : World} (hb : Below W.heap.size W w1) (row : Option Nat) : W.grownBy w1 row := ⟨hb.os, hb.tape, hb.output, hb.size, fun k hk _ => hb.block k hk⟩
theorem keepG {W w1 : World} {b : Nat} {o : Obj} {row : Option Nat} (hg : W.grownBy w1 row) (h : W.heap[b]? = some o) (hn : some b ≠ row) : w1.heap[b]? = some o := (hg.block b (lt_some h) hn).trans h
/-- The cells of a block that is known whole. -/
theorem cell_at {w : World} {b : Nat} {cs : Array Value} {e : TypeId} {fz : Nat × Nat} (h : w.heap[b]? = some (.cells cs e fz)) (o : Nat) : w.cell? ⟨b, o, none⟩ = cs[o]? := by simp [World.cell?, h]
theorem free_at {w : World} {b : Nat} {cs : Array Value} {e : TypeId} (h : w.heap[b]? = some (.cells cs e (0, 0))) (o : Nat) : w.frozen? ⟨b, o, none⟩ = false := by simp [World.frozen?, h]
theorem Tryz.info3 : (Tryz.prog.info? 3).map (fun i => (i.zero, i.size, i.bytes)) = some (some (.int .i64 0), 1, 8) := by kernel_rfl

theorem ownsRow_slice {w : World} {base : Nat} {e : TypeId} {size : Nat} {v : Value} {n : Nat} {xs : List Value} (h : w.ownsRow base e size v n xs) : ∃ a c, v = .slice a n c := by
  rcases h.2 with ⟨rfl, rfl⟩ | ⟨g, cap, cur, rfl, _⟩
  · exact ⟨_, _, rfl⟩
  · exact ⟨_, _, rfl⟩

theorem ownsRow_mono {w : World} {base base' : Nat} {e : TypeId} {size : Nat} {v : Value} {n : Nat} {xs : List Value} (h : w.ownsRow base e size v n xs) (hb : base' ≤ base) : w.ownsRow base' e size v n xs := by
  obtain ⟨h1, h2⟩ := h
  refine ⟨h1, ?_⟩
  rcases h2 with h2 | ⟨g, cap, cur, hv, hg, r⟩
  · exact .inl h2
  · exact .inr ⟨g, cap, cur, hv, Nat.le_trans hb hg, r⟩
/-- The answer of 'plan'. -/
def IsPlan (fs : List Fld) (len : Nat) (w : World) (e : Ending) (w' : World) : Prop :=
  ∃ va vc, e = .returned (.agg #[.int .i64 (planSize fs), .slice va len vc]) ∧ w'.ownsRow w.heap.size 3 1 (.slice va len vc) len ((planF fs).1.map (.int .i64)) ∧ Below w.heap.size w w'
set_option maxRecDepth 100000 in
set_option maxHeartbeats 1000000 in
theorem plan_any (fs : List Fld) (a : Option Addr) (len cap : Nat) (w : World) (hfs : FieldsAt w.heap.size w a len fs) (h8 : len ≤ 8) (hv : ∀ f ∈ fs, 1 ≤ kSize f.kind) :
    Calls Tryz.prog 104 #[.slice a len cap] w (IsPlan fs len w) := by
  obtain ⟨i0, hi, hz0, hz1, hz2⟩ := info_parts Tryz.info3
  have hmx : len ≤ maxLen := hfs.2.1
  go_enter Tryz.func104, Tryz.ntmps104
  go_wp2
  go_loopw [4, 5, 13] (fun e m i wr => ∃ (k : Nat) (va : Option Addr) (vc : Nat), k ≤ len ∧ i = .int .i64 k ∧ e = .int .i64 (planF (fs.take k)).2.1 ∧ m = .int .i64 (planF (fs.take k)).2.2 ∧
      wr.heap[w.heap.size]? = some (.cells #[.int .i64 0, .slice none 0 0] 154 (0, 0)) ∧ wr.heap[w.heap.size + 1]? = some (.cells #[.int .i64 0, .slice va k vc] 154 (0, 0)) ∧
      wr.ownsRow (w.heap.size + 2) 3 1 (.slice va k vc) k ((planF (fs.take k)).1.map (.int .i64)) ∧ Below w.heap.size w wr ∧ w.heap.size + 2 ≤ wr.heap.size)
    (fun _ _ i _ => len - (intOf i).toNat)
  case atStart =>
    refine ⟨0, none, 0, Nat.zero_le _, rfl, rfl, rfl, ?_, ?_, World.ownsRow_nil _ _ _ _, ?_, ?_⟩
    · simp only [halloc, World.size_alloc]; simp
    · simp only [halloc, World.size_alloc]; simp
    · go_grown
    · simp
  case round =>
    obtain ⟨k, va, vc, hk, rfl, rfl, rfl, hr, hp, hown, hbw, hsz⟩ := hrel
    by_cases hlt : k < len
    · obtain ⟨b, off, f, rfl, hB, hf, c0, c1, c2⟩ := hfs.get hbw hlt
      have hsn := Lib.hid (planF_snoc (fs.take k) f)
      have htk := Lib.hid (take_snoc hf)
      have hm1 := planF_most (fs.take k)
      have hv1 := hv f (List.mem_of_getElem? hf)
      have hlen : Hid ((planF (fs.take k)).1.length = k) := Lib.hid (by rw [planF_len, List.length_take]; have := hfs.1; omega)
      generalize planF (fs.take k) = P at *
      obtain ⟨ats, e0, m0⟩ := P
      go_wp2_with fail
      refine (size_any _ _).mono ?_
      rintro e w1 ⟨rfl, hb1⟩
      have hp1 := keep hb1 (keepA _ hp)
      have hr1 := keep hb1 (keepA _ hr)
      have hf1 := keep hb1 (heap_alloc_new wr _)
      have g1 := cell_at hp1 1
      have g2 := free_at hp1 1
      have f2 := cell_at hf1 2
      simp at g1 f2
      have hz1' := hb1.size
      rw [World.size_alloc] at hz1'
      go_wp2_with fail
      refine (up_any _ _ _ (by omega)).mono ?_
      rintro e w' ⟨rfl, rfl⟩
      have hown1 := (((hown.alloc (Obj.cells #[Value.string f.name, Value.int IntKind.i64 f.kind, Value.int IntKind.i64 f.count] 123)).kept (grownOf hb1 none) (by cases (Value.slice va k vc).ownBlock <;> simp)).alloc (.cells #[.int .i64 (upF e0 (kSize f.kind))] 3))
      go_wp2_with (at_builtin; go_loud (refine wpList_append_own _ rfl (.tmp 24) (.tmp 26) 95 rfl (w.heap.size + 2) 3 i0 (.int .i64 0) 1 8 Tryz.underlying95 hi hz0 hz1 hz2 rfl (by decide) (.slice va k vc) k (ats.map (.int .i64)) rfl hown1 ⟨w1.heap.size, 0, none⟩ 1 1 [.int .i64 (upF e0 (kSize f.kind))] rfl rfl ?c1 ?c2 ?c3 ?c4 ?c5 ?_))
      case c1 =>
        intro j u hj
        match j, hj with
        | 0, hj => simp at hj; subst hj; simp [Addr.add]
      case c2 => intro u hu; simp at hu; subst hu; rfl
      case c3 => unfold maxLen; omega
      case c4 => omega
      case c5 => simp; omega
      intro v' w2 hown2 hg2 _
      obtain ⟨va', vc', hv'⟩ := ownsRow_slice hown2
      rw [hv'] at hown2 ⊢
      clear hv'
      have hrow : ∀ x, (Value.slice va k vc).ownBlock = some x → w.heap.size + 2 ≤ x ∧ x < wr.heap.size := hown.lt
      have hp2 := keepG hg2 (keepA _ hp1) (fun e => by have := hrow _ e.symm; omega)
      have hr2 := keepG hg2 (keepA _ hr1) (fun e => by have := hrow _ e.symm; omega)
      have hf2 := keepG hg2 (keepA _ hf1) (fun e => by have := hrow _ e.symm; omega)
      have d0 := cell_at hp2 1
      have d1 := free_at hp2 1
      have d2 := cell_at hf2 2
      simp at d0 d2
      have hbel : Below w.heap.size w w2 := ((((hbw.alloc (by omega) _).trans (hb1.mono (by simp; omega))).alloc (by omega) _).grown hg2 (by simp; omega) (fun x hx => by have := hrow x hx; omega))
      have hsz2 : wr.heap.size + 2 ≤ w2.heap.size := by have := hg2.size; simp at this; omega
      have hset := hset w2 (w.heap.size + 1) 1 (.slice va' (k + 1) vc') _ _ _ hp2
      have hset0 := (hset_ne w2 ⟨w.heap.size + 1, 1, none⟩ (.slice va' (k + 1) vc') w.heap.size (by simp)).trans hr2
      have HS := Lib.hid (And.intro hset hset0)
      have HO := Lib.hid hown2
      clear hp hr hp1 hr1 hf1 hp2 hr2 hf2 hset hset0 hown2 hown1 hrow hb1 hg2 g1 g2 f2
      go_wp2
      go_roundw
      case rel =>
        refine ⟨k + 1, va', vc', by omega, by go_num, ?_, ?_, HS.out.2, by simpa using HS.out.1, ?_, ?_, ?_⟩
        · rw [htk.out, hsn.out]; simp only [planStep]
        · rw [htk.out, hsn.out]; simp only [planStep]
          exact congrArg _ (by rw [Int.max_def]; split <;> split <;> omega)
        · rw [htk.out, hsn.out]; simp only [planStep, List.map_append, List.map_cons, List.map_nil]
          exact ownsRow_setCell_below HO.out (by simp) _
        · exact hbel.setCell (by simp) _
        · simp [World.setCell]; omega
      case measure => simp [intOf]; omega
    · obtain rfl : k = len := by omega
      have ht : fs.take k = fs := List.take_of_length_le (by have := hfs.1; omega)
      rw [ht] at hown ⊢
      clear ht
      have p0 := cell_at hp 0
      have p1 := cell_at hp 1
      have f0 := free_at hp 0
      have r0 := cell_at hr 0
      have r1 := cell_at hr 1
      have f1 := free_at hr 0
      have f2 := free_at hr 1
      simp at p0 p1 r0 r1
      go_wp2_with fail
      refine (up_any _ _ _ (planF_most _)).mono ?_
      rintro e w' ⟨rfl, rfl⟩
      go_wp2
      refine bodyPost_ret (by simp [results, Tryz.results104, go_sem, r0, r1]; try rfl) rfl ?_
      refine ⟨va, vc, rfl, ?_, ?_⟩
      · exact ownsRow_mono (ownsRow_setCell_below (ownsRow_setCell_below (ownsRow_setCell_below hown (by simp) _) (by simp) _) (by simp) _) (by omega)
      · exact ((hbw.setCell (by simp) _).setCell (by simp) _).setCell (by simp) _
end Go.Proofs.YtoadihebdaooaaaGreat
namespace Go.Proofs.YtoadihebdaooaaaGreat
open Go.RowKit
set_option linter.unusedVariables false
theorem below_drewN {B : Nat} {a w : World} (h : Below B a w) : ∀ n, Below B a (w.drewN n) := fun n => ⟨h.os, h.tape, h.output, h.size, h.block⟩
theorem undrewN {B : Nat} {a w : World} {n : Nat} (h : Below B (a.drewN n) w) : Below B a w := ⟨h.os, h.tape, h.output, h.size, h.block⟩
theorem row_block {w : World} {base : Nat} {e : TypeId} {s : Nat} {va : Option Addr} {n vc : Nat} {xs : List Value} (h : w.ownsRow base e s (.slice va n vc) n xs) (h0 : 0 < n) :
    ∃ q, va = some ⟨q, 0, none⟩ ∧ base ≤ q ∧ q < w.heap.size ∧ ∀ (k : Nat) (u : Value), xs[k]? = some u → w.cell? ⟨q, k, none⟩ = some u := by
  rcases h.2 with ⟨hv, h0'⟩ | ⟨q, cap', cur, hv, hg, hh, hc1, hc2, hc3, hc4⟩
  · omega
  · cases hv
    refine ⟨q, rfl, hg, lt_some hh, fun k u hk => ?_⟩
    rw [cell_at hh]
    rw [← hc4, List.getElem?_take] at hk
    split at hk
    · simpa using hk
    · cases hk
theorem ownsRow_ne3 {w : World} {b b' : Nat} {e e' : TypeId} {s s' : Nat} {v v' : Value} {n n' : Nat} {xs xs' : List Value} (h : w.ownsRow b e s v n xs) (h' : w.ownsRow b' e' s' v' n' xs') (hne : e ≠ e') : v.ownBlock = none ∨ v.ownBlock ≠ v'.ownBlock := by
  rcases h.2 with ⟨rfl, _⟩ | ⟨g, cap, cur, rfl, _, hg, _⟩
  · exact .inl rfl
  · refine .inr fun he => ?_
    rcases h'.2 with ⟨rfl, _⟩ | ⟨g', cap', cur', rfl, _, hg', _⟩
    · cases he
    · simp [Value.ownBlock] at he
      subst he
      rw [hg] at hg'
      cases hg'
      exact hne rfl
theorem ownsRow_ne_block3 {w : World} {b : Nat} {e : TypeId} {s : Nat} {v : Value} {n : Nat} {xs : List Value} (h : w.ownsRow b e s v n xs) {g : Nat} {o : Obj} (hg : w.heap[g]? = some o) (hne : ∀ cur, o ≠ .cells cur e (0, 0)) : some g ≠ v.ownBlock := by
  rcases h.2 with ⟨rfl, _⟩ | ⟨g', cap, cur, rfl, _, hg', _⟩
  · simp [Value.ownBlock]
  · intro he
    simp [Value.ownBlock] at he
    subst he
    rw [hg] at hg'
    cases hg'
    exact hne _ rfl
/-- The world is as it was but for one block. -/
structure Only (b : Nat) (w w' : World) : Prop where
  os : w'.os = w.os
  tape : w'.tape = w.tape
  output : w'.output = w.output
  size : w'.heap.size = w.heap.size
  block : ∀ k, k ≠ b → w'.heap[k]? = w.heap[k]?
theorem Only.refl (b : Nat) (w : World) : Only b w w := ⟨rfl, rfl, rfl, rfl, fun _ _ => rfl⟩
theorem Only.trans {b : Nat} {x y z : World} (h : Only b x y) (k : Only b y z) : Only b x z :=
  ⟨k.os.trans h.os, k.tape.trans h.tape, k.output.trans h.output, k.size.trans h.size, fun i hi => (k.block i hi).trans (h.block i hi)⟩
theorem Only.setCell (w : World) (a : Addr) (u : Value) : Only a.block w (w.setCell a u) := ⟨rfl, rfl, rfl, by simp [World.setCell], fun k hk => hset_ne w a u k hk⟩
theorem Only.at (w : World) (b o : Nat) (u : Value) : Only b w (w.setCell ⟨b, o, none⟩ u) := Only.setCell w ⟨b, o, none⟩ u
theorem Only.drew {b : Nat} {x y : World} (h : Only b x y) : Only b x y.drew := ⟨h.os, h.tape, h.output, h.size, h.block⟩
theorem Only.below {b B : Nat} {w w' : World} (h : Only b w w') (hb : B ≤ b) : Below B w w' := ⟨h.os, h.tape, h.output, by rw [h.size]; exact Nat.le_refl _, fun k hk => h.block k (by omega)⟩
theorem keepO {b k : Nat} {w w' : World} {o : Obj} (h : Only b w w') (hk : w.heap[k]? = some o) (hne : k ≠ b) : w'.heap[k]? = some o := (h.block k hne).trans hk
section
variable {P : Program}
theorem step_of_wp {ops : Array Oper} {o : Oper} {a : Act} {w : World} {K : Act → World → Prop} {Q : Exit → Act → World → Prop} {E : Prop} (hgd : o.guard = none) (h : Oper.wp P o a w K Q) :
    if Region.wanted o (yielded ops a.tmps) = true then Oper.wp P o a w K Q else E := by
  have hw : Region.wanted o (yielded ops a.tmps) = true := by simp [Region.wanted, hgd]
  rw [if_pos hw]; exact h
theorem run_storeCells_row {w : World} {g : Nat} {t : TypeId} {old cells : Array Value} (hg : w.heap[g]? = some (.cells old t (0, 0))) (ho : old.size = cells.size) (h1 : cells.all (·.oneCell') = true) :
    (storeCells ⟨g, 0, none⟩ cells.toList).run P w = .ok () (w.setRow g cells) := by
  have := run_storeCells_from (P := P) g t cells.toList 0 old w hg (by simp; omega) (fun v hv => (Array.all_eq_true_iff_forall_mem.1 h1) v (by simpa using hv))
  simpa using this
theorem step_store_row {ops : Array Oper} {o : Oper} {a : Act} {w : World} {K : Act → World → Prop} {Q : Exit → Act → World → Prop} {E : Prop} (hgd : o.guard = none) (ty : TypeId) (x y : Operand) (ho : o.op = .store ty x y)
    (g : Nat) (cells : Array Value) (hx : a.eval x = .pointer (some ⟨g, 0, none⟩)) (hy : a.eval y = .agg cells)
    (t : TypeId) (old : Array Value) (hg : w.heap[g]? = some (.cells old t (0, 0))) (hi : (P.info? ty).map (·.size) = some cells.size)
    (hold : old.size = cells.size) (h1 : cells.all (·.oneCell') = true)
    (h : K (a.put o.dst undef) (w.setRow g cells)) : if Region.wanted o (yielded ops a.tmps) = true then Oper.wp P o a w K Q else E :=
  step_of_wp hgd (wp_store_row ty x y ho g cells hx hy t old hg hi hold h1 h)
theorem step_load_row {ops : Array Oper} {o : Oper} {a : Act} {w : World} {K : Act → World → Prop} {Q : Exit → Act → World → Prop} {E : Prop} (hgd : o.guard = none) (ty : TypeId) (x : Operand) (ho : o.op = .load ty x)
    (g : Nat) (hx : a.eval x = .pointer (some ⟨g, 0, none⟩)) (t : TypeId) (cs : Array Value) (fr : Nat × Nat) (d : TypeDesc) (hg : w.heap[g]? = some (.cells cs t fr))
    (hu : P.underlying ty = some d) (hd : (match d with | .struct _ | .array _ _ => true | _ => false) = true) (hi : (P.info? ty).map (·.size) = some cs.size)
    (h : K (a.put o.dst (.agg cs)) w) : if Region.wanted o (yielded ops a.tmps) = true then Oper.wp P o a w K Q else E :=
  step_of_wp hgd (wp_load_row ty x ho g hx t cs fr d hg hu hd hi h)
end
end Go.Proofs.YtoadihebdaooaaaGreat
namespace Go.Proofs.YtoadihebdaooaaaGreat
open Go.RowKit
set_option linter.unusedVariables false

theorem FieldsAt.mono {B B' : Nat} {w : World} {a : Option Addr} {len : Nat} {fs : List Fld} (h : FieldsAt B w a len fs) (hb : B ≤ B') : FieldsAt B' w a len fs := by
  obtain ⟨h1, h2, h3⟩ := h
  refine ⟨h1, h2, ?_⟩
  rcases h3 with h3 | ⟨b, off, ha, hB, hc⟩
  · exact .inl h3
  · exact .inr ⟨b, off, ha, by omega, hc⟩
def fldOk (f : Fld) : Bool := decide (1 ≤ kSize f.kind) && decide (1 ≤ f.count) && decide (f.count ≤ 8)
def layCheck (fs : List Fld) : Int :=
  if 8 < fs.length then 1 else if fs.all fldOk then (if 256 < planSize fs then 5 else 0) else 1

theorem layCheck_long {fs : List Fld} (h : 8 < fs.length) : layCheck fs = 1 := by simp [layCheck, h]
theorem layCheck_bad {fs : List Fld} {f : Fld} {k : Nat} (hf : fs[k]? = some f) (h : fldOk f = false) : layCheck fs = 1 := by
  unfold layCheck
  split
  · rfl
  · rw [if_neg]
    intro ha
    rw [List.all_eq_true] at ha
    have := ha f (List.mem_of_getElem? hf)
    rw [h] at this; cases this
theorem layCheck_ok {fs : List Fld} (h : fs.length ≤ 8) (ha : fs.all fldOk = true) : layCheck fs = if 256 < planSize fs then 5 else 0 := by
  unfold layCheck; rw [if_neg (by omega), if_pos ha]
theorem fldOk_size {fs : List Fld} (h : fs.all fldOk = true) : ∀ f ∈ fs, 1 ≤ kSize f.kind := by
  intro f hf
  have := List.all_eq_true.1 h f hf
  simp [fldOk] at this
  omega
theorem fld84_0 (k : Int) (va : Option Addr) (n c : Nat) (w : World) : Sem.run Tryz.prog (Instr.field 154 (.agg #[.int .i64 k, .slice va n c]) 0) w = .ok (.int .i64 k) w := by kernel_rfl

set_option maxRecDepth 100000 in
set_option maxHeartbeats 1000000 in
theorem layCheck_any (fs : List Fld) (a : Option Addr) (len cap : Nat) (w : World) (hfs : FieldsAt w.heap.size w a len fs) :
    Calls Tryz.prog 119 #[.slice a len cap] w fun e w' => e = .returned (.int .i64 (layCheck fs)) ∧ Below w.heap.size w w' := by
  have hmx : len ≤ maxLen := hfs.2.1
  unfold maxLen at hmx
  have hfl := fld84_0
  by_cases h8 : 8 < len
  · have HL := Lib.hid (layCheck_long (fs := fs) (by rw [hfs.1]; exact h8))
    go_enter Tryz.func119, Tryz.ntmps119
    go_wp2
    go_ret
    exact ⟨ret_intk HL.out.symm, Below.refl _ _⟩
  · go_enter Tryz.func119, Tryz.ntmps119
    go_wp2
    go_loopw [10] (fun i wr => ∃ (k : Nat), k ≤ len ∧ i = .int .i64 k ∧ (fs.take k).all fldOk = true ∧ Below w.heap.size w wr)
      (fun i _ => len - (intOf i).toNat)
    case atStart => exact ⟨0, Nat.zero_le _, rfl, rfl, Below.refl _ _⟩
    case round =>
      obtain ⟨k, hk, rfl, hall, hbw⟩ := hrel
      have HA := Lib.hid hall
      clear hall
      have hzr := hbw.size
      by_cases hlt : k < len
      · obtain ⟨b, off, f, rfl, hB, hf, c0, c1, c2⟩ := hfs.get hbw hlt
        have htk := Lib.hid (take_snoc hf)
        have hks := kSize_bd f.kind
        go_wp2_with fail
        refine (size_any _ _).mono ?_
        rintro e w1 ⟨rfl, hb1⟩
        have hf1 := keep hb1 (heap_alloc_new wr _)
        have f2 := cell_at hf1 2
        simp at f2
        have hbel : Below w.heap.size w w1 := (hbw.alloc (by omega) _).trans (hb1.mono (by simp; omega))
        rcases (by omega : kSize f.kind = 0 ∨ (1 ≤ kSize f.kind ∧ f.count < 1) ∨ (1 ≤ kSize f.kind ∧ 1 ≤ f.count ∧ 8 < f.count) ∨ (1 ≤ kSize f.kind ∧ 1 ≤ f.count ∧ f.count ≤ 8)) with h | ⟨h, h'⟩ | ⟨h, h', h''⟩ | ⟨h, h', h''⟩
        · have HB := Lib.hid (layCheck_bad hf (by simp [fldOk, h]))
          rw [h]
          clear h
          go_wp2
          go_returns
          exact ⟨ret_intk HB.out.symm, hbel⟩
        · have HB := Lib.hid (layCheck_bad hf (by simp [fldOk, h]; omega))
          have e1 : (kSize f.kind == 0) = false := by simp; omega
          go_wp2
          go_returns
          exact ⟨ret_intk HB.out.symm, hbel⟩
        · have HB := Lib.hid (layCheck_bad hf (by simp [fldOk, h]; omega))
          have e1 : (kSize f.kind == 0) = false := by simp; omega
          go_wp2
          go_returns
          exact ⟨ret_intk HB.out.symm, hbel⟩
        · have HB := Lib.hid (show fldOk f = true by simp [fldOk]; omega)
          have e1 : (kSize f.kind == 0) = false := by simp; omega
          go_wp2
          go_roundw
          case rel =>
            refine ⟨k + 1, by omega, by go_num, ?_, hbel⟩
            rw [htk.out, List.all_append, HA.out]
            simp [HB.out]
          case measure => simp [intOf]; omega
      · obtain rfl : k = len := by omega
        have ht : fs.take k = fs := List.take_of_length_le (by have := hfs.1; omega)
        have HA' : Hid (fs.all fldOk = true) := Lib.hid (by have := HA.out; rwa [ht] at this)
        have HL := Lib.hid (layCheck_ok (by have := hfs.1; omega) HA'.out)
        clear ht
        go_wp2_with fail
        refine (plan_any fs _ _ _ _ ((hfs.below hbw).mono hzr) (by omega) (fldOk_size HA'.out)).mono ?_
        rintro e w1 ⟨va, vc, rfl, hown, hb1⟩
        by_cases h : 256 < planSize fs
        · go_wp2
          go_returns
          exact ⟨ret_intk (by rw [HL.out, if_pos h]), hbw.trans (hb1.mono (by omega))⟩
        · go_wp2
          go_returns
          exact ⟨ret_intk (by rw [HL.out, if_neg (by omega)]), hbw.trans (hb1.mono (by omega))⟩

def layPlanOf (fs : List Fld) : Int := if layCheck fs = 0 then planSize fs else 0
/-- The answer of 'Of': the size alone, and the error. -/
def IsOf (fs : List Fld) (w : World) (e : Ending) (w' : World) : Prop :=
  ∃ va n vc, e = .returned (.tuple #[.agg #[.int .i64 (layPlanOf fs), .slice va n vc], .int .i64 (layCheck fs)]) ∧ Below w.heap.size w w' ∧
    (layCheck fs = 0 → w'.ownsRow w.heap.size 3 1 (.slice va n vc) n ((planF fs).1.map (.int .i64)) ∧ n = fs.length)
set_option maxRecDepth 100000 in
theorem layOf_any (fs : List Fld) (a : Option Addr) (len cap : Nat) (w : World) (hfs : FieldsAt w.heap.size w a len fs) :
    Calls Tryz.prog 77 #[.slice a len cap] w (IsOf fs w) := by
  have hsz := World.size_alloc w (.cells #[.int .i64 0, .slice none 0 0] 154)
  go_enter Tryz.func77, Tryz.ntmps77
  go_wp2_with fail
  refine (layCheck_any fs _ _ _ _ ((hfs.below (Below.alloc (Below.refl _ _) (Nat.le_refl _) _)).mono (by simp))).mono ?_
  rintro e w1 ⟨rfl, hb1⟩
  have hr1 := keep hb1 (heap_alloc_new w _)
  have r0 := cell_at hr1 0
  have r1 := cell_at hr1 1
  have f0 := free_at hr1 0
  have f1 := free_at hr1 1
  simp at r0 r1
  have hbel : Below w.heap.size w w1 := (Below.alloc (Below.refl _ _) (Nat.le_refl _) _).trans (hb1.mono (by simp))
  by_cases h : layCheck fs = 0
  · have h8 : fs.length ≤ 8 ∧ fs.all fldOk = true := by
      unfold layCheck at h
      split at h
      · cases h
      · split at h
        · exact ⟨by omega, by assumption⟩
        · cases h
    have HP : Hid (layPlanOf fs = planSize fs) := Lib.hid (by simp [layPlanOf, h])
    have HC := Lib.hid h
    have e1 : (layCheck fs != 0) = false := by simp [h]
    clear h
    go_wp2_with fail
    refine (plan_any fs _ _ _ _ ((hfs.below hbel).mono hbel.size) (by have := hfs.1; omega) (fldOk_size h8.2)).mono ?_
    rintro e w2 ⟨va, vc, rfl, hown, hb2⟩
    have hr2 := keep hb2 hr1
    have s0 := cell_at hr2 0
    have s1 := cell_at hr2 1
    have t0 := free_at hr2 0
    have t1 := free_at hr2 1
    simp at s0 s1
    go_wp2
    refine bodyPost_ret (v := .tuple #[.agg #[.int .i64 (planSize fs), .slice va len vc], .int .i64 0]) (by simp [results, Tryz.results77, go_sem, s0, s1]) rfl ?_
    refine ⟨va, len, vc, by rw [HP.out, HC.out], ?_, fun _ => ⟨?_, hfs.1.symm⟩⟩
    · exact ((hbel.trans (hb2.mono hbel.size)).setCell (by simp) _).setCell (by simp) _
    · have := lt_some hr1
      exact ownsRow_mono (ownsRow_setCell_below (ownsRow_setCell_below hown (by simpa using this) _) (by simpa using this) _) (by omega)
  · have HP : Hid (layPlanOf fs = 0) := Lib.hid (by simp [layPlanOf, h])
    have e1 : (layCheck fs != 0) = true := by simp [h]
    have HN := Lib.hid h
    clear h
    go_wp2
    refine bodyPost_ret (v := .tuple #[.agg #[.int .i64 0, .slice none 0 0], .int .i64 (layCheck fs)]) (by simp [results, Tryz.results77, go_sem, r0, r1]) rfl ?_
    refine ⟨none, 0, 0, by rw [HP.out], ?_, fun h => absurd h HN.out⟩
    exact (hbel.setCell (by simp) _).setCell (by simp) _
end Go.Proofs.YtoadihebdaooaaaGreat
namespace Go.Proofs.YtoadihebdaooaaaGreat
open Go.RowKit
set_option linter.unusedVariables false

def colOk (size limit : Int) : Bool := decide (0 ≤ size) && decide (size ≤ 256) && decide (1 ≤ limit) && decide (limit ≤ 65536)
/-- A new column: nil, or a new block. -/
def IsCol (size limit : Int) (w : World) (e : Ending) (w' : World) : Prop :=
  if colOk size limit then e = .returned (.pointer (some ⟨w.heap.size, 0, none⟩)) ∧ w' = w.alloc (.cells #[.int .i64 size, .int .i64 limit, .int .i64 0, .slice none 0 0] 207)
  else e = .returned (.pointer none) ∧ w' = w
theorem colNew_any (size limit : Int) (w : World) : Calls Tryz.prog 78 #[.int .i64 size, .int .i64 limit] w (IsCol size limit w) := by
  rcases (by omega : size < 0 ∨ (0 ≤ size ∧ 256 < size) ∨ (0 ≤ size ∧ size ≤ 256 ∧ limit < 1) ∨ (0 ≤ size ∧ size ≤ 256 ∧ 1 ≤ limit ∧ 65536 < limit) ∨ (0 ≤ size ∧ size ≤ 256 ∧ 1 ≤ limit ∧ limit ≤ 65536)) with h | ⟨h, h'⟩ | ⟨h, h', h''⟩ | ⟨h, h', h'', h3⟩ | ⟨h, h', h'', h3⟩
  · have H : Hid (colOk size limit = false) := Lib.hid (by simp [colOk]; omega)
    go_enter Tryz.func78, Tryz.ntmps78
    go_wp2
    go_returns
    unfold IsCol; rw [H.out]; exact ⟨rfl, rfl⟩
  · have H : Hid (colOk size limit = false) := Lib.hid (by simp [colOk]; omega)
    go_enter Tryz.func78, Tryz.ntmps78
    go_wp2
    go_returns
    unfold IsCol; rw [H.out]; exact ⟨rfl, rfl⟩
  · have H : Hid (colOk size limit = false) := Lib.hid (by simp [colOk]; omega)
    go_enter Tryz.func78, Tryz.ntmps78
    go_wp2
    go_returns
    unfold IsCol; rw [H.out]; exact ⟨rfl, rfl⟩
  · have H : Hid (colOk size limit = false) := Lib.hid (by simp [colOk]; omega)
    go_enter Tryz.func78, Tryz.ntmps78
    go_wp2
    go_returns
    unfold IsCol; rw [H.out]; exact ⟨rfl, rfl⟩
  · have H : Hid (colOk size limit = true) := Lib.hid (by simp [colOk]; omega)
    go_enter Tryz.func78, Tryz.ntmps78
    go_wp2
    go_returns
    unfold IsCol; rw [H.out]; exact ⟨rfl, rfl⟩

def chB (c : UInt8) : Bool := letB c.toNat || (decide (48 ≤ c.toNat) && decide (c.toNat ≤ 57))
def isNameB (s : ByteArray) : Bool := decide (1 ≤ s.size) && decide (s.size ≤ 12) && letB ((s.data.toList.getD 0 0).toNat) && s.data.toList.all chB

theorem isName_long {s : ByteArray} (h : s.size = 0 ∨ 12 < s.size) : isNameB s = false := by unfold isNameB; rcases h with h | h <;> simp [h] <;> omega
theorem data_getD {s : ByteArray} {k : Nat} (h : k < s.size) : s.data.toList.getD k 0 = s[k] := by
  have h' : k < s.data.toList.length := by simpa using h
  rw [List.getD_eq_getElem?_getD, List.getElem?_eq_getElem h']
  simp; rfl
theorem data_get? {s : ByteArray} {k : Nat} (h : k < s.size) : s.data.toList[k]? = some s[k] := by
  have h' : k < s.data.toList.length := by simpa using h
  rw [List.getElem?_eq_getElem h']
  simp; rfl
theorem isName_head {s : ByteArray} (h0 : 0 < s.size) (h : letB (s[0].toNat) = false) : isNameB s = false := by
  unfold isNameB; rw [data_getD h0, h]; simp
theorem isName_bad {s : ByteArray} {k : Nat} (hk : k < s.size) (h : chB s[k] = false) : isNameB s = false := by
  unfold isNameB
  have : s.data.toList.all chB = false := by
    rw [List.all_eq_false]
    exact ⟨s[k], List.mem_of_getElem? (data_get? hk), by rw [h]; simp⟩
  rw [this]; simp
theorem isName_good {s : ByteArray} (h0 : 0 < s.size) (h1 : s.size ≤ 12) (h : letB (s[0].toNat) = true) (ha : s.data.toList.all chB = true) : isNameB s = true := by
  unfold isNameB; rw [data_getD h0, h, ha]; simp; omega
theorem empty_true {s : ByteArray} (h : s.size = 0) : s.toList = [] := by
  rw [ByteArray.toList_eq]
  have : s.data.size = 0 := h
  rw [← List.length_eq_zero_iff]
  simpa using this
theorem empty_false {s : ByteArray} (h : s.size ≠ 0) : s.toList.isEmpty = false := by
  rw [ByteArray.toList_eq]
  have : s.data.size ≠ 0 := h
  rw [Bool.eq_false_iff]
  intro h'
  rw [List.isEmpty_iff] at h'
  exact this (by rw [← Array.length_toList, h']; rfl)
set_option maxRecDepth 100000 in
theorem isName_any (s : ByteArray) (w : World) (hs : s.size ≤ maxLen) : Calls Tryz.prog 93 #[.string s] w fun e w' => e = .returned (.bool (isNameB s)) ∧ w = w' := by
  unfold maxLen at hs
  by_cases h0 : s.size = 0
  · have H := Lib.hid (isName_long (.inl h0))
    have e0 := empty_true h0
    clear h0
    go_enter Tryz.func93, Tryz.ntmps93
    go_wp2
    go_ret
    exact ⟨ret_bool H.out.symm, rfl⟩
  · have e0 := empty_false h0
    by_cases h1 : 12 < s.size
    · have H := Lib.hid (isName_long (.inr h1))
      go_enter Tryz.func93, Tryz.ntmps93
      go_wp2
      go_ret
      exact ⟨ret_bool H.out.symm, rfl⟩
    · have hp : 0 < s.size := by omega
      have hp' : (0 : Int) < (s.size : Int) := by omega
      have hd : decide (12 < (s.size : Int)) = false := by simp; omega
      go_enter Tryz.func93, Tryz.ntmps93
      go_wp2_with fail
      refine (isLetter_any _ _ (by omega) (by have := s[0].toNat_lt; omega)).mono ?_
      rintro e w' ⟨rfl, rfl⟩
      cases hl : letB (s[0].toNat)
      · have H := Lib.hid (isName_head hp hl)
        clear hl
        go_wp2
        go_ret
        exact ⟨ret_bool H.out.symm, rfl⟩
      · have HL := Lib.hid hl
        clear hl
        go_wp2_with fail
        go_loop [19] (fun i => ∃ k : Nat, k ≤ s.size ∧ i = .int .i64 k ∧ (s.data.toList.take k).all chB = true) (fun i => s.size - (intOf i).toNat)
        case atStart => exact ⟨0, Nat.zero_le _, rfl, rfl⟩
        case round =>
          obtain ⟨k, hk, rfl, hall⟩ := hrel
          have HA := Lib.hid hall
          clear hall
          by_cases hlt : k < s.size
          · have HT := Lib.hid (take_snoc (data_get? hlt))
            have hlt' : (k : Int) < (s.size : Int) := by omega
            go_wp2_with fail
            refine (isLetter_any _ _ (by omega) (by have := s[k].toNat_lt; omega)).mono ?_
            rintro e w' ⟨rfl, rfl⟩
            cases hl : letB (s[k].toNat)
            · rcases (by omega : (s[k].toNat : Int) < 48 ∨ (48 ≤ (s[k].toNat : Int) ∧ 57 < (s[k].toNat : Int)) ∨ (48 ≤ (s[k].toNat : Int) ∧ (s[k].toNat : Int) ≤ 57)) with h | ⟨h, h'⟩ | ⟨h, h'⟩
              · have H := Lib.hid (isName_bad hlt (by unfold chB; rw [hl]; simp; omega))
                have e1 : decide ((s[k].toNat : Int) < 48) = true := by simp; omega
                clear hl
                go_wp2
                go_ret
                exact ⟨ret_bool H.out.symm, rfl⟩
              · have H := Lib.hid (isName_bad hlt (by unfold chB; rw [hl]; simp; omega))
                have e1 : decide ((s[k].toNat : Int) < 48) = false := by simp; omega
                have e2 : decide (57 < (s[k].toNat : Int)) = true := by simp; omega
                clear hl
                go_wp2
                go_ret
                exact ⟨ret_bool H.out.symm, rfl⟩
              · have H := Lib.hid (show chB s[k] = true by unfold chB; rw [hl]; simp; omega)
                have e1 : decide ((s[k].toNat : Int) < 48) = false := by simp; omega
                have e2 : decide (57 < (s[k].toNat : Int)) = false := by simp; omega
                clear hl
                go_wp2
                go_round
                case rel => exact ⟨k + 1, by omega, by go_num, by rw [HT.out, List.all_append, HA.out]; simp [H.out]⟩
                case measure => simp [intOf]; omega
            · have H := Lib.hid (show chB s[k] = true by unfold chB; rw [hl]; simp)
              clear hl
              go_wp2
              go_round
              case rel => exact ⟨k + 1, by omega, by go_num, by rw [HT.out, List.all_append, HA.out]; simp [H.out]⟩
              case measure => simp [intOf]; omega
          · obtain rfl : k = s.size := by omega
            have H := Lib.hid (isName_good hp (by omega) HL.out (by have := HA.out; rwa [List.take_of_length_le (by simp)] at this))
            go_wp2
            go_ret
            exact ⟨ret_bool H.out.symm, rfl⟩
end Go.Proofs.YtoadihebdaooaaaGreat
namespace Go.Proofs.YtoadihebdaooaaaGreat
open Go.RowKit
open Go.Maps (Keyed IsMap Tidy)
set_option linter.unusedVariables false

section
variable {P : Program} {w : World} {k e : TypeId} {b cnt : Nat} {f : Lit → Option Lit}

/-- Block b is a map of cnt entries, that holds at each key what f says. -/
def MapIs (P : Program) (w : World) (k e : TypeId) (b cnt : Nat) (f : Lit → Option Lit) : Prop :=
  ∃ D : DataW Unit, w.ownsMap P k (plainElem P e) b cnt D ∧ Maps.size D = cnt ∧ ∀ kl, Maps.has D kl = (f kl).isSome ∧ ∀ v, f kl = some v → ∀ z, D.atKey kl z = .lit v

/-- Are two keys one? -/
def litEq : Lit → Lit → Bool
  | .bool a, .bool b => decide (a = b)
  | .int k n, .int k' n' => decide (k = k') && decide (n = n')
  | .float k n, .float k' n' => decide (k = k') && decide (n = n')
  | .string a, .string b => decide (a = b)
  | .nil, .nil => true
  | _, _ => false
theorem litEq_iff {x y : Lit} : litEq x y = true ↔ x = y := by
  cases x <;> cases y <;> simp [litEq]
def putF (f : Lit → Option Lit) (kl v : Lit) : Lit → Option Lit := fun x => if litEq x kl = true then some v else f x
theorem putF_same (f : Lit → Option Lit) (kl v : Lit) : putF f kl v kl = some v := if_pos (litEq_iff.2 rfl)
theorem putF_ne {f : Lit → Option Lit} {kl v x : Lit} (h : x ≠ kl) : putF f kl v x = f x := if_neg (fun e => h (litEq_iff.1 e))

theorem MapIs.made (w : World) (P : Program) (k e : TypeId) : MapIs P (w.alloc (.map #[] 0)) k e w.heap.size 0 (fun _ => none) :=
  ⟨.map [], World.ownsMap_made _ _ _ _, rfl, fun kl => ⟨rfl, fun v h => by cases h⟩⟩

theorem MapIs.kept {w' : World} {row : Option Nat} (h : MapIs P w k e b cnt f) (hg : w.grownBy w' row) (hne : some b ≠ row) : MapIs P w' k e b cnt f := by
  obtain ⟨D, h1, h2, h3⟩ := h
  exact ⟨D, h1.kept hg hne, h2, h3⟩
theorem MapIs.alloc (h : MapIs P w k e b cnt f) (o : Obj) : MapIs P (w.alloc o) k e b cnt f := by
  obtain ⟨D, h1, h2, h3⟩ := h
  exact ⟨D, h1.alloc o, h2, h3⟩
theorem MapIs.setCell (h : MapIs P w k e b cnt f) {a : Addr} (ha : b ≠ a.block) (u : Value) : MapIs P (w.setCell a u) k e b cnt f := by
  obtain ⟨D, h1, h2, h3⟩ := h
  exact ⟨D, h1.setCell ha u, h2, h3⟩
theorem MapIs.below (h : MapIs P w k e b cnt f) {w' : World} (hb : Below w.heap.size w w') : MapIs P w' k e b cnt f :=
  h.kept (row := none) ⟨hb.os, hb.tape, hb.output, hb.size, fun k hk _ => hb.block k hk⟩ (by simp)
theorem MapIs.lt (h : MapIs P w k e b cnt f) : b < w.heap.size := by obtain ⟨D, h1, _⟩ := h; exact h1.lt
theorem MapIs.obj (h : MapIs P w k e b cnt f) : ∃ es c, w.heap[b]? = some (.map es c) := by
  obtain ⟨D, ⟨es, c, hb, _⟩, _⟩ := h
  exact ⟨es, c, hb⟩

/-- What is not there at a bool's map is false. -/
def boolAt (o : Option Lit) : Bool := match o with | some (.bool b) => b | _ => false
def intAt (o : Option Lit) : Int := match o with | some (.int _ n) => n | _ => 0

/-- m[k], m a map of bools. -/
theorem MapIs.look_bool {t : TypeId} (h : MapIs P w k e b cnt f) (K : Keyed P k) (ht : P.underlying t = some (.map k e)) (he : P.underlying e = some .bool) (hz : ∀ w, (zeroValue e).run P w = .ok (.bool false) w)
    {key : Value} {kl : Lit} (hkey : keyOf P k key = some kl) : (Instr.lookup t (.map (some b)) key false).run P w = .ok (.bool (boolAt (f kl))) w := by
  obtain ⟨D, h1, h2, h3⟩ := h
  obtain ⟨v, ps, hrun, hv⟩ := h1.lookup K ht (hz w) (plainElem_bool he false) hkey
  rw [hrun]
  obtain ⟨hh, hat⟩ := h3 kl
  have hv' : ∃ x, v = .bool x ∧ D.atKey kl (.lit (.bool false)) = .lit (.bool x) := by
    unfold plainElem at hv
    rw [he] at hv
    cases v <;> simp at hv
    exact ⟨_, rfl, hv.1.symm⟩
  obtain ⟨x, rfl, hx⟩ := hv'
  cases hf : f kl with
  | none =>
    rw [hf] at hh
    rw [Maps.atKey_of_not_has hh] at hx
    cases hx
    rfl
  | some v =>
    rw [hat v hf] at hx
    cases hx
    rfl

/-- v, ok := m[k], m a map of integers. -/
theorem MapIs.look_ok_int {t : TypeId} {q : IntKind} (h : MapIs P w k e b cnt f) (K : Keyed P k) (ht : P.underlying t = some (.map k e)) (he : P.underlying e = some (.int q)) (hz : ∀ w, (zeroValue e).run P w = .ok (.int q 0) w)
    {key : Value} {kl : Lit} (hkey : keyOf P k key = some kl) : (Instr.lookup t (.map (some b)) key true).run P w = .ok (.tuple #[.int q (intAt (f kl)), .bool (f kl).isSome]) w := by
  obtain ⟨D, h1, h2, h3⟩ := h
  obtain ⟨v, ps, hrun, hv⟩ := h1.look_ok K ht (hz w) (plainElem_int he (by cases q <;> decide)) hkey
  rw [hrun]
  obtain ⟨hh, hat⟩ := h3 kl
  obtain ⟨c, rfl, hc, hwc⟩ := plainElem_int_inv he hv
  have hc' := congrArg Prod.fst hc
  simp only at hc'
  rw [hh]
  cases hf : f kl with
  | none =>
    rw [hf] at hh
    rw [Maps.atKey_of_not_has hh] at hc'
    cases hc'
    rfl
  | some v =>
    rw [hat v hf] at hc'
    cases hc'
    rfl

/-- len(m). -/
theorem MapIs.len {t : TypeId} (h : MapIs P w k e b cnt f) (ht : P.underlying t = some (.map k e)) (ty : TypeId) : (Builtin.len_ #[t] ty #[.map (some b)]).run P w = .ok (.int .i64 cnt) w := by
  obtain ⟨D, h1, h2, h3⟩ := h
  rw [h1.len ht, h2]

/-- m[k] = v. -/
theorem MapIs.store {t : TypeId} (h : MapIs P w k e b cnt f) (K : Keyed P k) (ht : P.underlying t = some (.map k e)) (hn : cnt < maxLen) {key val : Value} {kl v : Lit}
    (hkey : keyOf P k key = some kl) (hv : plainElem (H := Unit) P e val = some (.lit v, [])) :
    ∃ w', (Instr.mapUpdate t (.map (some b)) key val).run P w = .ok () w' ∧ MapIs P w' k e b (if (f kl).isSome then cnt else cnt + 1) (putF f kl v) ∧ w.grownBy w' (some b) ∧ w'.heap.size = w.heap.size ∧ (∀ a, w'.frozen? a = w.frozen? a) := by
  obtain ⟨D, h1, h2, h3⟩ := h
  obtain ⟨w', hrun, h1', ht'⟩ := h1.store K ht hn hkey hv
  have hs : Maps.size (D.put kl (.lit v)) = if (f kl).isSome then cnt else cnt + 1 := by
    rw [Maps.size_put (h1.tidy K), (h3 kl).1, h2]
  have hsz : w'.heap.size = w.heap.size := by
    obtain ⟨es, clock, es', clock', hb, rfl⟩ := ht'
    simp [ChangeMaps.setBlock]
  refine ⟨w', hrun, ⟨D.put kl (.lit v), ?_, hs, fun x => ?_⟩, ht'.grown, hsz, ht'.frozen⟩
  · obtain ⟨es, clock, hb, F, hle, hD⟩ := h1'
    refine ⟨es, clock, hb, F, ?_, hD⟩
    rw [← hs, hD]
    simp [Maps.size, length_sorted]
  · by_cases hx : x = kl
    · subst hx
      rw [putF_same]
      refine ⟨by rw [Maps.has_put_same h1.isMap (K.key hkey)]; rfl, fun u hu z => ?_⟩
      rw [Maps.atKey_put_same h1.isMap (K.key hkey)]
      cases hu
      rfl
    · rw [putF_ne hx]
      refine ⟨by rw [Maps.has_put_other hx, (h3 x).1], fun u hu z => ?_⟩
      rw [Maps.atKey_put_other hx]
      exact (h3 x).2 u hu z
end
end Go.Proofs.YtoadihebdaooaaaGreat
namespace Go.Proofs.YtoadihebdaooaaaGreat
open Go.RowKit
open Go.Maps (Keyed string_keyed)
open Go.WideMaps (keyOf_string_mk)
set_option linter.unusedVariables false

def nmOk : List (List UInt8) → List ByteArray → Bool
  | _, [] => true
  | seen, s :: r => isNameB s && !seen.contains ((s).data.toList) && nmOk (seen ++ [(s).data.toList]) r
theorem nmOk_append (l r : List ByteArray) : ∀ seen, nmOk seen (l ++ r) = (nmOk seen l && nmOk (seen ++ l.map (fun s : ByteArray => s.data.toList)) r) := by
  induction l with
  | nil => intro seen; simp [nmOk]
  | cons a l ih => intro seen; simp only [List.cons_append, nmOk, ih, List.map_cons]; simp [Bool.and_assoc]
theorem nmOk_bad {l : List ByteArray} {k : Nat} {s : ByteArray} (hs : l[k]? = some s) (h : isNameB s = false ∨ ((l.take k).map (fun s : ByteArray => s.data.toList)).contains ((s).data.toList) = true) : nmOk [] l = false := by
  have hl : l = l.take k ++ s :: l.drop (k + 1) := by
    have hk := (List.getElem?_eq_some_iff.1 hs)
    obtain ⟨hk1, hk2⟩ := hk
    conv => lhs; rw [← List.take_append_drop k l]
    rw [List.drop_eq_getElem_cons hk1, hk2]
  rw [hl, nmOk_append]
  simp only [nmOk, List.nil_append]
  rcases h with h | h
  · simp [h]
  · rw [h]; simp
theorem nmOk_snoc {l : List ByteArray} {s : ByteArray} (h : nmOk [] l = true) (h1 : isNameB s = true) (h2 : (l.map (fun s : ByteArray => s.data.toList)).contains ((s).data.toList) = false) : nmOk [] (l ++ [s]) = true := by
  rw [nmOk_append, h]; simp only [nmOk, List.nil_append, h1, h2]; rfl

theorem Tryz.law9 : Keyed Tryz.prog 9 := string_keyed Tryz.underlying9
theorem Tryz.zero4 (w : World) : (zeroValue 4).run Tryz.prog w = .ok (.bool false) w := by kernel_rfl

/-- The map of the names that were seen. -/
def SeenIs (w : World) (b : Nat) (n : Nat) (l : List (List UInt8)) : Prop :=
  ∃ cnt f, cnt ≤ n ∧ MapIs Tryz.prog w 9 4 b cnt f ∧ ∀ x, f (.string x) = if l.contains x then some (.bool true) else none
theorem SeenIs.look {w : World} {b n : Nat} {l : List (List UInt8)} (h : SeenIs w b n l) {s : ByteArray} (hs : s.size ≤ maxLen) :
    (Instr.lookup 177 (.map (some b)) (.string s) false).run Tryz.prog w = .ok (.bool (l.contains ((s).data.toList))) w := by
  obtain ⟨cnt, f, hc, hM, hf⟩ := h
  rw [hM.look_bool Tryz.law9 Tryz.underlying177 Tryz.underlying4 Tryz.zero4 (keyOf_string_mk Tryz.underlying9 hs), hf]
  cases l.contains ((s).data.toList) <;> rfl
theorem SeenIs.store {w : World} {b n : Nat} {l : List (List UInt8)} (h : SeenIs w b n l) {s : ByteArray} (hs : s.size ≤ maxLen) (hn : n < maxLen) :
    ∃ w', (Instr.mapUpdate 177 (.map (some b)) (.string s) (.bool true)).run Tryz.prog w = .ok () w' ∧ SeenIs w' b (n + 1) (l ++ [(s).data.toList]) ∧ w.grownBy w' (some b) ∧ w'.heap.size = w.heap.size ∧ (∀ a, w'.frozen? a = w.frozen? a) := by
  obtain ⟨cnt, f, hc, hM, hf⟩ := h
  obtain ⟨w', h1, h2, h3, h4, h5⟩ := hM.store Tryz.law9 Tryz.underlying177 (by omega) (keyOf_string_mk Tryz.underlying9 hs) (plainElem_bool Tryz.underlying4 true)
  refine ⟨w', h1, ⟨_, _, ?_, h2, fun x => ?_⟩, h3, h4, h5⟩
  · split <;> omega
  · by_cases hx : x = (s).data.toList
    · subst hx; rw [putF_same]; simp
    · rw [putF_ne (by simpa using hx), hf]
      have : (l ++ [(s).data.toList]).contains x = l.contains x := by
        rw [Bool.eq_iff_iff]; simp [hx]
      rw [this]
theorem SeenIs.made (w : World) : SeenIs (w.alloc (.map #[] 0)) w.heap.size 0 [] := ⟨0, _, Nat.le_refl _, MapIs.made _ _ _ _, fun x => rfl⟩
theorem SeenIs.below {w w' : World} {b n : Nat} {l : List (List UInt8)} (h : SeenIs w b n l) (hb : Below w.heap.size w w') : SeenIs w' b n l := by
  obtain ⟨cnt, f, hc, hM, hf⟩ := h
  exact ⟨cnt, f, hc, hM.below hb, hf⟩
theorem SeenIs.alloc {w : World} {b n : Nat} {l : List (List UInt8)} (h : SeenIs w b n l) (o : Obj) : SeenIs (w.alloc o) b n l := by
  obtain ⟨cnt, f, hc, hM, hf⟩ := h
  exact ⟨cnt, f, hc, hM.alloc o, hf⟩
theorem SeenIs.lt {w : World} {b n : Nat} {l : List (List UInt8)} (h : SeenIs w b n l) : b < w.heap.size := by
  obtain ⟨cnt, f, hc, hM, hf⟩ := h
  exact hM.lt

def fieldsF (fs : List Fld) : Int := if nmOk [] (fs.map (·.name)) then layCheck fs else 4

set_option maxRecDepth 100000 in
set_option maxHeartbeats 1000000 in
theorem fields_any (fs : List Fld) (a : Option Addr) (len cap : Nat) (w : World) (hfs : FieldsAt w.heap.size w a len fs) (hw : ∀ f ∈ fs, f.name.size ≤ maxLen) :
    Calls Tryz.prog 94 #[.slice a len cap] w fun e w' => e = .returned (.int .i64 (fieldsF fs)) ∧ Below w.heap.size w w' := by
  have hmx : len ≤ maxLen := hfs.2.1
  have hmm := @run_makeMap Tryz.prog
  have HMX := Lib.hid hmx
  unfold maxLen at hmx
  go_enter Tryz.func94, Tryz.ntmps94
  go_wp2
  go_loopw [9] (fun i wr => ∃ (k : Nat), k ≤ len ∧ i = .int .i64 k ∧ nmOk [] ((fs.take k).map (·.name)) = true ∧ SeenIs wr w.heap.size k (((fs.take k).map (·.name)).map (fun s : ByteArray => s.data.toList)) ∧ Below w.heap.size w wr)
      (fun i _ => len - (intOf i).toNat)
  case atStart => exact ⟨0, Nat.zero_le _, rfl, rfl, SeenIs.made w, by go_grown⟩
  case round =>
    obtain ⟨k, hk, rfl, hall, hseen, hbw⟩ := hrel
    have HA := Lib.hid hall
    clear hall
    have hzr := hbw.size
    have hbl := hseen.lt
    by_cases hlt : k < len
    · obtain ⟨b, off, f, rfl, hB, hf, c0, c1, c2⟩ := hfs.get hbw hlt
      have htk := Lib.hid (take_snoc hf)
      have hfn : (fs.map (·.name))[k]? = some f.name := by rw [List.getElem?_map, hf]; rfl
      have HFN := Lib.hid hfn
      clear hfn
      have hsz := hw f (List.mem_of_getElem? hf)
      go_wp2_with fail
      refine (isName_any _ _ hsz).mono ?_
      rintro e w' ⟨rfl, rfl⟩
      cases hn : isNameB f.name
      · have H : Hid (fieldsF fs = 4) := Lib.hid (by unfold fieldsF; rw [nmOk_bad HFN.out (.inl hn)]; rfl)
        go_wp2
        go_ret
        exact ⟨ret_intk H.out.symm, hbw.alloc (by omega) _⟩
      · have HN := Lib.hid hn
        have hlk := (hseen.alloc (Obj.cells #[Value.string f.name, Value.int IntKind.i64 f.kind, Value.int IntKind.i64 f.count] 123)).look (s := f.name) hsz
        have hM : ((((fs.map (·.name)).take k).map (fun s : ByteArray => s.data.toList)).contains ((f.name).data.toList)) = ((((fs.take k).map (·.name)).map (fun s : ByteArray => s.data.toList)).contains ((f.name).data.toList)) := by rw [← List.map_take]
        have HM := Lib.hid hM
        clear hM
        generalize hct : (List.map (fun s : ByteArray => s.data.toList) (List.map (fun x => x.name) (List.take k fs))).contains ((f.name).data.toList) = ct at hlk
        cases ct
        · obtain ⟨w2, hup, hseen2, hg2, hz2, hfr⟩ := (hseen.alloc (Obj.cells #[Value.string f.name, Value.int IntKind.i64 f.kind, Value.int IntKind.i64 f.count] 123)).store (s := f.name) hsz (by have := HMX.out; omega)
          have HS := Lib.hid hseen2
          clear hseen2
          have HCT := Lib.hid hct
          clear hct hfr
          have hbel : Below w.heap.size w w2 := (hbw.alloc (by omega) _).grown hg2 (by simp; omega) (fun x hx => by cases hx; omega)
          clear hg2
          go_wp2
          go_roundw
          case rel =>
            refine ⟨k + 1, by omega, by go_num, ?_, ?_, hbel⟩
            · rw [htk.out, List.map_append]; exact nmOk_snoc HA.out HN.out HCT.out
            · rw [htk.out, List.map_append, List.map_append]; exact HS.out
          case measure => simp [intOf]; omega
        · have H : Hid (fieldsF fs = 4) := Lib.hid (by unfold fieldsF; rw [nmOk_bad HFN.out (.inr (by rw [HM.out]; exact hct))]; rfl)
          clear hct
          go_wp2
          go_ret
          exact ⟨ret_intk H.out.symm, hbw.alloc (by omega) _⟩
    · obtain rfl : k = len := by omega
      have H : Hid (fieldsF fs = layCheck fs) := Lib.hid (by
        have := HA.out
        rw [List.take_of_length_le (by have := hfs.1; omega)] at this
        unfold fieldsF; rw [this]; rfl)
      go_wp2_with fail
      refine (layCheck_any fs _ _ _ _ ((hfs.below hbw).mono hzr)).mono ?_
      rintro e w1 ⟨rfl, hb1⟩
      go_wp2
      go_ret
      exact ⟨ret_intk H.out.symm, hbw.trans (hb1.mono hzr)⟩
end Go.Proofs.YtoadihebdaooaaaGreat
namespace Go.Proofs.YtoadihebdaooaaaGreat
open Go.RowKit
set_option linter.unusedVariables false

structure Cmp where
  id : Int
  name : ByteArray
  fields : List Fld

/-- A slice of components that lies below block B. -/
def CompsAt (B : Nat) (w : World) (a : Option Addr) (len : Nat) (cs : List Cmp) : Prop :=
  cs.length = len ∧ len ≤ maxLen ∧ (len = 0 ∨ ∃ b off, a = some ⟨b, off, none⟩ ∧ b < B ∧ ∀ (i : Nat) (c : Cmp), cs[i]? = some c →
    w.cell? ⟨b, off + i * 3, none⟩ = some (.int .i64 c.id) ∧ w.cell? ⟨b, off + i * 3 + 1, none⟩ = some (.string c.name) ∧
      ∃ fa fl fc, w.cell? ⟨b, off + i * 3 + 2, none⟩ = some (.slice fa fl fc) ∧ FieldsAt B w fa fl c.fields ∧ (fa = none → fl = 0 ∧ fc = 0))
/-- The strings of a schema are strings. -/
def CompsWf (cs : List Cmp) : Prop := ∀ c ∈ cs, c.name.size ≤ maxLen ∧ ∀ f ∈ c.fields, f.name.size ≤ maxLen

theorem CompsAt.below {B : Nat} {w w' : World} {a : Option Addr} {len : Nat} {cs : List Cmp} (h : CompsAt B w a len cs) (hb : Below B w w') : CompsAt B w' a len cs := by
  obtain ⟨h1, h2, h3⟩ := h
  refine ⟨h1, h2, ?_⟩
  rcases h3 with h3 | ⟨b, off, ha, hB, hc⟩
  · exact .inl h3
  · refine .inr ⟨b, off, ha, hB, fun i f hf => ?_⟩
    obtain ⟨c0, c1, fa, fl, fc, c2, hF, hn⟩ := hc i f hf
    exact ⟨(hb.cell (p := ⟨b, off + i * 3, none⟩) hB).trans c0, (hb.cell (p := ⟨b, off + i * 3 + 1, none⟩) hB).trans c1, fa, fl, fc, (hb.cell (p := ⟨b, off + i * 3 + 2, none⟩) hB).trans c2, hF.below hb, hn⟩
theorem CompsAt.mono {B B' : Nat} {w : World} {a : Option Addr} {len : Nat} {cs : List Cmp} (h : CompsAt B w a len cs) (hb : B ≤ B') : CompsAt B' w a len cs := by
  obtain ⟨h1, h2, h3⟩ := h
  refine ⟨h1, h2, ?_⟩
  rcases h3 with h3 | ⟨b, off, ha, hB, hc⟩
  · exact .inl h3
  · refine .inr ⟨b, off, ha, by omega, fun i f hf => ?_⟩
    obtain ⟨c0, c1, fa, fl, fc, c2, hF, hn⟩ := hc i f hf
    exact ⟨c0, c1, fa, fl, fc, c2, hF.mono hb, hn⟩
theorem CompsAt.get {B : Nat} {w w' : World} {a : Option Addr} {len : Nat} {cs : List Cmp} (h : CompsAt B w a len cs) (hb : Below B w w') {k : Nat} (hk : k < len) :
    ∃ b off c, a = some ⟨b, off, none⟩ ∧ b < B ∧ cs[k]? = some c ∧ w'.cell? ⟨b, off + k * 3, none⟩ = some (.int .i64 c.id) ∧ w'.cell? ⟨b, off + k * 3 + 1, none⟩ = some (.string c.name) ∧
      ∃ fa fl fc, w'.cell? ⟨b, off + k * 3 + 2, none⟩ = some (.slice fa fl fc) ∧ FieldsAt B w' fa fl c.fields ∧ (fa = none → fl = 0 ∧ fc = 0) := by
  obtain ⟨h1, h2, h3⟩ := h.below hb
  rcases h3 with h3 | ⟨b, off, ha, hB, hc⟩
  · omega
  · have hl : k < cs.length := by omega
    exact ⟨b, off, cs[k], ha, hB, List.getElem?_eq_getElem hl, hc k _ (List.getElem?_eq_getElem hl)⟩

def compsGo (last : Int) (seen : List (List UInt8)) : List Cmp → Int
  | [] => 0
  | c :: r => if c.id ≤ last ∨ 24 < c.id then 1 else if isNameB c.name = false ∨ seen.contains ((c.name).data.toList) = true then 4 else if fieldsF c.fields ≠ 0 then fieldsF c.fields else compsGo c.id (seen ++ [(c.name).data.toList]) r
def schemaCheck (ver : Int) (cs : List Cmp) : Int := if ver < 1 ∨ 1073741824 < ver then 1 else compsGo 0 [] cs
theorem drop_get {α : Type} {l : List α} {k : Nat} {x : α} (h : l[k]? = some x) : l.drop k = x :: l.drop (k + 1) := by
  obtain ⟨h1, h2⟩ := List.getElem?_eq_some_iff.1 h
  rw [List.drop_eq_getElem_cons h1, h2]
theorem SeenIs.drew {w : World} {b n : Nat} {l : List (List UInt8)} (h : SeenIs w b n l) : SeenIs w.drew b n l := h

set_option maxRecDepth 100000 in
set_option maxHeartbeats 2000000 in
theorem schemaCheck_any (ver : Int) (cs : List Cmp) (a : Option Addr) (len cap : Nat) (w : World) (hcs : CompsAt w.heap.size w a len cs) (hw : CompsWf cs) :
    Calls Tryz.prog 56 #[.agg #[.int .i64 ver, .slice a len cap]] w fun e w' => e = .returned (.int .i64 (schemaCheck ver cs)) ∧ Below w.heap.size w w' := by
  have hmx : len ≤ maxLen := hcs.2.1
  have hmm := @run_makeMap Tryz.prog
  have HMX := Lib.hid hmx
  unfold maxLen at hmx
  rcases (by omega : ver < 1 ∨ (1 ≤ ver ∧ 1073741824 < ver) ∨ (1 ≤ ver ∧ ver ≤ 1073741824)) with h | ⟨h, h'⟩ | ⟨h, h'⟩
  · have H : Hid (schemaCheck ver cs = 1) := Lib.hid (by unfold schemaCheck; rw [if_pos (.inl h)])
    go_enter Tryz.func56, Tryz.ntmps56
    go_wp2
    go_ret
    exact ⟨ret_intk H.out.symm, by go_grown⟩
  · have H : Hid (schemaCheck ver cs = 1) := Lib.hid (by unfold schemaCheck; rw [if_pos (.inr h')])
    go_enter Tryz.func56, Tryz.ntmps56
    go_wp2
    go_ret
    exact ⟨ret_intk H.out.symm, by go_grown⟩
  · have H : Hid (schemaCheck ver cs = compsGo 0 [] cs) := Lib.hid (by unfold schemaCheck; rw [if_neg (by omega)])
    go_enter Tryz.func56, Tryz.ntmps56
    go_wp2
    go_loopw [4, 20] (fun l i wr => ∃ (k : Nat) (last : Int), k ≤ len ∧ i = .int .i64 k ∧ l = .int .i64 last ∧ compsGo 0 [] cs = compsGo last ((cs.take k).map fun c => (c.name).data.toList) (cs.drop k) ∧
        SeenIs wr (w.heap.size + 1) k ((cs.take k).map fun c => (c.name).data.toList) ∧ Below w.heap.size w wr)
        (fun _ i _ => len - (intOf i).toNat)
    case atStart => exact ⟨0, 0, Nat.zero_le _, rfl, rfl, rfl, by simpa using SeenIs.made (w.alloc (.cells #[.int .i64 ver, .slice a len cap] 24)), by go_grown⟩
    case round =>
      obtain ⟨k, last, hk, rfl, rfl, hgo, hseen, hbw⟩ := hrel
      have HG := Lib.hid hgo
      clear hgo
      have hzr := hbw.size
      have hbl := hseen.lt
      by_cases hlt : k < len
      · obtain ⟨b, off, c, rfl, hB, hc, c0, c1, fa, fl, fc, c2, hF, hnil⟩ := hcs.get hbw hlt
        have htk := Lib.hid (take_snoc hc)
        have hdr := Lib.hid (drop_get hc)
        obtain ⟨hsz, hszf⟩ := hw c (List.mem_of_getElem? hc)
        have hstep := Lib.hid (HG.out.trans (by rw [hdr.out]))
        rcases (by omega : c.id ≤ last ∨ (last < c.id ∧ 24 < c.id) ∨ (last < c.id ∧ c.id ≤ 24)) with h1 | ⟨h1, h2⟩ | ⟨h1, h2⟩
        · have H1 : Hid (schemaCheck ver cs = 1) := Lib.hid (by rw [H.out, hstep.out]; unfold compsGo; rw [if_pos (.inl h1)])
          go_wp2
          go_ret
          exact ⟨ret_intk H1.out.symm, hbw.alloc hzr _⟩
        · have H1 : Hid (schemaCheck ver cs = 1) := Lib.hid (by rw [H.out, hstep.out]; unfold compsGo; rw [if_pos (.inr h2)])
          go_wp2
          go_ret
          exact ⟨ret_intk H1.out.symm, hbw.alloc hzr _⟩
        · have hd1 : decide (c.id ≤ last) = false := by simp; omega
          have hd2 : decide (24 < c.id) = false := by simp; omega
          go_wp2_with fail
          refine (isName_any _ _ hsz).mono ?_
          rintro e w' ⟨rfl, rfl⟩
          cases hn : isNameB c.name
          · have H1 : Hid (schemaCheck ver cs = 4) := Lib.hid (by rw [H.out, hstep.out]; unfold compsGo; rw [if_neg (by omega), if_pos (.inl hn)])
            go_wp2
            go_ret
            exact ⟨ret_intk H1.out.symm, hbw.alloc hzr _⟩
          · have HN := Lib.hid hn
            have hseenA := hseen.alloc (Obj.cells #[Value.int IntKind.i64 c.id, Value.string c.name, Value.slice fa fl fc] 112)
            have hlk := hseenA.look (s := c.name) hsz
            generalize hct : (List.map (fun c => (c.name).data.toList) (List.take k cs)).contains ((c.name).data.toList) = ct at hlk
            cases ct
            · have H1 : Hid (schemaCheck ver cs = if fieldsF c.fields ≠ 0 then fieldsF c.fields else compsGo c.id ((cs.take (k + 1)).map fun c => (c.name).data.toList) (cs.drop (k + 1))) := Lib.hid (by
                rw [H.out, hstep.out]; conv => lhs; unfold compsGo
                rw [if_neg (by omega), if_neg (by rw [hn, hct]; simp), htk.out, List.map_append]; rfl)
              obtain ⟨w2, hup, hseen2, hg2, hz2, hfr⟩ := hseenA.drew.store (s := c.name) hsz (by have := HMX.out; omega)
              clear hct hfr
              have HS := Lib.hid hseen2
              clear hseen2
              have hf2 := keepG hg2 (show (wr.alloc (Obj.cells #[Value.int IntKind.i64 c.id, Value.string c.name, Value.slice fa fl fc] 112)).drew.heap[wr.heap.size]? = some _ from heap_alloc_new wr _) (by simp; omega)
              have g0 := cell_at hf2 0
              have g1 := cell_at hf2 1
              have g2 := cell_at hf2 2
              simp at g0 g1 g2
              have hbel2 : Below w.heap.size wr w2 := ((Below.refl _ wr).alloc hzr _).drew.grown hg2 (by simp [World.drew]; omega) (fun x hx => by cases hx; omega)
              have hbel : Below w.heap.size w w2 := hbw.trans hbel2
              have hF2 := (hF.below hbel2).mono hbel.size
              have hz2' : w2.heap.size = wr.heap.size + 1 := by simpa [World.drew] using hz2
              have HZ := Lib.hid hz2'
              clear hz2 hz2' hg2 hf2
              go_wp2
              go_region
              go_wp2_with fail
              refine (fields_any c.fields _ _ _ _ hF2 hszf).mono ?_
              rintro e w3 ⟨rfl, hb3⟩
              have hbel3 : Below w.heap.size w w3 := hbel.trans (hb3.mono hbel.size)
              by_cases h0 : fieldsF c.fields = 0
              · have H2 := Lib.hid (H1.out.trans (by rw [if_neg (by simpa using h0)]))
                have e1 : (fieldsF c.fields != 0) = false := by simp [h0]
                have HS3 := Lib.hid (HS.out.below hb3)
                clear h0
                go_wp2
                go_roundw
                case rel =>
                  refine ⟨k + 1, c.id, by omega, by go_num, rfl, H.out.symm.trans H2.out, ?_, hbel3⟩
                  have := HS3.out
                  rw [htk.out, List.map_append]; exact this
                case measure => simp [intOf]; omega
              · have H2 := Lib.hid (H1.out.trans (by rw [if_pos h0]))
                have e1 : (fieldsF c.fields != 0) = true := by simp [h0]
                clear h0
                go_wp2
                go_ret
                exact ⟨ret_intk H2.out.symm, hbel3⟩
            · have H1 : Hid (schemaCheck ver cs = 4) := Lib.hid (by rw [H.out, hstep.out]; unfold compsGo; rw [if_neg (by omega), if_pos (.inr hct)])
              clear hct
              go_wp2
              go_ret
              exact ⟨ret_intk H1.out.symm, hbw.alloc hzr _⟩
      · obtain rfl : k = len := by omega
        have H1 : Hid (schemaCheck ver cs = 0) := Lib.hid (by rw [H.out, HG.out, List.drop_eq_nil_of_le (by have := hcs.1; omega)]; rfl)
        go_wp2
        go_ret
        exact ⟨ret_intk H1.out.symm, hbw⟩
end Go.Proofs.YtoadihebdaooaaaGreat
namespace Go.Proofs.YtoadihebdaooaaaGreat
open Go.RowKit
set_option linter.unusedVariables false

section
variable {P : Program} {l : List Oper} {Q : Exit → Act → World → Prop} {a0 : Act} {w0 : World} {R : Nat → Value → World → Prop}

theorem wpList_load_rowG {ops : Array Oper} {rest : List Oper} {o : Oper} {a : Act} {w : World} {Q : Exit → Act → World → Prop} (hw : Region.wanted o (yielded ops a.tmps) = true) (ty : TypeId) (x : Operand) (ho : o.op = .load ty x)
    (g : Nat) (hx : a.eval x = .pointer (some ⟨g, 0, none⟩)) (t : TypeId) (cs : Array Value) (fr : Nat × Nat) (d : TypeDesc) (hg : w.heap[g]? = some (.cells cs t fr))
    (hu : P.underlying ty = some d) (hd : (match d with | .struct _ | .array _ _ => true | _ => false) = true) (hi : (P.info? ty).map (·.size) = some cs.size)
    (h : wpList P ops Q rest (a.put o.dst (.agg cs)) w) : wpList P ops Q (o :: rest) a w :=
  BigFrame.wpList_want hw fun _ hK => wp_load_row ty x ho g hx t cs fr d hg hu hd hi (hK _ _ h)
/-- A frame in which each operation has laid its value. -/
def putAll (vs : Nat → Value) : Nat → List Oper → Act → Act
  | _, [], a => a
  | k, o :: r, a => putAll vs (k + 1) r (a.put o.dst (vs k))
def noDup : List Oper → Bool
  | [] => true
  | o :: r => (match o.dst with | none => true | some d => r.all fun x => x.dst != some d) && noDup r
def edgesB : Nat → List Oper → Bool
  | _, [] => true
  | k, o :: r => (o.after.all fun e => !(Region.binds .any e) || decide (e.on < k)) && edgesB (k + 1) r
def updV (vs : Nat → Value) (i : Nat) (v : Value) : Nat → Value := fun j => if j = i then v else vs j

theorem put_put_same (a : Act) (d : Option Tmp) (v u : Value) : (a.put d v).put d u = a.put d u := by
  cases d with
  | none => rfl
  | some d => simp [Act.put, Array.setIfInBounds_setIfInBounds]
theorem putAll_congr {vs vs' : Nat → Value} : ∀ (l : List Oper) (k : Nat) (a : Act), (∀ j, k ≤ j → vs j = vs' j) → putAll vs k l a = putAll vs' k l a
  | [], _, _, _ => rfl
  | o :: r, k, a, h => by
    unfold putAll
    rw [h k (Nat.le_refl k)]
    exact putAll_congr r (k + 1) _ (fun j hj => h j (by omega))
theorem putAll_put {vs : Nat → Value} {d : Tmp} {v : Value} : ∀ (l : List Oper) (k : Nat) (a : Act), (l.all fun x => x.dst != some d) = true → (putAll vs k l a).put (some d) v = putAll vs k l (a.put (some d) v)
  | [], _, _, _ => rfl
  | o :: r, k, a, h => by
    rw [List.all_cons, Bool.and_eq_true] at h
    unfold putAll
    rw [putAll_put r (k + 1) _ h.2]
    congr 1
    refine Act.put_comm a _ _ (fun d' hd hd' => ?_)
    have := h.1
    rw [hd] at this
    cases hd'
    simp at this
theorem putAll_upd {vs : Nat → Value} {v : Value} : ∀ (l : List Oper) (k i : Nat) (a : Act) (o : Oper), noDup l = true → l[i]? = some o → (putAll vs k l a).put o.dst v = putAll (updV vs (k + i) v) k l a
  | [], _, _, _, _, _, h => by simp at h
  | x :: r, k, 0, a, o, hn, h => by
    simp at h
    subst h
    unfold noDup at hn
    rw [Bool.and_eq_true] at hn
    unfold putAll
    have e : updV vs (k + 0) v k = v := by simp [updV]
    rw [e]
    have e2 : ∀ a', putAll vs (k + 1) r a' = putAll (updV vs (k + 0) v) (k + 1) r a' := fun a' => putAll_congr r (k + 1) a' (fun j hj => by unfold updV; rw [if_neg (by omega)])
    cases hd : x.dst with
    | none => rw [show a.put none (vs k) = a from rfl, show a.put none v = a from rfl, ← e2]; rfl
    | some d =>
      have hr := hn.1
      rw [hd] at hr
      rw [putAll_put r (k + 1) _ hr, put_put_same, e2]
  | x :: r, k, i + 1, a, o, hn, h => by
    unfold noDup at hn
    rw [Bool.and_eq_true] at hn
    unfold putAll
    have e : updV vs (k + (i + 1)) v k = vs k := by unfold updV; rw [if_neg (by omega)]
    rw [e, putAll_upd r (k + 1) i _ o hn.2 (by simpa using h), show k + 1 + i = k + (i + 1) by omega]
theorem edges_at : ∀ (l : List Oper) (k i : Nat) (o : Oper), edgesB k l = true → l[i]? = some o → ∀ e ∈ o.after, Region.binds .any e = true → e.on < k + i
  | [], _, _, _, _, h => by simp at h
  | x :: r, k, 0, o, hb, h => by
    simp at h
    subst h
    unfold edgesB at hb
    rw [Bool.and_eq_true, Array.all_eq_true_iff_forall_mem] at hb
    intro e he hbd
    have := hb.1 e he
    rw [hbd] at this
    simp at this
    omega
  | x :: r, k, i + 1, o, hb, h => by
    unfold edgesB at hb
    rw [Bool.and_eq_true] at hb
    intro e he hbd
    have := edges_at r (k + 1) i o hb.2 (by simpa using h) e he hbd
    omega

theorem all_listed {listed : Array Bool} (he : edgesB 0 l = true) (hs : listed.size = l.length) (hr : Region.ready .any l.toArray listed = []) : ∀ i, i < l.length → listed.getD i true = true := by
  intro i
  induction i using Nat.strongRecOn with
  | _ i ih =>
    intro hi
    cases hl : listed.getD i true with
    | true => rfl
    | false =>
      exfalso
      have : i ∈ Region.ready .any l.toArray listed := mem_ready.2 ⟨hl, l[i], by simp [hi], fun e hm hb => by
        have hlt := edges_at l 0 i _ he (List.getElem?_eq_getElem hi) e hm hb
        have := ih e.on (by omega) (by omega)
        have hlt2 : e.on < listed.size := by omega
        simpa [hlt2] using this⟩
      rw [hr] at this
      cases this
def falses (listed : Array Bool) : Nat := listed.toList.countP (fun b => !b)
theorem falses_set {listed : Array Bool} {i : Nat} (h : listed.getD i true = false) : falses listed = falses (listed.setIfInBounds i true) + 1 := by
  unfold falses
  rw [Array.toList_setIfInBounds]
  have hi : i < listed.toList.length := by
    rcases Nat.lt_or_ge i listed.size with h' | h'
    · simpa using h'
    · simp [Array.getElem?_eq_none h'] at h
  have hv : listed.toList[i]? = some false := by
    have : i < listed.size := by simpa using hi
    simp [this] at h
    simp [this, h]
  have e := List.take_append_drop i listed.toList
  have hset : listed.toList.set i true = listed.toList.take i ++ true :: listed.toList.drop (i + 1) := by
    rw [List.set_eq_take_append_cons_drop, if_pos hi]
  have hold : listed.toList = listed.toList.take i ++ false :: listed.toList.drop (i + 1) := by
    conv => lhs; rw [← e]
    rw [drop_get hv]
  rw [hset]
  conv => lhs; rw [hold]
  simp [List.countP_append]
  omega

theorem wpAny_grow (hn : noDup l = true) (he : edgesB 0 l = true) (stable : ∀ i v w w', R i v w → Below w.heap.size w w' → R i v w')
    (step : ∀ (vs : Nat → Value) (w : World) (i : Nat) (o : Oper), Below w0.heap.size w0 w → l[i]? = some o → (∀ e ∈ o.after, Region.binds .any e = true → R e.on (vs e.on) w) →
      if Region.wanted o (yielded l.toArray (putAll vs 0 l a0).tmps) = true then o.wp P (putAll vs 0 l a0) w (fun a' w' => ∃ v, a' = (putAll vs 0 l a0).put o.dst v ∧ R i v w' ∧ Below w.heap.size w w') Q else R i undef w)
    (fin : ∀ (vs : Nat → Value) (w : World), Below w0.heap.size w0 w → (∀ i, i < l.length → R i (vs i) w) → Q .normal (putAll vs 0 l a0) w) :
    ∀ (fuel : Nat) (listed : Array Bool) (vs : Nat → Value) (w : World), listed.size = l.length → falses listed = fuel → (∀ i, listed.getD i false = true → R i (vs i) w) → Below w0.heap.size w0 w →
      wpAny P .any l.toArray Q fuel listed (putAll vs 0 l a0) w := by
  have done : ∀ (listed : Array Bool) (vs : Nat → Value) (w : World), listed.size = l.length → (∀ i, listed.getD i false = true → R i (vs i) w) → Below w0.heap.size w0 w → Region.ready .any l.toArray listed = [] → Q .normal (putAll vs 0 l a0) w := by
    intro listed vs w hs hR hb hr
    refine fin vs w hb (fun i hi => hR i ?_)
    have := all_listed he hs hr i hi
    have hlt : i < listed.size := by omega
    simpa [hlt] using this
  intro fuel
  induction fuel with
  | zero =>
    intro listed vs w hs hf hR hb
    have hr : Region.ready .any l.toArray listed = [] := by
      cases hq : Region.ready .any l.toArray listed with
      | nil => rfl
      | cons x xs =>
        exfalso
        have hx : x ∈ Region.ready .any l.toArray listed := by rw [hq]; simp
        have := falses_set (mem_ready.1 hx).1
        omega
    exact ⟨hr, done listed vs w hs hR hb hr⟩
  | succ fuel ih =>
    intro listed vs w hs hf hR hb
    refine ⟨done listed vs w hs hR hb, fun i hi => ?_⟩
    obtain ⟨h0, o, ho, hall⟩ := mem_ready.1 hi
    have ho' : l[i]? = some o := by simpa using ho
    have hst := step vs w i o hb ho' (fun e hm hbd => hR e.on (hall e hm hbd))
    have next : ∀ (v : Value) (w' : World), R i v w' → Below w.heap.size w w' → wpAny P .any l.toArray Q fuel (listed.setIfInBounds i true) ((putAll vs 0 l a0).put o.dst v) w' := by
      intro v w' hv hbw
      rw [putAll_upd l 0 i a0 o hn ho', Nat.zero_add]
      refine ih _ _ _ (by simpa using hs) (by have := falses_set h0; omega) (fun j hj => ?_) (hb.trans (hbw.mono hb.size))
      by_cases hji : j = i
      · subst hji; simpa [updV] using hv
      · rw [getD_set_ne false (Ne.symm hji)] at hj
        unfold updV
        rw [if_neg hji]
        exact stable j _ w w' (hR j hj) hbw
    unfold wpOp
    simp only [ho]
    split
    · rename_i hw
      rw [if_pos hw] at hst
      exact .inl (Oper.wp_mono (fun a' w' ⟨v, ha, hv, hbw⟩ => by rw [ha]; exact next v w' hv hbw) hst)
    · rename_i hw
      rw [if_neg hw] at hst
      exact next undef w hst (Below.refl _ _)
theorem putAll_self : ∀ (l : List Oper) (k : Nat), ∃ vs : Nat → Value, putAll vs k l a0 = a0
  | [], k => ⟨fun _ => undef, rfl⟩
  | o :: r, k => by
    obtain ⟨vs, h⟩ := putAll_self r (k + 1)
    refine ⟨updV vs k (match o.dst with | some d => a0.tmps.getD d undef | none => undef), ?_⟩
    unfold putAll
    have e : a0.put o.dst (updV vs k (match o.dst with | some d => a0.tmps.getD d undef | none => undef) k) = a0 := by
      cases hd : o.dst with
      | none => rfl
      | some d =>
        unfold Act.put updV
        simp only [if_true]
        have : a0.tmps.setIfInBounds d (a0.tmps.getD d undef) = a0.tmps := by
          apply Array.ext_getElem?
          intro j
          by_cases hj : d = j
          · subst hj
            rw [Array.getElem?_setIfInBounds]
            rcases Nat.lt_or_ge d a0.tmps.size with h' | h'
            · simp [h']
            · simp [Array.getElem?_eq_none h']; omega
          · rw [Array.getElem?_setIfInBounds_ne hj]
        rw [this]
    rw [e]
    rw [putAll_congr (vs' := vs) r (k + 1) a0 (fun j hj => by unfold updV; rw [if_neg (by omega)])]
    exact h
/-! ### The rule's steps -/
/-- What a step owes. -/
def StepGoal (P : Program) (l : List Oper) (o : Oper) (a : Act) (w : World) (R : Value → World → Prop) (Q : Exit → Act → World → Prop) : Prop :=
  if Region.wanted o (yielded l.toArray a.tmps) = true then o.wp P a w (fun a' w' => ∃ v, a' = a.put o.dst v ∧ R v w' ∧ Below w.heap.size w w') Q else R undef w
theorem step_open {o : Oper} {a : Act} {w : World} {R : Value → World → Prop} (hg : o.guard = none) (h : o.wp P a w (fun a' w' => ∃ v, a' = a.put o.dst v ∧ R v w' ∧ Below w.heap.size w w') Q) : StepGoal P l o a w R Q := by
  unfold StepGoal
  rw [if_pos (by simp [Region.wanted, hg])]
  exact h
theorem step_value {o : Oper} {a : Act} {w : World} {R : Value → World → Prop} {v : Value} (hg : o.guard = none) (hv : (execOp a.eval o).run P w = .ok (.value v) w) (hR : R v w) : StepGoal P l o a w R Q := by
  refine step_open hg ?_
  unfold Oper.wp
  rw [hv]
  exact ⟨v, rfl, hR, Below.refl _ _⟩
/-- The rule. -/
theorem wp_region_grow {id : Nat} (hm : P.follows .mixedOrders = true) (hn : noDup l = true) (he : edgesB 0 l = true) (R : Nat → Value → World → Prop) (stable : ∀ i v w w', R i v w → Below w.heap.size w w' → R i v w')
    (step : ∀ (vs : Nat → Value) (w : World) (i : Nat) (o : Oper), Below w0.heap.size w0 w → l[i]? = some o → (∀ e ∈ o.after, Region.binds .any e = true → R e.on (vs e.on) w) →
      StepGoal P l o (putAll vs 0 l a0) w (R i) Q)
    (fin : ∀ (vs : Nat → Value) (w : World), Below w0.heap.size w0 w → (∀ i, i < l.length → R i (vs i) w) → Q .normal (putAll vs 0 l a0) w) :
    (Code.region id l.toArray true).wp P Q a0 w0 := by
  refine wp_region_any hm ?_
  obtain ⟨vs, h⟩ := putAll_self (a0 := a0) l 0
  have hfl : falses (Array.replicate l.toArray.size false) = l.toArray.size := by simp [falses, List.countP_replicate]
  have := wpAny_grow (w0 := w0) (a0 := a0) hn he stable step fin l.toArray.size (Array.replicate l.toArray.size false) vs { w0 with drawn := w0.drawn + 1 } (by simp) hfl (fun i hi => by
    exfalso
    by_cases h' : i < l.length
    · simp [h'] at hi
    · simp [h'] at hi) ⟨rfl, rfl, rfl, Nat.le_refl _, fun _ _ => rfl⟩
  rw [h] at this
  exact this

/-- Facts that last while memory only grows. -/
def Lasts (p : Value → World → Prop) : Prop := ∀ v w w', p v w → Below w.heap.size w w' → p v w'
def IsV (x : Value) : Value → World → Prop := fun v _ => v = x
theorem lasts_v (x : Value) : Lasts (IsV x) := fun _ _ _ h _ => h
/-- A new slice, known whole. -/
def IsRow (cs : Array Value) (n : Nat) (e : TypeId) : Value → World → Prop := fun v w => ∃ q, v = .slice (some ⟨q, 0, none⟩) n n ∧ w.heap[q]? = some (.cells cs e (0, 0))
theorem lasts_row (cs : Array Value) (n : Nat) (e : TypeId) : Lasts (IsRow cs n e) := fun _ _ _ ⟨q, hv, hq⟩ hb => ⟨q, hv, keep hb hq⟩
def byList (ps : List (Value → World → Prop)) (i : Nat) : Value → World → Prop := (ps[i]?).getD fun _ _ => True
theorem lasts_list {ps : List (Value → World → Prop)} (h : ∀ p ∈ ps, Lasts p) : ∀ i v w w', byList ps i v w → Below w.heap.size w w' → byList ps i v w' := by
  intro i v w w' hv hb
  unfold byList at *
  cases hp : ps[i]? with
  | none => simp
  | some p =>
    rw [hp] at hv
    exact h p (List.mem_of_getElem? hp) v w w' hv hb
end
section
variable {P : Program} {l : List Oper} {Q : Exit → Act → World → Prop}
theorem step_openG {o : Oper} {a : Act} {w : World} {R : Value → World → Prop} (hw : Region.wanted o (yielded l.toArray a.tmps) = true) (h : o.wp P a w (fun a' w' => ∃ v, a' = a.put o.dst v ∧ R v w' ∧ Below w.heap.size w w') Q) : StepGoal P l o a w R Q := by
  unfold StepGoal
  rw [if_pos hw]
  exact h
end
end Go.Proofs.YtoadihebdaooaaaGreat
