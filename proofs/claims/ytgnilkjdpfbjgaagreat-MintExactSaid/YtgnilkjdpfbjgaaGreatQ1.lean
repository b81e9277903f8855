/- Contracts of the small functions that compute with numbers and strings. · Contracts of the kinds' sizes. · Contracts of layout.plan, layout.Check, layout.Of. · General lemmas, for texts over A3: worlds that differ in one block, whole rows. · Data that is told: values, and rows of cells. What memory holds them; rows that grow. -/
import Derived.Test.YtgnilkjdpfbjgaaGreatRows
import Derived.WalkKit
import Derived.WalkSpells
import Derived.WalkLawsBesides
import Derived.Outline
import Derived.Handy
import Derived.Lib.Hide
import Derived.Laws.CopyOwn
import Derived.BigFrame
namespace Go.Proofs.YtgnilkjdpfbjgaaGreat
open Go.RowKit
set_option linter.unusedVariables false
def idB (n : Int) : Bool := decide (1 ≤ n ∧ n ≤ 24)
def sWith (s n : Int) : Int := if idB n then bits BinOp.or IntKind.u32 s (2 ^ n.toNat % 4294967296) else s
def sIs (s : Int) : Bool := bits BinOp.andNot IntKind.u32 s 33554430 == 0
theorem ret_bool {a b : Bool} (h : a = b) : Ending.returned (.bool a) = .returned (.bool b) := by rw [h]
theorem ret_intk {k : IntKind} {a b : Int} (h : a = b) : Ending.returned (.int k a) = .returned (.int k b) := by rw [h]
theorem idB_true {n : Int} (h1 : 1 ≤ n) (h2 : n ≤ 24) : idB n = true := by simp [idB, h1, h2]
theorem idB_false {n : Int} (h : ¬ (1 ≤ n ∧ n ≤ 24)) : idB n = false := by simp [idB]; omega
theorem isId_any (n : Int) (w : World) : Calls Tryz.prog 72 #[.int .i64 n] w fun e w' => e = .returned (.bool (idB n)) ∧ w = w' := by
  by_cases h1 : 1 ≤ n
  · by_cases h2 : n ≤ 24
    · go_enter Tryz.func72, Tryz.ntmps72
      go_wp2
      go_ret
      exact ⟨by simp [idB, h1, h2], rfl⟩
    · go_enter Tryz.func72, Tryz.ntmps72
      go_wp2
      go_ret
      exact ⟨by simp [idB, h2], rfl⟩
  · go_enter Tryz.func72, Tryz.ntmps72
    go_wp2
    go_ret
    exact ⟨by simp [idB]; omega, rfl⟩
theorem with_any (s n : Int) (w : World) (h0 : 0 ≤ s) (hs : s ≤ 4294967295) : Calls Tryz.prog 73 #[.int .u32 s, .int .i64 n] w fun e w' => e = .returned (.int .u32 (sWith s n)) ∧ w = w' := by
  by_cases h : 1 ≤ n ∧ n ≤ 24
  · obtain ⟨h1, h2⟩ := h
    go_enter Tryz.func73, Tryz.ntmps73
    go_wp2
    go_ret
    exact ⟨by simp [sWith, idB_true h1 h2], rfl⟩
  · have hf := Lib.hid (idB_false h)
    rcases (by omega : n < 1 ∨ (1 ≤ n ∧ 24 < n)) with h1 | ⟨h1, h2⟩
    · clear h
      go_enter Tryz.func73, Tryz.ntmps73
      go_wp2
      go_ret
      exact ⟨by simp [sWith, hf.out], rfl⟩
    · clear h
      have hd : decide (n ≤ 24) = false := by simp; omega
      go_enter Tryz.func73, Tryz.ntmps73
      go_wp2
      go_ret
      exact ⟨by simp [sWith, hf.out], rfl⟩
theorem sigIs_any (s : Int) (w : World) (h0 : 0 ≤ s) (hs : s ≤ 4294967295) : Calls Tryz.prog 128 #[.int .u32 s] w fun e w' => e = .returned (.bool (sIs s)) ∧ w = w' := by
  go_enter Tryz.func128, Tryz.ntmps128
  go_wp2
  go_ret
  exact ⟨rfl, rfl⟩
def letB (b : Int) : Bool := decide (97 ≤ b ∧ b ≤ 122)
theorem isLetter_any (b : Int) (w : World) (h0 : 0 ≤ b) (hs : b ≤ 255) : Calls Tryz.prog 120 #[.int .u8 b] w fun e w' => e = .returned (.bool (letB b)) ∧ w = w' := by
  by_cases h1 : 97 ≤ b
  · by_cases h2 : b ≤ 122
    all_goals
      go_enter Tryz.func120, Tryz.ntmps120
      go_wp2
      go_ret
      exact ⟨by simp [letB, h1, h2], rfl⟩
  · go_enter Tryz.func120, Tryz.ntmps120
    go_wp2
    go_ret
    exact ⟨by simp [letB]; omega, rfl⟩
def kindB (k : Int) : Bool := decide (1 ≤ k ∧ k ≤ 10)
theorem isKind_any (k : Int) (w : World) : Calls Tryz.prog 155 #[.int .i64 k] w fun e w' => e = .returned (.bool (kindB k)) ∧ w = w' := by
  by_cases h1 : 1 ≤ k
  · by_cases h2 : k ≤ 10
    all_goals
      go_enter Tryz.func155, Tryz.ntmps155
      go_wp2
      go_ret
      exact ⟨by simp [kindB, h1, h2], rfl⟩
  · go_enter Tryz.func155, Tryz.ntmps155
    go_wp2
    go_ret
    exact ⟨by simp [kindB]; omega, rfl⟩
end Go.Proofs.YtgnilkjdpfbjgaaGreat
namespace Go.Proofs.YtgnilkjdpfbjgaaGreat
open Go.RowKit
set_option linter.unusedVariables false
def shapesObj : Obj := Obj.cells
        #[Value.string { data := #[] }, Value.int IntKind.i64 0, Value.bool false,
          Value.string { data := #[98, 111, 111, 108] }, Value.int IntKind.i64 1, Value.bool false,
          Value.string { data := #[105, 56] }, Value.int IntKind.i64 1, Value.bool true,
          Value.string { data := #[105, 49, 54] }, Value.int IntKind.i64 2, Value.bool true,
          Value.string { data := #[105, 51, 50] }, Value.int IntKind.i64 4, Value.bool true,
          Value.string { data := #[105, 54, 52] }, Value.int IntKind.i64 8, Value.bool true,
          Value.string { data := #[117, 56] }, Value.int IntKind.i64 1, Value.bool false,
          Value.string { data := #[117, 49, 54] }, Value.int IntKind.i64 2, Value.bool false,
          Value.string { data := #[117, 51, 50] }, Value.int IntKind.i64 4, Value.bool false,
          Value.string { data := #[117, 54, 52] }, Value.int IntKind.i64 8, Value.bool false,
          Value.string { data := #[114, 101, 102] }, Value.int IntKind.i64 8, Value.bool false]
        247
set_option maxRecDepth 100000 in
theorem shapes_any (w : World) : Calls Tryz.prog 156 #[] w fun e w' => e = .returned (.slice (some ⟨w.heap.size, 0, none⟩) 11 11) ∧ w.alloc shapesObj = w' := by
  go_enter Tryz.func156, Tryz.ntmps156
  go_wp2
  go_ret
  exact ⟨rfl, rfl⟩
/-- The size of a kind's elements. -/
def kSize (k : Int) : Int := if k = 1 then 1 else if k = 2 then 1 else if k = 3 then 2 else if k = 4 then 4 else if k = 5 then 8 else if k = 6 then 1 else if k = 7 then 2 else if k = 8 then 4 else if k = 9 then 8 else if k = 10 then 8 else 0
theorem kSize_zero {k : Int} (h : ¬ (1 ≤ k ∧ k ≤ 10)) : kSize k = 0 := by unfold kSize; repeat (rw [if_neg (by omega)])
theorem kSize_bd (k : Int) : 0 ≤ kSize k ∧ kSize k ≤ 8 := by unfold kSize; repeat' split <;> omega
theorem kindB_true {k : Int} (h1 : 1 ≤ k) (h2 : k ≤ 10) : kindB k = true := by simp [kindB, h1, h2]
theorem kindB_false {k : Int} (h : ¬ (1 ≤ k ∧ k ≤ 10)) : kindB k = false := by simp [kindB]; omega
theorem shapes_cells (W : World) (k : Int) (h1 : 1 ≤ k) (h2 : k ≤ 10) : ∃ s b, (W.alloc shapesObj).cell? ⟨W.heap.size, k.toNat * 3, none⟩ = some (.string s) ∧
    (W.alloc shapesObj).cell? ⟨W.heap.size, k.toNat * 3 + 1, none⟩ = some (.int .i64 (kSize k)) ∧ (W.alloc shapesObj).cell? ⟨W.heap.size, k.toNat * 3 + 2, none⟩ = some (.bool b) := by
  have h' : k = 1 ∨ k = 2 ∨ k = 3 ∨ k = 4 ∨ k = 5 ∨ k = 6 ∨ k = 7 ∨ k = 8 ∨ k = 9 ∨ k = 10 := by omega
  have hh : (W.alloc shapesObj).heap[W.heap.size]? = some shapesObj := heap_alloc_new W _
  rcases h' with rfl | rfl | rfl | rfl | rfl | rfl | rfl | rfl | rfl | rfl
  all_goals
    apply Exists.intro
    apply Exists.intro
    refine ⟨?_, ?_, ?_⟩
    all_goals (unfold World.cell?; rw [hh]; rfl)
/-- The answer of 'of': a shape of this size. -/
def IsShape (k : Int) (w : World) (e : Ending) (w' : World) : Prop := ∃ s b, e = .returned (.agg #[.string s, .int .i64 (kSize k), .bool b]) ∧ Below w.heap.size w w'
theorem of_any (k : Int) (w : World) : Calls Tryz.prog 149 #[.int .i64 k] w (IsShape k w) := by
  by_cases h : 1 ≤ k ∧ k ≤ 10
  · obtain ⟨h1, h2⟩ := h
    obtain ⟨s, b, c0, c1, c2⟩ := shapes_cells (w.alloc (Obj.cells #[Value.string { data := #[] }, Value.int IntKind.i64 0, Value.bool false] 247)) k h1 h2
    rw [World.size_alloc] at c0 c1 c2
    have hk := kindB_true h1 h2
    go_enter Tryz.func149, Tryz.ntmps149
    go_wp2_with (first | (go_at_call 156; refine (shapes_any _).mono ?_; rintro e w' ⟨rfl, rfl⟩) | (go_at_call 155; refine (isKind_any _ _).mono ?_; rintro e w' ⟨rfl, rfl⟩))
    go_returns
    exact ⟨s, b, rfl, by go_grown⟩
  · have hk := kindB_false h
    have hz := Lib.hid (kSize_zero h)
    go_enter Tryz.func149, Tryz.ntmps149
    go_wp2_with (first | (go_at_call 156; refine (shapes_any _).mono ?_; rintro e w' ⟨rfl, rfl⟩) | (go_at_call 155; refine (isKind_any _ _).mono ?_; rintro e w' ⟨rfl, rfl⟩))
    go_returns
    exact ⟨_, _, by rw [hz.out], by go_grown⟩
end Go.Proofs.YtgnilkjdpfbjgaaGreat
namespace Go.Proofs.YtgnilkjdpfbjgaaGreat
open Go.RowKit
set_option linter.unusedVariables false
theorem fld102_1 (s : ByteArray) (k : Int) (b : Bool) (w : World) : Sem.run Tryz.prog (Instr.field 247 (.agg #[.string s, .int .i64 k, .bool b]) 1) w = .ok (.int .i64 k) w := by kernel_rfl
set_option maxRecDepth 100000 in
theorem size_any (k : Int) (w : World) : Calls Tryz.prog 139 #[.int .i64 k] w fun e w' => e = .returned (.int .i64 (kSize k)) ∧ Below w.heap.size w w' := by
  have hf := fld102_1
  go_enter Tryz.func139, Tryz.ntmps139
  go_wp2_with (go_at_call 149; refine (of_any _ _).mono ?_; rintro e w' ⟨s, b, rfl, hb⟩)
  go_ret
  exact ⟨rfl, by assumption⟩
def upF (a s : Int) : Int := wrap64 (wrap64 ((wrap64 (wrap64 (a + s) - 1)).tdiv s) * s)
theorem up_any (a s : Int) (w : World) (h : 1 ≤ s) : Calls Tryz.prog 150 #[.int .i64 a, .int .i64 s] w fun e w' => e = .returned (.int .i64 (upF a s)) ∧ w = w' := by
  go_enter Tryz.func150, Tryz.ntmps150
  go_wp2
  go_ret
  exact ⟨rfl, rfl⟩
structure Fld where
  name : ByteArray
  kind : Int
  count : Int
/-- A slice of fields that lies below block B. -/
def FieldsAt (B : Nat) (w : World) (a : Option Addr) (len : Nat) (fs : List Fld) : Prop :=
  fs.length = len ∧ len ≤ maxLen ∧ (len = 0 ∨ ∃ b off, a = some ⟨b, off, none⟩ ∧ b < B ∧ ∀ (i : Nat) (f : Fld), fs[i]? = some f →
    w.cell? ⟨b, off + i * 3, none⟩ = some (.string f.name) ∧ w.cell? ⟨b, off + i * 3 + 1, none⟩ = some (.int .i64 f.kind) ∧ w.cell? ⟨b, off + i * 3 + 2, none⟩ = some (.int .i64 f.count))
theorem FieldsAt.below {B : Nat} {w w' : World} {a : Option Addr} {len : Nat} {fs : List Fld} (h : FieldsAt B w a len fs) (hb : Below B w w') : FieldsAt B w' a len fs := by
  obtain ⟨h1, h2, h3⟩ := h
  refine ⟨h1, h2, ?_⟩
  rcases h3 with h3 | ⟨b, off, ha, hB, hc⟩
  · exact .inl h3
  · refine .inr ⟨b, off, ha, hB, fun i f hf => ?_⟩
    obtain ⟨c0, c1, c2⟩ := hc i f hf
    exact ⟨(hb.cell (p := ⟨b, off + i * 3, none⟩) hB).trans c0, (hb.cell (p := ⟨b, off + i * 3 + 1, none⟩) hB).trans c1, (hb.cell (p := ⟨b, off + i * 3 + 2, none⟩) hB).trans c2⟩
def planStep (p : List Int × Int × Int) (f : Fld) : List Int × Int × Int :=
  (p.1 ++ [upF p.2.1 (kSize f.kind)], wrap64 (upF p.2.1 (kSize f.kind) + wrap64 (kSize f.kind * f.count)), max p.2.2 (kSize f.kind))
def planF (fs : List Fld) : List Int × Int × Int := fs.foldl planStep ([], 0, 1)
def planSize (fs : List Fld) : Int := upF (planF fs).2.1 (planF fs).2.2
theorem planF_snoc (fs : List Fld) (f : Fld) : planF (fs ++ [f]) = planStep (planF fs) f := by simp [planF]
theorem foldl_len (fs : List Fld) : ∀ p : List Int × Int × Int, (fs.foldl planStep p).1.length = p.1.length + fs.length := by
  induction fs with
  | nil => intro p; simp
  | cons f r ih => intro p; rw [List.foldl_cons, ih]; simp [planStep]; omega
theorem planF_len (fs : List Fld) : (planF fs).1.length = fs.length := by simp [planF, foldl_len]
theorem foldl_most (fs : List Fld) : ∀ p : List Int × Int × Int, 1 ≤ p.2.2 → 1 ≤ (fs.foldl planStep p).2.2 := by
  induction fs with
  | nil => intro p h; simpa using h
  | cons f r ih => intro p h; rw [List.foldl_cons]; exact ih _ (by simp only [planStep]; omega)
theorem planF_most (fs : List Fld) : 1 ≤ (planF fs).2.2 := foldl_most fs _ (by simp)
theorem take_snoc {α : Type} {l : List α} {k : Nat} {x : α} (h : l[k]? = some x) : l.take (k + 1) = l.take k ++ [x] := by
  rw [List.take_add_one, h]; rfl
theorem halloc (w : World) (o : Obj) (k : Nat) : (w.alloc o).heap[k]? = if k = w.heap.size then some o else w.heap[k]? := by
  show (w.heap.push o)[k]? = _
  rw [Array.getElem?_push]
theorem hset_ne (w : World) (a : Addr) (u : Value) (k : Nat) (h : k ≠ a.block) : (w.setCell a u).heap[k]? = w.heap[k]? := Below.heap_setCell w a u k h
theorem hset (w : World) (b o : Nat) (u : Value) (cs : Array Value) (e : TypeId) (fz : Nat × Nat) (h : w.heap[b]? = some (.cells cs e fz)) : (w.setCell ⟨b, o, none⟩ u).heap[b]? = some (.cells (cs.setIfInBounds o u) e fz) := by
  simp [World.setCell, Array.getElem?_modify, h]
theorem FieldsAt.get {B : Nat} {w w' : World} {a : Option Addr} {len : Nat} {fs : List Fld} (h : FieldsAt B w a len fs) (hb : Below B w w') {k : Nat} (hk : k < len) :
    ∃ b off f, a = some ⟨b, off, none⟩ ∧ b < B ∧ fs[k]? = some f ∧ w'.cell? ⟨b, off + k * 3, none⟩ = some (.string f.name) ∧ w'.cell? ⟨b, off + k * 3 + 1, none⟩ = some (.int .i64 f.kind) ∧ w'.cell? ⟨b, off + k * 3 + 2, none⟩ = some (.int .i64 f.count) := by
  obtain ⟨h1, h2, h3⟩ := h.below hb
  rcases h3 with h3 | ⟨b, off, ha, hB, hc⟩
  · omega
  · have hl : k < fs.length := by omega
    exact ⟨b, off, fs[k], ha, hB, List.getElem?_eq_getElem hl, hc k _ (List.getElem?_eq_getElem hl)⟩
theorem lt_some {w : World} {b : Nat} {o : Obj} (h : w.heap[b]? = some o) : b < w.heap.size := (Array.getElem?_eq_some_iff.1 h).1
/-- A block that was there stays. -/
theorem keep {W w1 : World} {b : Nat} {o : Obj} (hb : Below W.heap.size W w1) (h : W.heap[b]? = some o) : w1.heap[b]? = some o := (hb.block b (lt_some h)).trans h
theorem keepA {W : World} {b : Nat} {o : Obj} (x : Obj) (h : W.heap[b]? = some o) : (W.alloc x).heap[b]? = some o := by rw [halloc, if_neg (by have := lt_some h; omega)]; exact h
theorem grownOf {W w1 : World} (hb : Below W.heap.size W w1) (row : Option Nat) : W.grownBy w1 row := ⟨hb.os, hb.tape, hb.output, hb.size, fun k hk _ => hb.block k hk⟩
theorem keepG {W w1 : World} {b : Nat} {o : Obj} {row : Option Nat} (hg : W.grownBy w1 row) (h : W.heap[b]? = some o) (hn : some b ≠ row) : w1.heap[b]? = some o := (hg.block b (lt_some h) hn).trans h
/-- The cells of a block that is known whole. -/
theorem cell_at {w : World} {b : Nat} {cs : Array Value} {e : TypeId} {fz : Nat × Nat} (h : w.heap[b]? = some (.cells cs e fz)) (o : Nat) : w.cell? ⟨b, o, none⟩ = cs[o]? := by simp [World.cell?, h]
theorem free_at {w : World} {b : Nat} {cs : Array Value} {e : TypeId} (h : w.heap[b]? = some (.cells cs e (0, 0))) (o : Nat) : w.frozen? ⟨b, o, none⟩ = false := by simp [World.frozen?, h]
theorem Tryz.info3 : (Tryz.prog.info? 3).map (fun i => (i.zero, i.size, i.bytes)) = some (some (.int .i64 0), 1, 8) := by kernel_rfl
theorem ownsRow_slice {w : World} {base : Nat} {e : TypeId} {size : Nat} {v : Value} {n : Nat} {xs : List Value} (h : w.ownsRow base e size v n xs) : ∃ a c, v = .slice a n c := by
  rcases h.2 with ⟨rfl, rfl⟩ | ⟨g, cap, cur, rfl, _⟩
  · exact ⟨_, _, rfl⟩
  · exact ⟨_, _, rfl⟩
theorem ownsRow_mono {w : World} {base base' : Nat} {e : TypeId} {size : Nat} {v : Value} {n : Nat} {xs : List Value} (h : w.ownsRow base e size v n xs) (hb : base' ≤ base) : w.ownsRow base' e size v n xs := by
  obtain ⟨h1, h2⟩ := h
  refine ⟨h1, ?_⟩
  rcases h2 with h2 | ⟨g, cap, cur, hv, hg, r⟩
  · exact .inl h2
  · exact .inr ⟨g, cap, cur, hv, Nat.le_trans hb hg, r⟩
/-- The answer of 'plan'. -/
def IsPlan (fs : List Fld) (len : Nat) (w : World) (e : Ending) (w' : World) : Prop :=
  ∃ va vc, e = .returned (.agg #[.int .i64 (planSize fs), .slice va len vc]) ∧ w'.ownsRow w.heap.size 3 1 (.slice va len vc) len ((planF fs).1.map (.int .i64)) ∧ Below w.heap.size w w'
set_option maxRecDepth 100000 in
set_option maxHeartbeats 1000000 in
theorem plan_any (fs : List Fld) (a : Option Addr) (len cap : Nat) (w : World) (hfs : FieldsAt w.heap.size w a len fs) (h8 : len ≤ 8) (hv : ∀ f ∈ fs, 1 ≤ kSize f.kind) :
    Calls Tryz.prog 140 #[.slice a len cap] w (IsPlan fs len w) := by
  obtain ⟨i0, hi, hz0, hz1, hz2⟩ := info_parts Tryz.info3
  have hmx : len ≤ maxLen := hfs.2.1
  go_enter Tryz.func140, Tryz.ntmps140
  go_wp2
  go_loopw [4, 5, 13] (fun e m i wr => ∃ (k : Nat) (va : Option Addr) (vc : Nat), k ≤ len ∧ i = .int .i64 k ∧ e = .int .i64 (planF (fs.take k)).2.1 ∧ m = .int .i64 (planF (fs.take k)).2.2 ∧
      wr.heap[w.heap.size]? = some (.cells #[.int .i64 0, .slice none 0 0] 235 (0, 0)) ∧ wr.heap[w.heap.size + 1]? = some (.cells #[.int .i64 0, .slice va k vc] 235 (0, 0)) ∧
      wr.ownsRow (w.heap.size + 2) 3 1 (.slice va k vc) k ((planF (fs.take k)).1.map (.int .i64)) ∧ Below w.heap.size w wr ∧ w.heap.size + 2 ≤ wr.heap.size)
    (fun _ _ i _ => len - (intOf i).toNat)
  case atStart =>
    refine ⟨0, none, 0, Nat.zero_le _, rfl, rfl, rfl, ?_, ?_, World.ownsRow_nil _ _ _ _, ?_, ?_⟩
    · simp only [halloc, World.size_alloc]; simp
    · simp only [halloc, World.size_alloc]; simp
    · go_grown
    · simp
  case round =>
    obtain ⟨k, va, vc, hk, rfl, rfl, rfl, hr, hp, hown, hbw, hsz⟩ := hrel
    by_cases hlt : k < len
    · obtain ⟨b, off, f, rfl, hB, hf, c0, c1, c2⟩ := hfs.get hbw hlt
      have hsn := Lib.hid (planF_snoc (fs.take k) f)
      have htk := Lib.hid (take_snoc hf)
      have hm1 := planF_most (fs.take k)
      have hv1 := hv f (List.mem_of_getElem? hf)
      have hlen : Hid ((planF (fs.take k)).1.length = k) := Lib.hid (by rw [planF_len, List.length_take]; have := hfs.1; omega)
      generalize planF (fs.take k) = P at *
      obtain ⟨ats, e0, m0⟩ := P
      go_wp2_with fail
      refine (size_any _ _).mono ?_
      rintro e w1 ⟨rfl, hb1⟩
      have hp1 := keep hb1 (keepA _ hp)
      have hr1 := keep hb1 (keepA _ hr)
      have hf1 := keep hb1 (heap_alloc_new wr _)
      have g1 := cell_at hp1 1
      have g2 := free_at hp1 1
      have f2 := cell_at hf1 2
      simp at g1 f2
      have hz1' := hb1.size
      rw [World.size_alloc] at hz1'
      go_wp2_with fail
      refine (up_any _ _ _ (by omega)).mono ?_
      rintro e w' ⟨rfl, rfl⟩
      have hown1 := (((hown.alloc (Obj.cells #[Value.string f.name, Value.int IntKind.i64 f.kind, Value.int IntKind.i64 f.count] 64)).kept (grownOf hb1 none) (by cases (Value.slice va k vc).ownBlock <;> simp)).alloc (.cells #[.int .i64 (upF e0 (kSize f.kind))] 3))
      go_wp2_with (at_builtin; go_loud (refine wpList_append_own _ rfl (.tmp 24) (.tmp 26) 158 rfl (w.heap.size + 2) 3 i0 (.int .i64 0) 1 8 Tryz.underlying158 hi hz0 hz1 hz2 rfl (by decide) (.slice va k vc) k (ats.map (.int .i64)) rfl hown1 ⟨w1.heap.size, 0, none⟩ 1 1 [.int .i64 (upF e0 (kSize f.kind))] rfl rfl ?c1 ?c2 ?c3 ?c4 ?c5 ?_))
      case c1 =>
        intro j u hj
        match j, hj with
        | 0, hj => simp at hj; subst hj; simp [Addr.add]
      case c2 => intro u hu; simp at hu; subst hu; rfl
      case c3 => unfold maxLen; omega
      case c4 => omega
      case c5 => simp; omega
      intro v' w2 hown2 hg2 _
      obtain ⟨va', vc', hv'⟩ := ownsRow_slice hown2
      rw [hv'] at hown2 ⊢
      clear hv'
      have hrow : ∀ x, (Value.slice va k vc).ownBlock = some x → w.heap.size + 2 ≤ x ∧ x < wr.heap.size := hown.lt
      have hp2 := keepG hg2 (keepA _ hp1) (fun e => by have := hrow _ e.symm; omega)
      have hr2 := keepG hg2 (keepA _ hr1) (fun e => by have := hrow _ e.symm; omega)
      have hf2 := keepG hg2 (keepA _ hf1) (fun e => by have := hrow _ e.symm; omega)
      have d0 := cell_at hp2 1
      have d1 := free_at hp2 1
      have d2 := cell_at hf2 2
      simp at d0 d2
      have hbel : Below w.heap.size w w2 := ((((hbw.alloc (by omega) _).trans (hb1.mono (by simp; omega))).alloc (by omega) _).grown hg2 (by simp; omega) (fun x hx => by have := hrow x hx; omega))
      have hsz2 : wr.heap.size + 2 ≤ w2.heap.size := by have := hg2.size; simp at this; omega
      have hset := hset w2 (w.heap.size + 1) 1 (.slice va' (k + 1) vc') _ _ _ hp2
      have hset0 := (hset_ne w2 ⟨w.heap.size + 1, 1, none⟩ (.slice va' (k + 1) vc') w.heap.size (by simp)).trans hr2
      have HS := Lib.hid (And.intro hset hset0)
      have HO := Lib.hid hown2
      clear hp hr hp1 hr1 hf1 hp2 hr2 hf2 hset hset0 hown2 hown1 hrow hb1 hg2 g1 g2 f2
      go_wp2
      go_roundw
      case rel =>
        refine ⟨k + 1, va', vc', by omega, by go_num, ?_, ?_, HS.out.2, by simpa using HS.out.1, ?_, ?_, ?_⟩
        · rw [htk.out, hsn.out]; simp only [planStep]
        · rw [htk.out, hsn.out]; simp only [planStep]
          exact congrArg _ (by rw [Int.max_def]; split <;> split <;> omega)
        · rw [htk.out, hsn.out]; simp only [planStep, List.map_append, List.map_cons, List.map_nil]
          exact ownsRow_setCell_below HO.out (by simp) _
        · exact hbel.setCell (by simp) _
        · simp [World.setCell]; omega
      case measure => simp [intOf]; omega
    · obtain rfl : k = len := by omega
      have ht : fs.take k = fs := List.take_of_length_le (by have := hfs.1; omega)
      rw [ht] at hown ⊢
      clear ht
      have p0 := cell_at hp 0
      have p1 := cell_at hp 1
      have f0 := free_at hp 0
      have r0 := cell_at hr 0
      have r1 := cell_at hr 1
      have f1 := free_at hr 0
      have f2 := free_at hr 1
      simp at p0 p1 r0 r1
      go_wp2_with fail
      refine (up_any _ _ _ (planF_most _)).mono ?_
      rintro e w' ⟨rfl, rfl⟩
      go_wp2
      refine bodyPost_ret (by simp [results, Tryz.results140, go_sem, r0, r1]; try rfl) rfl ?_
      refine ⟨va, vc, rfl, ?_, ?_⟩
      · exact ownsRow_mono (ownsRow_setCell_below (ownsRow_setCell_below (ownsRow_setCell_below hown (by simp) _) (by simp) _) (by simp) _) (by omega)
      · exact ((hbw.setCell (by simp) _).setCell (by simp) _).setCell (by simp) _
end Go.Proofs.YtgnilkjdpfbjgaaGreat
namespace Go.Proofs.YtgnilkjdpfbjgaaGreat
open Go.RowKit
set_option linter.unusedVariables false
theorem below_drewN {B : Nat} {a w : World} (h : Below B a w) : ∀ n, Below B a (w.drewN n) := fun n => ⟨h.os, h.tape, h.output, h.size, h.block⟩
theorem row_block {w : World} {base : Nat} {e : TypeId} {s : Nat} {va : Option Addr} {n vc : Nat} {xs : List Value} (h : w.ownsRow base e s (.slice va n vc) n xs) (h0 : 0 < n) :
    ∃ q, va = some ⟨q, 0, none⟩ ∧ base ≤ q ∧ q < w.heap.size ∧ ∀ (k : Nat) (u : Value), xs[k]? = some u → w.cell? ⟨q, k, none⟩ = some u := by
  rcases h.2 with ⟨hv, h0'⟩ | ⟨q, cap', cur, hv, hg, hh, hc1, hc2, hc3, hc4⟩
  · omega
  · cases hv
    refine ⟨q, rfl, hg, lt_some hh, fun k u hk => ?_⟩
    rw [cell_at hh]
    rw [← hc4, List.getElem?_take] at hk
    split at hk
    · simpa using hk
    · cases hk
theorem ownsRow_ne3 {w : World} {b b' : Nat} {e e' : TypeId} {s s' : Nat} {v v' : Value} {n n' : Nat} {xs xs' : List Value} (h : w.ownsRow b e s v n xs) (h' : w.ownsRow b' e' s' v' n' xs') (hne : e ≠ e') : v.ownBlock = none ∨ v.ownBlock ≠ v'.ownBlock := by
  rcases h.2 with ⟨rfl, _⟩ | ⟨g, cap, cur, rfl, _, hg, _⟩
  · exact .inl rfl
  · refine .inr fun he => ?_
    rcases h'.2 with ⟨rfl, _⟩ | ⟨g', cap', cur', rfl, _, hg', _⟩
    · cases he
    · simp [Value.ownBlock] at he
      subst he
      rw [hg] at hg'
      cases hg'
      exact hne rfl
theorem ownsRow_ne_block3 {w : World} {b : Nat} {e : TypeId} {s : Nat} {v : Value} {n : Nat} {xs : List Value} (h : w.ownsRow b e s v n xs) {g : Nat} {o : Obj} (hg : w.heap[g]? = some o) (hne : ∀ cur, o ≠ .cells cur e (0, 0)) : some g ≠ v.ownBlock := by
  rcases h.2 with ⟨rfl, _⟩ | ⟨g', cap, cur, rfl, _, hg', _⟩
  · simp [Value.ownBlock]
  · intro he
    simp [Value.ownBlock] at he
    subst he
    rw [hg] at hg'
    cases hg'
    exact hne _ rfl
/-- The world is as it was but for one block. -/
structure Only (b : Nat) (w w' : World) : Prop where
  os : w'.os = w.os
  tape : w'.tape = w.tape
  output : w'.output = w.output
  size : w'.heap.size = w.heap.size
  block : ∀ k, k ≠ b → w'.heap[k]? = w.heap[k]?
theorem Only.refl (b : Nat) (w : World) : Only b w w := ⟨rfl, rfl, rfl, rfl, fun _ _ => rfl⟩
theorem Only.trans {b : Nat} {x y z : World} (h : Only b x y) (k : Only b y z) : Only b x z :=
  ⟨k.os.trans h.os, k.tape.trans h.tape, k.output.trans h.output, k.size.trans h.size, fun i hi => (k.block i hi).trans (h.block i hi)⟩
theorem Only.setCell (w : World) (a : Addr) (u : Value) : Only a.block w (w.setCell a u) := ⟨rfl, rfl, rfl, by simp [World.setCell], fun k hk => hset_ne w a u k hk⟩
theorem Only.at (w : World) (b o : Nat) (u : Value) : Only b w (w.setCell ⟨b, o, none⟩ u) := Only.setCell w ⟨b, o, none⟩ u
theorem Only.drew {b : Nat} {x y : World} (h : Only b x y) : Only b x y.drew := ⟨h.os, h.tape, h.output, h.size, h.block⟩
theorem Only.below {b B : Nat} {w w' : World} (h : Only b w w') (hb : B ≤ b) : Below B w w' := ⟨h.os, h.tape, h.output, by rw [h.size]; exact Nat.le_refl _, fun k hk => h.block k (by omega)⟩
theorem keepO {b k : Nat} {w w' : World} {o : Obj} (h : Only b w w') (hk : w.heap[k]? = some o) (hne : k ≠ b) : w'.heap[k]? = some o := (h.block k hne).trans hk
end Go.Proofs.YtgnilkjdpfbjgaaGreat
namespace Go.Proofs.YtgnilkjdpfbjgaaGreat
open Go.RowKit
set_option linter.unusedVariables false
/-- A value, or a row of so many elements, by its cells. -/
inductive Dat
  | v (x : Value)
  | r (n : Nat) (cs : List Dat)
mutual
/-- Memory holds it, in blocks of some types. -/
def At (w : World) (T : Nat → TypeId → Prop) : Dat → Value → Prop
  | .v x, u => u = x
  | .r n cs, u => ∃ a c, u = .slice a n c ∧ n ≤ c ∧ c ≤ maxLen ∧ (cs = [] ∨ ∃ q off cur t fz, a = some ⟨q, off, none⟩ ∧ w.heap[q]? = some (.cells cur t fz) ∧ T q t ∧ AtL w T q off cs)
def AtL (w : World) (T : Nat → TypeId → Prop) (q : Nat) : Nat → List Dat → Prop
  | _, [] => True
  | o, d :: r => (∃ u, w.cell? ⟨q, o, none⟩ = some u ∧ At w T d u) ∧ AtL w T q (o + 1) r
end
theorem AtL.get {w : World} {T : Nat → TypeId → Prop} {q : Nat} : ∀ {l : List Dat} {o : Nat}, AtL w T q o l → ∀ {i : Nat} {d : Dat}, l[i]? = some d → ∃ u, w.cell? ⟨q, o + i, none⟩ = some u ∧ At w T d u
  | [], _, _, _, _, h => by simp at h
  | x :: r, o, h, 0, d, hd => by
    obtain rfl : x = d := by simpa using hd
    unfold AtL at h
    exact h.1
  | x :: r, o, h, i + 1, d, hd => by
    unfold AtL at h
    have := AtL.get h.2 (i := i) (d := d) (by simpa using hd)
    rw [show o + (i + 1) = o + 1 + i by omega]
    exact this
theorem AtL.mk {w : World} {T : Nat → TypeId → Prop} {q : Nat} : ∀ {l : List Dat} {o : Nat}, (∀ i d, l[i]? = some d → ∃ u, w.cell? ⟨q, o + i, none⟩ = some u ∧ At w T d u) → AtL w T q o l
  | [], _, _ => by unfold AtL; trivial
  | x :: r, o, h => by
    unfold AtL
    refine ⟨h 0 x rfl, AtL.mk fun i d hd => ?_⟩
    have := h (i + 1) d (by simpa using hd)
    rw [show o + 1 + i = o + (i + 1) by omega]
    exact this
mutual
theorem At.kept {w w' : World} {T T' : Nat → TypeId → Prop} (hT : ∀ (q : Nat) (cur : Array Value) (t : TypeId) (fz : Nat × Nat), w.heap[q]? = some (.cells cur t fz) → T q t → T' q t) (hk : ∀ (q : Nat) (cur : Array Value) (t : TypeId) (fz : Nat × Nat), w.heap[q]? = some (.cells cur t fz) → T q t → w'.heap[q]? = some (.cells cur t fz)) : ∀ {d : Dat} {u : Value}, At w T d u → At w' T' d u
  | .v x, u, h => by unfold At at h ⊢; exact h
  | .r n cs, u, h => by
    unfold At at h ⊢
    obtain ⟨a, c, hu, h1, h2, h3⟩ := h
    refine ⟨a, c, hu, h1, h2, h3.imp_right ?_⟩
    rintro ⟨q, off, cur, t, fz, ha, hq, ht, hl⟩
    exact ⟨q, off, cur, t, fz, ha, hk q cur t fz hq ht, hT q cur t fz hq ht, AtL.kept hT hk (by rw [hk q cur t fz hq ht, hq]) hl⟩
theorem AtL.kept {w w' : World} {T T' : Nat → TypeId → Prop} (hT : ∀ (q : Nat) (cur : Array Value) (t : TypeId) (fz : Nat × Nat), w.heap[q]? = some (.cells cur t fz) → T q t → T' q t) (hk : ∀ (q : Nat) (cur : Array Value) (t : TypeId) (fz : Nat × Nat), w.heap[q]? = some (.cells cur t fz) → T q t → w'.heap[q]? = some (.cells cur t fz)) {q : Nat} (hq : w'.heap[q]? = w.heap[q]?) : ∀ {l : List Dat} {o : Nat}, AtL w T q o l → AtL w' T' q o l
  | [], _, h => by unfold AtL; trivial
  | x :: r, o, h => by
    unfold AtL at h ⊢
    obtain ⟨⟨u, hu, h1⟩, h2⟩ := h
    exact ⟨⟨u, by unfold World.cell? at hu ⊢; rw [hq]; exact hu, At.kept hT hk h1⟩, AtL.kept hT hk hq h2⟩
end
theorem At.below {w w' : World} {T : Nat → TypeId → Prop} {d : Dat} {u : Value} (h : At w T d u) (hb : Below w.heap.size w w') : At w' T d u :=
  h.kept (fun _ _ _ _ _ h => h) fun q cur t fz hq _ => keep hb hq
theorem At.types {w : World} {T T' : Nat → TypeId → Prop} (hT : ∀ (q : Nat) (cur : Array Value) (t : TypeId) (fz : Nat × Nat), w.heap[q]? = some (.cells cur t fz) → T q t → T' q t) {d : Dat} {u : Value} (h : At w T d u) : At w T' d u :=
  h.kept hT fun q cur t fz hq _ => hq
/-- All of it lies in the world that is. -/
theorem At.in {w : World} {T : Nat → TypeId → Prop} {d : Dat} {u : Value} (h : At w T d u) : At w (fun q t => T q t ∧ q < w.heap.size) d u :=
  h.types fun q cur t fz hq ht => ⟨ht, lt_some hq⟩
/-- Told data below block B. -/
def Bel (B : Nat) : Nat → TypeId → Prop := fun q _ => q < B
theorem At.bel {w w' : World} {B : Nat} {d : Dat} {u : Value} (h : At w (Bel B) d u) (hb : Below B w w') : At w' (Bel B) d u :=
  h.kept (fun _ _ _ _ _ h => h) fun q cur t fz hq hB => (hb.block q hB).trans hq
theorem At.mono {w : World} {B B' : Nat} (hB : B ≤ B') {d : Dat} {u : Value} (h : At w (Bel B) d u) : At w (Bel B') d u :=
  h.types fun q cur t fz hq ht => Nat.lt_of_lt_of_le ht hB
theorem At.all {w : World} {T : Nat → TypeId → Prop} {d : Dat} {u : Value} (h : At w T d u) : At w (Bel w.heap.size) d u :=
  h.types fun q cur t fz hq ht => lt_some hq
/-- Cells one by one. -/
def AtV (w : World) (T : Nat → TypeId → Prop) : List Dat → List Value → Prop
  | [], xs => xs = []
  | d :: r, xs => ∃ u us, xs = u :: us ∧ At w T d u ∧ AtV w T r us
theorem AtV.len {w : World} {T : Nat → TypeId → Prop} : ∀ {ds : List Dat} {xs : List Value}, AtV w T ds xs → xs.length = ds.length
  | [], _, h => by cases h; rfl
  | d :: r, _, h => by obtain ⟨u, us, rfl, _, h⟩ := h; simp [h.len]
theorem AtV.get {w : World} {T : Nat → TypeId → Prop} : ∀ {ds : List Dat} {xs : List Value}, AtV w T ds xs → ∀ {i : Nat} {d : Dat}, ds[i]? = some d → ∃ u, xs[i]? = some u ∧ At w T d u
  | [], _, _, _, _, h => by simp at h
  | d :: r, _, h, 0, x, hx => by
    obtain ⟨u, us, rfl, h1, _⟩ := h
    obtain rfl : d = x := by simpa using hx
    exact ⟨u, rfl, h1⟩
  | d :: r, _, h, i + 1, x, hx => by
    obtain ⟨u, us, rfl, _, h2⟩ := h
    simpa using h2.get (i := i) (by simpa using hx)
theorem AtV.app {w : World} {T : Nat → TypeId → Prop} : ∀ {ds es : List Dat} {xs ys : List Value}, AtV w T ds xs → AtV w T es ys → AtV w T (ds ++ es) (xs ++ ys)
  | [], _, _, _, h, k => by cases h; exact k
  | d :: r, _, _, _, h, k => by
    obtain ⟨u, us, rfl, h1, h2⟩ := h
    exact ⟨u, us ++ _, rfl, h1, h2.app k⟩
theorem AtV.kept {w w' : World} {T T' : Nat → TypeId → Prop} (hT : ∀ (q : Nat) (cur : Array Value) (t : TypeId) (fz : Nat × Nat), w.heap[q]? = some (.cells cur t fz) → T q t → T' q t) (hk : ∀ (q : Nat) (cur : Array Value) (t : TypeId) (fz : Nat × Nat), w.heap[q]? = some (.cells cur t fz) → T q t → w'.heap[q]? = some (.cells cur t fz)) : ∀ {ds : List Dat} {xs : List Value}, AtV w T ds xs → AtV w' T' ds xs
  | [], _, h => h
  | d :: r, _, h => by
    obtain ⟨u, us, rfl, h1, h2⟩ := h
    exact ⟨u, us, rfl, h1.kept hT hk, h2.kept hT hk⟩
theorem atV_v {w : World} {T : Nat → TypeId → Prop} : ∀ (xs : List Value), AtV w T (xs.map .v) xs
  | [] => rfl
  | x :: r => ⟨x, r, rfl, rfl, atV_v r⟩
/-- A row of one's own whose cells are told. -/
structure Own (w : World) (B : Nat) (e : TypeId) (size : Nat) (T : Nat → TypeId → Prop) (u : Value) (n : Nat) (ds : List Dat) : Prop where
  row : ∃ xs, w.ownsRow B e size u n xs ∧ AtV w T ds xs
  ne : ∀ q, ¬ T q e
theorem Own.nil {w : World} {B : Nat} {e : TypeId} {size : Nat} {T : Nat → TypeId → Prop} (h : ∀ q, ¬ T q e) : Own w B e size T (.slice none 0 0) 0 [] := ⟨⟨[], ⟨by simp, .inl ⟨rfl, rfl⟩⟩, rfl⟩, h⟩
theorem row_type1 {w : World} {B : Nat} {e : TypeId} {size : Nat} {u : Value} {n : Nat} {xs : List Value} (h : w.ownsRow B e size u n xs) {q : Nat} (hq : u.ownBlock = some q) : ∃ cur, w.heap[q]? = some (.cells cur e (0, 0)) := by
  rcases h.2 with ⟨rfl, _⟩ | ⟨g, cap, cur, rfl, _, hg, _⟩
  · cases hq
  · cases hq; exact ⟨cur, hg⟩
/-- Its growth. -/
theorem Own.grow {w w' : World} {B : Nat} {e : TypeId} {size : Nat} {T : Nat → TypeId → Prop} {u u' : Value} {n m : Nat} {ds es : List Dat} {xs news : List Value} (hr : w.ownsRow B e size u n xs) (hv : AtV w T ds xs) (ne : ∀ q, ¬ T q e)
    (hg : w.grownBy w' u.ownBlock) (ho : w'.ownsRow B e size u' (n + m) (xs ++ news)) (hn : AtV w T es news) : Own w' B e size T u' (n + m) (ds ++ es) := by
  have hk : ∀ (q : Nat) (cur : Array Value) (t : TypeId) (fz : Nat × Nat), w.heap[q]? = some (.cells cur t fz) → T q t → w'.heap[q]? = some (.cells cur t fz) := by
    intro q cur t fz hq ht
    refine (hg.block q (lt_some hq) fun he => ?_).trans hq
    obtain ⟨cur', hc⟩ := row_type1 hr he.symm
    rw [hc] at hq
    cases hq
    exact ne q ht
  exact ⟨⟨_, ho, (hv.kept (fun _ _ _ _ _ h => h) hk).app (hn.kept (fun _ _ _ _ _ h => h) hk)⟩, ne⟩
theorem Own.kept {w w' : World} {B : Nat} {e : TypeId} {size : Nat} {T : Nat → TypeId → Prop} {u : Value} {n : Nat} {ds : List Dat} (h : Own w B e size T u n ds) (hk : ∀ (q : Nat) (cur : Array Value) (t : TypeId) (fz : Nat × Nat), w.heap[q]? = some (.cells cur t fz) → T q t ∨ t = e → w'.heap[q]? = some (.cells cur t fz)) : Own w' B e size T u n ds := by
  obtain ⟨⟨xs, hr, hv⟩, ne⟩ := h
  refine ⟨⟨xs, ⟨hr.1, hr.2.imp_right ?_⟩, hv.kept (fun _ _ _ _ _ h => h) fun q cur t fz hq ht => hk q cur t fz hq (.inl ht)⟩, ne⟩
  rintro ⟨g, cap, cur, hu, hb, hg, r⟩
  exact ⟨g, cap, cur, hu, hb, hk g cur e (0, 0) hg (.inr rfl), r⟩
theorem Own.below {w w' : World} {B : Nat} {e : TypeId} {size : Nat} {T : Nat → TypeId → Prop} {u : Value} {n : Nat} {ds : List Dat} (h : Own w B e size T u n ds) (hb : Below w.heap.size w w') : Own w' B e size T u n ds :=
  h.kept fun q cur t fz hq _ => keep hb hq
theorem Own.at {w : World} {B : Nat} {e : TypeId} {size : Nat} {T : Nat → TypeId → Prop} {u : Value} {n : Nat} {ds : List Dat} (h : Own w B e size T u n ds) {T' : Nat → TypeId → Prop} (hT : ∀ q t, q < w.heap.size → T q t ∨ t = e → T' q t) : At w T' (.r n ds) u := by
  obtain ⟨⟨xs, hr, hv⟩, ne⟩ := h
  unfold At
  have hlen := hr.1
  rcases hr.2 with ⟨rfl, h0⟩ | ⟨g, cap, cur, rfl, hb, hg, hc1, hc2, hc3, hc4⟩
  · subst h0
    refine ⟨none, 0, rfl, Nat.le_refl _, Nat.zero_le _, .inl ?_⟩
    have := hv.len
    rw [hlen, Nat.zero_mul] at this
    exact List.eq_nil_of_length_eq_zero this.symm
  · refine ⟨_, cap, rfl, hc1, hc2, .inr ⟨g, 0, cur, e, (0, 0), rfl, hg, hT g e (lt_some hg) (.inr rfl), AtL.mk fun i d hd => ?_⟩⟩
    obtain ⟨x, hx, hx2⟩ := hv.get hd
    refine ⟨x, ?_, hx2.types fun q cur t fz hq ht => hT q t (lt_some hq) (.inl ht)⟩
    rw [Nat.zero_add]
    have hi : i < n * size := by rw [← hlen]; exact (List.getElem?_eq_some_iff.1 hx).1
    rw [← hc4, List.getElem?_take_of_lt hi] at hx
    unfold World.cell?
    rw [hg]
    simpa using hx
/-- An element of a told row: its block, its cells. -/
theorem At.row {w : World} {T : Nat → TypeId → Prop} {n : Nat} {cs : List Dat} {u : Value} (h : At w T (.r n cs) u) : ∃ a c, u = .slice a n c ∧ n ≤ c ∧ c ≤ maxLen ∧ (0 < cs.length → ∃ q off, a = some ⟨q, off, none⟩ ∧ q < w.heap.size ∧ ∀ i d, cs[i]? = some d → ∃ x, w.cell? ⟨q, off + i, none⟩ = some x ∧ At w T d x) := by
  unfold At at h
  obtain ⟨a, c, hu, h1, h2, h3⟩ := h
  refine ⟨a, c, hu, h1, h2, fun h0 => ?_⟩
  rcases h3 with rfl | ⟨q, off, cur, t, fz, ha, hq, _, hl⟩
  · simp at h0
  · exact ⟨q, off, ha, lt_some hq, fun i d hd => hl.get hd⟩
theorem flat_at {α : Type} (f : α → List Dat) (s : Nat) (hs : ∀ x, (f x).length = s) : ∀ (l : List α) (k : Nat) (x : α), l[k]? = some x → ∀ j, j < s → (l.flatMap f)[k * s + j]? = (f x)[j]?
  | [], _, _, h, _, _ => by simp at h
  | y :: r, 0, x, h, j, hj => by
    obtain rfl : y = x := by simpa using h
    simp only [List.flatMap_cons, Nat.zero_mul, Nat.zero_add]
    rw [List.getElem?_append_left (by rw [hs]; exact hj)]
  | y :: r, k + 1, x, h, j, hj => by
    simp only [List.flatMap_cons]
    rw [List.getElem?_append_right (by rw [hs, Nat.succ_mul]; omega), hs, show (k + 1) * s + j - s = k * s + j by rw [Nat.succ_mul]; omega]
    exact flat_at f s hs r k x (by simpa using h) j hj
end Go.Proofs.YtgnilkjdpfbjgaaGreat
