/- Contracts of layout.plan, layout.Check, layout.Of. -/
import Derived.Test.YtoadihebdaooaaaGreatA2
namespace Go.Proofs.YtoadihebdaooaaaGreat
open Go.RowKit
set_option linter.unusedVariables false
theorem fld102_1 (s : ByteArray) (k : Int) (b : Bool) (w : World) : Sem.run Tryz.prog (Instr.field 241 (.agg #[.string s, .int .i64 k, .bool b]) 1) w = .ok (.int .i64 k) w := by kernel_rfl
set_option maxRecDepth 100000 in
theorem size_any (k : Int) (w : World) : Calls Tryz.prog 123 #[.int .i64 k] w fun e w' => e = .returned (.int .i64 (kSize k)) ∧ Below w.heap.size w w' := by
  have hf := fld102_1
  go_enter Tryz.func123, Tryz.ntmps123
  go_wp2_with (go_at_call 147; refine (of_any _ _).mono ?_; rintro e w' ⟨s, b, rfl, hb⟩)
  go_ret
  exact ⟨rfl, by assumption⟩
def upF (a s : Int) : Int := wrap64 (wrap64 ((wrap64 (wrap64 (a + s) - 1)).tdiv s) * s)
theorem up_any (a s : Int) (w : World) (h : 1 ≤ s) : Calls Tryz.prog 137 #[.int .i64 a, .int .i64 s] w fun e w' => e = .returned (.int .i64 (upF a s)) ∧ w = w' := by
  go_enter Tryz.func137, Tryz.ntmps137
  go_wp2
  go_ret
  exact ⟨rfl, rfl⟩

structure Fld where
  name : ByteArray
  kind : Int
  count : Int

/-- A slice of fields that lies below block B. -/
def FieldsAt (B : Nat) (w : World) (a : Option Addr) (len : Nat) (fs : List Fld) : Prop :=
  fs.length = len ∧ len ≤ maxLen ∧ (len = 0 ∨ ∃ b off, a = some ⟨b, off, none⟩ ∧ b < B ∧ ∀ (i : Nat) (f : Fld), fs[i]? = some f →
    w.cell? ⟨b, off + i * 3, none⟩ = some (.string f.name) ∧ w.cell? ⟨b, off + i * 3 + 1, none⟩ = some (.int .i64 f.kind) ∧ w.cell? ⟨b, off + i * 3 + 2, none⟩ = some (.int .i64 f.count))

theorem FieldsAt.below {B : Nat} {w w' : World} {a : Option Addr} {len : Nat} {fs : List Fld} (h : FieldsAt B w a len fs) (hb : Below B w w') : FieldsAt B w' a len fs := by
  obtain ⟨h1, h2, h3⟩ := h
  refine ⟨h1, h2, ?_⟩
  rcases h3 with h3 | ⟨b, off, ha, hB, hc⟩
  · exact .inl h3
  · refine .inr ⟨b, off, ha, hB, fun i f hf => ?_⟩
    obtain ⟨c0, c1, c2⟩ := hc i f hf
    exact ⟨(hb.cell (p := ⟨b, off + i * 3, none⟩) hB).trans c0, (hb.cell (p := ⟨b, off + i * 3 + 1, none⟩) hB).trans c1, (hb.cell (p := ⟨b, off + i * 3 + 2, none⟩) hB).trans c2⟩

def planStep (p : List Int × Int × Int) (f : Fld) : List Int × Int × Int :=
  (p.1 ++ [upF p.2.1 (kSize f.kind)], wrap64 (upF p.2.1 (kSize f.kind) + wrap64 (kSize f.kind * f.count)), max p.2.2 (kSize f.kind))
def planF (fs : List Fld) : List Int × Int × Int := fs.foldl planStep ([], 0, 1)
def planSize (fs : List Fld) : Int := upF (planF fs).2.1 (planF fs).2.2
theorem planF_snoc (fs : List Fld) (f : Fld) : planF (fs ++ [f]) = planStep (planF fs) f := by simp [planF]
theorem foldl_len (fs : List Fld) : ∀ p : List Int × Int × Int, (fs.foldl planStep p).1.length = p.1.length + fs.length := by
  induction fs with
  | nil => intro p; simp
  | cons f r ih => intro p; rw [List.foldl_cons, ih]; simp [planStep]; omega
theorem planF_len (fs : List Fld) : (planF fs).1.length = fs.length := by simp [planF, foldl_len]
theorem foldl_most (fs : List Fld) : ∀ p : List Int × Int × Int, 1 ≤ p.2.2 → 1 ≤ (fs.foldl planStep p).2.2 := by
  induction fs with
  | nil => intro p h; simpa using h
  | cons f r ih => intro p h; rw [List.foldl_cons]; exact ih _ (by simp only [planStep]; omega)
theorem planF_most (fs : List Fld) : 1 ≤ (planF fs).2.2 := foldl_most fs _ (by simp)
theorem take_snoc {α : Type} {l : List α} {k : Nat} {x : α} (h : l[k]? = some x) : l.take (k + 1) = l.take k ++ [x] := by
  rw [List.take_add_one, h]; rfl

theorem bcell {W w1 : World} (hb : Below W.heap.size W w1) : (∀ b o, b < W.heap.size → w1.cell? ⟨b, o, none⟩ = W.cell? ⟨b, o, none⟩) ∧ (∀ b o, b < W.heap.size → w1.frozen? ⟨b, o, none⟩ = W.frozen? ⟨b, o, none⟩) :=
  ⟨fun b o h => hb.cell (p := ⟨b, o, none⟩) h, fun b o h => hb.frozen (p := ⟨b, o, none⟩) h⟩
theorem halloc (w : World) (o : Obj) (k : Nat) : (w.alloc o).heap[k]? = if k = w.heap.size then some o else w.heap[k]? := by
  show (w.heap.push o)[k]? = _
  rw [Array.getElem?_push]
theorem hset_ne (w : World) (a : Addr) (u : Value) (k : Nat) (h : k ≠ a.block) : (w.setCell a u).heap[k]? = w.heap[k]? := Below.heap_setCell w a u k h
theorem hset (w : World) (b o : Nat) (u : Value) (cs : Array Value) (e : TypeId) (fz : Nat × Nat) (h : w.heap[b]? = some (.cells cs e fz)) : (w.setCell ⟨b, o, none⟩ u).heap[b]? = some (.cells (cs.setIfInBounds o u) e fz) := by
  simp [World.setCell, Array.getElem?_modify, h]
theorem FieldsAt.get {B : Nat} {w w' : World} {a : Option Addr} {len : Nat} {fs : List Fld} (h : FieldsAt B w a len fs) (hb : Below B w w') {k : Nat} (hk : k < len) :
    ∃ b off f, a = some ⟨b, off, none⟩ ∧ b < B ∧ fs[k]? = some f ∧ w'.cell? ⟨b, off + k * 3, none⟩ = some (.string f.name) ∧ w'.cell? ⟨b, off + k * 3 + 1, none⟩ = some (.int .i64 f.kind) ∧ w'.cell? ⟨b, off + k * 3 + 2, none⟩ = some (.int .i64 f.count) := by
  obtain ⟨h1, h2, h3⟩ := h.below hb
  rcases h3 with h3 | ⟨b, off, ha, hB, hc⟩
  · omega
  · have hl : k < fs.length := by omega
    exact ⟨b, off, fs[k], ha, hB, List.getElem?_eq_getElem hl, hc k _ (List.getElem?_eq_getElem hl)⟩
theorem lt_some {w : World} {b : Nat} {o : Obj} (h : w.heap[b]? = some o) : b < w.heap.size := (Array.getElem?_eq_some_iff.1 h).1
/-- A block that was there stays. -/
theorem keep {W w1 : World} {b : Nat} {o : Obj} (hb : Below W.heap.size W w1) (h : W.heap[b]? = some o) : w1.heap[b]? = some o := (hb.block b (lt_some h)).trans h
theorem keepA {W : World} {b : Nat} {o : Obj} (x : Obj) (h : W.heap[b]? = some o) : (W.alloc x).heap[b]? = some o := by rw [halloc, if_neg (by have := lt_some h; omega)]; exact h
theorem grownOf {W w1 : World} (hb : Below W.heap.size W w1) (row : Option Nat) : W.grownBy w1 row := ⟨hb.os, hb.tape, hb.output, hb.size, fun k hk _ => hb.block k hk⟩
theorem keepG {W w1 : World} {b : Nat} {o : Obj} {row : Option Nat} (hg : W.grownBy w1 row) (h : W.heap[b]? = some o) (hn : some b ≠ row) : w1.heap[b]? = some o := (hg.block b (lt_some h) hn).trans h
/-- The cells of a block that is known whole. -/
theorem cell_at {w : World} {b : Nat} {cs : Array Value} {e : TypeId} {fz : Nat × Nat} (h : w.heap[b]? = some (.cells cs e fz)) (o : Nat) : w.cell? ⟨b, o, none⟩ = cs[o]? := by simp [World.cell?, h]
theorem free_at {w : World} {b : Nat} {cs : Array Value} {e : TypeId} (h : w.heap[b]? = some (.cells cs e (0, 0))) (o : Nat) : w.frozen? ⟨b, o, none⟩ = false := by simp [World.frozen?, h]
theorem Tryz.info3 : (Tryz.prog.info? 3).map (fun i => (i.zero, i.size, i.bytes)) = some (some (.int .i64 0), 1, 8) := by kernel_rfl

theorem ownsRow_slice {w : World} {base : Nat} {e : TypeId} {size : Nat} {v : Value} {n : Nat} {xs : List Value} (h : w.ownsRow base e size v n xs) : ∃ a c, v = .slice a n c := by
  rcases h.2 with ⟨rfl, rfl⟩ | ⟨g, cap, cur, rfl, _⟩
  · exact ⟨_, _, rfl⟩
  · exact ⟨_, _, rfl⟩

theorem ownsRow_mono {w : World} {base base' : Nat} {e : TypeId} {size : Nat} {v : Value} {n : Nat} {xs : List Value} (h : w.ownsRow base e size v n xs) (hb : base' ≤ base) : w.ownsRow base' e size v n xs := by
  obtain ⟨h1, h2⟩ := h
  refine ⟨h1, ?_⟩
  rcases h2 with h2 | ⟨g, cap, cur, hv, hg, r⟩
  · exact .inl h2
  · exact .inr ⟨g, cap, cur, hv, Nat.le_trans hb hg, r⟩
/-- The answer of 'plan'. -/
def IsPlan (fs : List Fld) (len : Nat) (w : World) (e : Ending) (w' : World) : Prop :=
  ∃ va vc, e = .returned (.agg #[.int .i64 (planSize fs), .slice va len vc]) ∧ w'.ownsRow w.heap.size 3 1 (.slice va len vc) len ((planF fs).1.map (.int .i64)) ∧ Below w.heap.size w w'
set_option maxRecDepth 100000 in
set_option maxHeartbeats 1000000 in
theorem plan_any (fs : List Fld) (a : Option Addr) (len cap : Nat) (w : World) (hfs : FieldsAt w.heap.size w a len fs) (h8 : len ≤ 8) (hv : ∀ f ∈ fs, 1 ≤ kSize f.kind) :
    Calls Tryz.prog 104 #[.slice a len cap] w (IsPlan fs len w) := by
  obtain ⟨i0, hi, hz0, hz1, hz2⟩ := info_parts Tryz.info3
  have hmx : len ≤ maxLen := hfs.2.1
  go_enter Tryz.func104, Tryz.ntmps104
  go_wp2
  go_loopw [4, 5, 13] (fun e m i wr => ∃ (k : Nat) (va : Option Addr) (vc : Nat), k ≤ len ∧ i = .int .i64 k ∧ e = .int .i64 (planF (fs.take k)).2.1 ∧ m = .int .i64 (planF (fs.take k)).2.2 ∧
      wr.heap[w.heap.size]? = some (.cells #[.int .i64 0, .slice none 0 0] 154 (0, 0)) ∧ wr.heap[w.heap.size + 1]? = some (.cells #[.int .i64 0, .slice va k vc] 154 (0, 0)) ∧
      wr.ownsRow (w.heap.size + 2) 3 1 (.slice va k vc) k ((planF (fs.take k)).1.map (.int .i64)) ∧ Below w.heap.size w wr ∧ w.heap.size + 2 ≤ wr.heap.size)
    (fun _ _ i _ => len - (intOf i).toNat)
  case atStart =>
    refine ⟨0, none, 0, Nat.zero_le _, rfl, rfl, rfl, ?_, ?_, World.ownsRow_nil _ _ _ _, ?_, ?_⟩
    · simp only [halloc, World.size_alloc]; simp
    · simp only [halloc, World.size_alloc]; simp
    · go_grown
    · simp
  case round =>
    obtain ⟨k, va, vc, hk, rfl, rfl, rfl, hr, hp, hown, hbw, hsz⟩ := hrel
    by_cases hlt : k < len
    · obtain ⟨b, off, f, rfl, hB, hf, c0, c1, c2⟩ := hfs.get hbw hlt
      have hsn := Lib.hid (planF_snoc (fs.take k) f)
      have htk := Lib.hid (take_snoc hf)
      have hm1 := planF_most (fs.take k)
      have hv1 := hv f (List.mem_of_getElem? hf)
      have hlen : Hid ((planF (fs.take k)).1.length = k) := Lib.hid (by rw [planF_len, List.length_take]; have := hfs.1; omega)
      generalize planF (fs.take k) = P at *
      obtain ⟨ats, e0, m0⟩ := P
      go_wp2_with fail
      refine (size_any _ _).mono ?_
      rintro e w1 ⟨rfl, hb1⟩
      have hp1 := keep hb1 (keepA _ hp)
      have hr1 := keep hb1 (keepA _ hr)
      have hf1 := keep hb1 (heap_alloc_new wr _)
      have g1 := cell_at hp1 1
      have g2 := free_at hp1 1
      have f2 := cell_at hf1 2
      simp at g1 f2
      have hz1' := hb1.size
      rw [World.size_alloc] at hz1'
      go_wp2_with fail
      refine (up_any _ _ _ (by omega)).mono ?_
      rintro e w' ⟨rfl, rfl⟩
      have hown1 := (((hown.alloc (Obj.cells #[Value.string f.name, Value.int IntKind.i64 f.kind, Value.int IntKind.i64 f.count] 123)).kept (grownOf hb1 none) (by cases (Value.slice va k vc).ownBlock <;> simp)).alloc (.cells #[.int .i64 (upF e0 (kSize f.kind))] 3))
      go_wp2_with (at_builtin; go_loud (refine wpList_append_own _ rfl (.tmp 24) (.tmp 26) 95 rfl (w.heap.size + 2) 3 i0 (.int .i64 0) 1 8 Tryz.underlying95 hi hz0 hz1 hz2 rfl (by decide) (.slice va k vc) k (ats.map (.int .i64)) rfl hown1 ⟨w1.heap.size, 0, none⟩ 1 1 [.int .i64 (upF e0 (kSize f.kind))] rfl rfl ?c1 ?c2 ?c3 ?c4 ?c5 ?_))
      case c1 =>
        intro j u hj
        match j, hj with
        | 0, hj => simp at hj; subst hj; simp [Addr.add]
      case c2 => intro u hu; simp at hu; subst hu; rfl
      case c3 => unfold maxLen; omega
      case c4 => omega
      case c5 => simp; omega
      intro v' w2 hown2 hg2 _
      obtain ⟨va', vc', hv'⟩ := ownsRow_slice hown2
      rw [hv'] at hown2 ⊢
      clear hv'
      have hrow : ∀ x, (Value.slice va k vc).ownBlock = some x → w.heap.size + 2 ≤ x ∧ x < wr.heap.size := hown.lt
      have hp2 := keepG hg2 (keepA _ hp1) (fun e => by have := hrow _ e.symm; omega)
      have hr2 := keepG hg2 (keepA _ hr1) (fun e => by have := hrow _ e.symm; omega)
      have hf2 := keepG hg2 (keepA _ hf1) (fun e => by have := hrow _ e.symm; omega)
      have d0 := cell_at hp2 1
      have d1 := free_at hp2 1
      have d2 := cell_at hf2 2
      simp at d0 d2
      have hbel : Below w.heap.size w w2 := ((((hbw.alloc (by omega) _).trans (hb1.mono (by simp; omega))).alloc (by omega) _).grown hg2 (by simp; omega) (fun x hx => by have := hrow x hx; omega))
      have hsz2 : wr.heap.size + 2 ≤ w2.heap.size := by have := hg2.size; simp at this; omega
      have hset := hset w2 (w.heap.size + 1) 1 (.slice va' (k + 1) vc') _ _ _ hp2
      have hset0 := (hset_ne w2 ⟨w.heap.size + 1, 1, none⟩ (.slice va' (k + 1) vc') w.heap.size (by simp)).trans hr2
      have HS := Lib.hid (And.intro hset hset0)
      have HO := Lib.hid hown2
      clear hp hr hp1 hr1 hf1 hp2 hr2 hf2 hset hset0 hown2 hown1 hrow hb1 hg2 g1 g2 f2
      go_wp2
      go_roundw
      case rel =>
        refine ⟨k + 1, va', vc', by omega, by go_num, ?_, ?_, HS.out.2, by simpa using HS.out.1, ?_, ?_, ?_⟩
        · rw [htk.out, hsn.out]; simp only [planStep]
        · rw [htk.out, hsn.out]; simp only [planStep]
          exact congrArg _ (by rw [Int.max_def]; split <;> split <;> omega)
        · rw [htk.out, hsn.out]; simp only [planStep, List.map_append, List.map_cons, List.map_nil]
          exact ownsRow_setCell_below HO.out (by simp) _
        · exact hbel.setCell (by simp) _
        · simp [World.setCell]; omega
      case measure => simp [intOf]; omega
    · obtain rfl : k = len := by omega
      have ht : fs.take k = fs := List.take_of_length_le (by have := hfs.1; omega)
      rw [ht] at hown ⊢
      clear ht
      have p0 := cell_at hp 0
      have p1 := cell_at hp 1
      have f0 := free_at hp 0
      have r0 := cell_at hr 0
      have r1 := cell_at hr 1
      have f1 := free_at hr 0
      have f2 := free_at hr 1
      simp at p0 p1 r0 r1
      go_wp2_with fail
      refine (up_any _ _ _ (planF_most _)).mono ?_
      rintro e w' ⟨rfl, rfl⟩
      go_wp2
      refine bodyPost_ret (by simp [results, Tryz.results104, go_sem, r0, r1]; try rfl) rfl ?_
      refine ⟨va, vc, rfl, ?_, ?_⟩
      · exact ownsRow_mono (ownsRow_setCell_below (ownsRow_setCell_below (ownsRow_setCell_below hown (by simp) _) (by simp) _) (by simp) _) (by omega)
      · exact ((hbw.setCell (by simp) _).setCell (by simp) _).setCell (by simp) _
end Go.Proofs.YtoadihebdaooaaaGreat
