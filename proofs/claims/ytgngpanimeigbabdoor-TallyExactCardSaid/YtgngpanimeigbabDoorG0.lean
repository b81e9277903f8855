/- General lemmas on worlds, blocks, and rows. -/
import Derived.Test.YtgngpanimeigbabDoorRows
import Derived.WalkKit
import Derived.WalkSpells
import Derived.WalkLawsBesides
import Derived.Outline
import Derived.Handy
import Derived.ChangeOld
import Derived.Below
import Derived.ShutString
import Derived.RegionTactic
import Derived.Deep.RegionWith
import Derived.IntWalk
import Derived.ProofKit
import Derived.OpenShut
import Derived.Lib.Hide
import Derived.Deep.AppendLies
import Derived.Deep.RegionLaw
import Derived.Deep.DeepCutAuto
import Derived.Deep.QuietTactic
import Derived.BigQuiet
import Derived.Deep.RegionHeld3
import Derived.Deep.Slices
import Derived.Deep.Fields
import Derived.Lib.SmallJoins
namespace Go.Proofs.YtgngpanimeigbabDoor
open Go.ChangeShapes Go.WideShapes Go.RowKit Go.Deep
set_option linter.unusedVariables false

theorem take_snoc {α : Type} {l : List α} {k : Nat} {x : α} (h : l[k]? = some x) : l.take (k + 1) = l.take k ++ [x] := by
  rw [List.take_add_one, h]; rfl
theorem drop_get {α : Type} {l : List α} {k : Nat} {x : α} (h : l[k]? = some x) : l.drop k = x :: l.drop (k + 1) := by
  obtain ⟨hl, he⟩ := List.getElem?_eq_some_iff.1 h
  rw [List.drop_eq_getElem_cons hl, he]
theorem bcell {W w1 : World} (hb : Below W.heap.size W w1) : (∀ b o, b < W.heap.size → w1.cell? ⟨b, o, none⟩ = W.cell? ⟨b, o, none⟩) ∧ (∀ b o, b < W.heap.size → w1.frozen? ⟨b, o, none⟩ = W.frozen? ⟨b, o, none⟩) :=
  ⟨fun b o h => hb.cell (p := ⟨b, o, none⟩) h, fun b o h => hb.frozen (p := ⟨b, o, none⟩) h⟩
theorem halloc (w : World) (o : Obj) (k : Nat) : (w.alloc o).heap[k]? = if k = w.heap.size then some o else w.heap[k]? := by
  show (w.heap.push o)[k]? = _
  rw [Array.getElem?_push]
theorem hset_ne (w : World) (a : Addr) (u : Value) (k : Nat) (h : k ≠ a.block) : (w.setCell a u).heap[k]? = w.heap[k]? := Below.heap_setCell w a u k h
theorem hset (w : World) (b o : Nat) (u : Value) (cs : Array Value) (e : TypeId) (fz : Nat × Nat) (h : w.heap[b]? = some (.cells cs e fz)) : (w.setCell ⟨b, o, none⟩ u).heap[b]? = some (.cells (cs.setIfInBounds o u) e fz) := by
  simp [World.setCell, Array.getElem?_modify, h]
theorem lt_some {w : World} {b : Nat} {o : Obj} (h : w.heap[b]? = some o) : b < w.heap.size := (Array.getElem?_eq_some_iff.1 h).1
/-- A block that was there stays. -/
theorem keep {W w1 : World} {b : Nat} {o : Obj} (hb : Below W.heap.size W w1) (h : W.heap[b]? = some o) : w1.heap[b]? = some o := (hb.block b (lt_some h)).trans h
theorem keepA {W : World} {b : Nat} {o : Obj} (x : Obj) (h : W.heap[b]? = some o) : (W.alloc x).heap[b]? = some o := by rw [halloc, if_neg (by have := lt_some h; omega)]; exact h
theorem grownOf {W w1 : World} (hb : Below W.heap.size W w1) (row : Option Nat) : W.grownBy w1 row := ⟨hb.os, hb.tape, hb.output, hb.size, fun k hk _ => hb.block k hk⟩
theorem keepG {W w1 : World} {b : Nat} {o : Obj} {row : Option Nat} (hg : W.grownBy w1 row) (h : W.heap[b]? = some o) (hn : some b ≠ row) : w1.heap[b]? = some o := (hg.block b (lt_some h) hn).trans h
/-- The cells of a block that is known whole. -/
theorem cell_at {w : World} {b : Nat} {cs : Array Value} {e : TypeId} {fz : Nat × Nat} (h : w.heap[b]? = some (.cells cs e fz)) (o : Nat) : w.cell? ⟨b, o, none⟩ = cs[o]? := by simp [World.cell?, h]
theorem free_at {w : World} {b : Nat} {cs : Array Value} {e : TypeId} (h : w.heap[b]? = some (.cells cs e (0, 0))) (o : Nat) : w.frozen? ⟨b, o, none⟩ = false := by simp [World.frozen?, h]
theorem ownsRow_slice {w : World} {base : Nat} {e : TypeId} {size : Nat} {v : Value} {n : Nat} {xs : List Value} (h : w.ownsRow base e size v n xs) : ∃ a c, v = .slice a n c := by
  rcases h.2 with ⟨rfl, rfl⟩ | ⟨g, cap, cur, rfl, _⟩
  · exact ⟨_, _, rfl⟩
  · exact ⟨_, _, rfl⟩
theorem ownsRow_mono {w : World} {base base' : Nat} {e : TypeId} {size : Nat} {v : Value} {n : Nat} {xs : List Value} (h : w.ownsRow base e size v n xs) (hb : base' ≤ base) : w.ownsRow base' e size v n xs := by
  obtain ⟨h1, h2⟩ := h
  refine ⟨h1, ?_⟩
  rcases h2 with h2 | ⟨g, cap, cur, hv, hg, r⟩
  · exact .inl h2
  · exact .inr ⟨g, cap, cur, hv, Nat.le_trans hb hg, r⟩
theorem ownsRow_ne {w : World} {b b' : Nat} {e e' : TypeId} {s s' : Nat} {v v' : Value} {n n' : Nat} {xs xs' : List Value} (h : w.ownsRow b e s v n xs) (h' : w.ownsRow b' e' s' v' n' xs') (hne : e ≠ e') : v.ownBlock = none ∨ v.ownBlock ≠ v'.ownBlock := by
  rcases h.2 with ⟨rfl, _⟩ | ⟨g, cap, cur, rfl, _, hg, _⟩
  · exact .inl rfl
  · refine .inr fun he => ?_
    rcases h'.2 with ⟨rfl, _⟩ | ⟨g', cap', cur', rfl, _, hg', _⟩
    · cases he
    · simp [Value.ownBlock] at he
      subst he
      rw [hg] at hg'
      cases hg'
      exact hne rfl
theorem ownsRow_ne_block {w : World} {b : Nat} {e : TypeId} {s : Nat} {v : Value} {n : Nat} {xs : List Value} (h : w.ownsRow b e s v n xs) {g : Nat} {o : Obj} (hg : w.heap[g]? = some o) (hne : ∀ cur, o ≠ .cells cur e (0, 0)) : some g ≠ v.ownBlock := by
  rcases h.2 with ⟨rfl, _⟩ | ⟨g', cap, cur, rfl, _, hg', _⟩
  · simp [Value.ownBlock]
  · intro he
    simp [Value.ownBlock] at he
    subst he
    rw [hg] at hg'
    cases hg'
    exact hne _ rfl
theorem ownsRow_below {w w' : World} {b : Nat} {e : TypeId} {s : Nat} {v : Value} {n : Nat} {xs : List Value} (h : w.ownsRow b e s v n xs) (hb : Below w.heap.size w w') : w'.ownsRow b e s v n xs :=
  h.kept (grownOf hb none) (by cases v.ownBlock <;> simp)
theorem undrew {B : Nat} {w w' : World} (h : Below B w.drew w') : Below B w w' := ⟨h.os, h.tape, h.output, h.size, h.block⟩
theorem undrewG {w w' : World} {row : Option Nat} (h : w.drew.grownBy w' row) : w.grownBy w' row := ⟨h.os, h.tape, h.output, h.size, h.block⟩
theorem below_drewN {B : Nat} {a w : World} (h : Below B a w) : ∀ n, Below B a (w.drewN n) := fun n => ⟨h.os, h.tape, h.output, h.size, h.block⟩
theorem undrewN {B : Nat} {a w : World} {n : Nat} (h : Below B (a.drewN n) w) : Below B a w := ⟨h.os, h.tape, h.output, h.size, h.block⟩
/-- An element of a row. -/
theorem row_get {w : World} {base : Nat} {e : TypeId} {va : Option Addr} {n vc : Nat} {xs : List Value} (h : w.ownsRow base e 1 (.slice va n vc) n xs) {k : Nat} {u : Value} (hk : xs[k]? = some u) :
    ∃ q, va = some ⟨q, 0, none⟩ ∧ w.cell? ⟨q, k, none⟩ = some u := by
  rcases h.2 with ⟨hv, h0'⟩ | ⟨q, cap', cur, hv, hg, hh, hc1, hc2, hc3, hc4⟩
  · have := (List.getElem?_eq_some_iff.1 hk).1
    have := h.1
    omega
  · cases hv
    refine ⟨q, rfl, ?_⟩
    rw [cell_at hh]
    rw [← hc4, List.getElem?_take] at hk
    split at hk
    · simpa using hk
    · cases hk
/-- A row of elements of several cells, known whole: its block, and each cell. -/
theorem row_block {w : World} {base : Nat} {e : TypeId} {s : Nat} {va : Option Addr} {n vc : Nat} {xs : List Value} (h : w.ownsRow base e s (.slice va n vc) n xs) (h0 : 0 < n) :
    ∃ q, va = some ⟨q, 0, none⟩ ∧ base ≤ q ∧ q < w.heap.size ∧ ∀ (k : Nat) (u : Value), xs[k]? = some u → w.cell? ⟨q, k, none⟩ = some u := by
  rcases h.2 with ⟨hv, h0'⟩ | ⟨q, cap', cur, hv, hg, hh, hc1, hc2, hc3, hc4⟩
  · omega
  · cases hv
    refine ⟨q, rfl, hg, lt_some hh, fun k u hk => ?_⟩
    rw [cell_at hh]
    rw [← hc4, List.getElem?_take] at hk
    split at hk
    · simpa using hk
    · cases hk
theorem ret_intk {k : IntKind} {a b : Int} (h : a = b) : Ending.returned (.int k a) = .returned (.int k b) := by rw [h]
def I64 (n : Int) : Prop := -9223372036854775808 ≤ n ∧ n ≤ 9223372036854775807
theorem wf_i64 {n : Int} (h : I64 n) : (Lit.int .i64 n).wf = true := WalkArith.wf_i64 h
theorem i64_of {n : Int} (h : (Lit.int .i64 n).wf = true) : I64 n := by
  simpa [Lit.wf, IntKind.min, IntKind.max, IntKind.signed, IntKind.bits, I64] using h
theorem u32_of {n : Int} (h : (Lit.int .u32 n).wf = true) : 0 ≤ n ∧ n ≤ 4294967295 := by
  simpa [Lit.wf, IntKind.min, IntKind.max, IntKind.signed, IntKind.bits] using h
theorem i64_wrap (n : Int) : I64 (wrap64 n) := by
  unfold I64 wrap64; omega
theorem wrap64_id {n : Int} (h : I64 n) : wrap64 n = n := by
  unfold I64 at h; unfold wrap64; omega

theorem list_of {α : Type} (P : Nat → α → Prop) : ∀ (len : Nat), (∀ i, i < len → ∃ x, P i x) → ∃ l : List α, l.length = len ∧ ∀ (i : Nat) (x : α), l[i]? = some x → P i x
  | 0, _ => ⟨[], rfl, fun i x h => by simp at h⟩
  | n + 1, h => by
    obtain ⟨l, hl, hp⟩ := list_of P n (fun i hi => h i (by omega))
    obtain ⟨x, hx⟩ := h n (by omega)
    refine ⟨l ++ [x], by simp [hl], fun i y hy => ?_⟩
    by_cases hi : i < n
    · rw [List.getElem?_append_left (by omega)] at hy; exact hp i y hy
    · have hlt := (List.getElem?_eq_some_iff.1 hy).1
      simp [hl] at hlt
      obtain rfl : i = n := by omega
      rw [List.getElem?_append_right (by omega), hl] at hy
      simp at hy
      subst hy; exact hx
section
variable {H : Type} {enc : TypeId × Value → H} {P : Program} {w : World} {base : Nat} {spare : Nat → Bool} {held : Bool}
/-- A slice of structs of one-cell fields: each field's cell, and its reading. -/
theorem open_elems {t e : TypeId} {fs : Array Field} {fuel : Nat} {cs : List Value} {x : DataW H × List MemPlace} (ht : P.underlying t = some (.slice e)) (he : P.underlying e = some (.struct fs)) (hone : oneCellFields P fs = true) (hC : P.cellsOf e = fs.size) (h0 : 0 < fs.size)
    (h : DataW.trod enc P w base spare held fuel t cs = some x) :
    cs = [.slice none 0 0] ∨ ∃ (b off : Nat) (sp : Option Nat) (len cap : Nat), cs = [.slice (some ⟨b, off, sp⟩) len cap] ∧ len ≤ maxLen ∧ (0 < len → sp = none ∧ b < w.heap.size) ∧
      ∀ i, i < len → ∀ (j : Nat) (f : Field), fs[j]? = some f → ∃ (v : Value) (y : DataW H × List MemPlace) (n : Nat), w.cell? ⟨b, off + (i * fs.size + j), none⟩ = some v ∧ DataW.trod enc P w base spare held n f.type [v] = some y := by
  rcases open_slice ht h with ⟨h1, _⟩ | ⟨a, len, cap, m, n, D, Pl, hcs, hb, hl, hm, hmm, hx, hi⟩
  · exact .inl h1
  · obtain ⟨b, off, sp⟩ := a
    have hlm : len ≤ m := by rw [hmm]; split <;> omega
    have key : ∀ i, i < len → ∀ (j : Nat) (f : Field), fs[j]? = some f → ∃ (v : Value) (y : DataW H × List MemPlace) (n : Nat), w.cell? ((⟨b, off, sp⟩ : Addr).add (i * fs.size + j)) = some v ∧ DataW.trod enc P w base spare held n f.type [v] = some y := by
      intro i hil j f hf
      obtain ⟨cs', hc, ht'⟩ := hi i (by omega)
      rw [hC] at hc
      obtain ⟨_, hcl, hcell⟩ := World.cells?_some hc
      obtain ⟨xs, n', _, _, _, hxl, hall⟩ := DataW.trod_struct he ht'
      obtain ⟨ho, hc1⟩ := hone_of hone j f hf
      have hj : j < fs.size := (Array.getElem?_eq_some_iff.1 hf).1
      have hlt : j < cs'.length := by omega
      have ha := hall j f hf
      rw [ho, hc1, List.drop_eq_getElem_cons hlt] at ha
      simp only [List.take_succ_cons, List.take_zero] at ha
      have hxs : xs[j]? = some (xs[j]'(by omega)) := List.getElem?_eq_getElem (by omega)
      refine ⟨cs'[j], xs[j]'(by omega), n', ?_, ha.trans hxs⟩
      have := hcell j hj
      rw [List.getElem?_eq_getElem hlt] at this
      rw [← Go.Deep.add_add]
      exact this
    refine .inr ⟨b, off, sp, len, cap, hcs, by omega, fun hpos => ?_, fun i hil j f hf => ?_⟩
    · obtain ⟨v, y, n', hv, _⟩ := key 0 hpos 0 fs[0] (Array.getElem?_eq_getElem h0)
      have e : (⟨b, off, sp⟩ : Addr).add (0 * fs.size + 0) = ⟨b, off, sp⟩ := by simp [Addr.add]
      rw [e] at hv
      exact ⟨World.cell?_spot hv, World.block_lt_of_cell? w _ hv⟩
    · obtain ⟨v, y, n', hv, ht'⟩ := key i hil j f hf
      refine ⟨v, y, n', ?_, ht'⟩
      obtain ⟨v0, y0, n0, hv0, _⟩ := key 0 (by omega) 0 fs[0] (Array.getElem?_eq_getElem h0)
      have e : (⟨b, off, sp⟩ : Addr).add (0 * fs.size + 0) = ⟨b, off, sp⟩ := by simp [Addr.add]
      rw [e] at hv0
      have hsp : sp = none := World.cell?_spot hv0
      subst hsp
      have hadd : (⟨b, off, none⟩ : Addr).add (i * fs.size + j) = ⟨b, off + (i * fs.size + j), none⟩ := by unfold Addr.add; split <;> simp_all
      rw [← hadd]; exact hv
end
theorem field_of {fs : Array Field} {j : Nat} {t : TypeId} (h : (fs[j]?.map (·.type)) = some t) : ∃ f, fs[j]? = some f ∧ f.type = t := by
  cases hf : fs[j]? with
  | none => rw [hf] at h; cases h
  | some f => rw [hf] at h; exact ⟨f, rfl, Option.some.inj h⟩

/-- The world is as it was but for one block. -/
structure Only (b : Nat) (w w' : World) : Prop where
  os : w'.os = w.os
  tape : w'.tape = w.tape
  output : w'.output = w.output
  size : w'.heap.size = w.heap.size
  block : ∀ k, k ≠ b → w'.heap[k]? = w.heap[k]?
theorem Only.refl (b : Nat) (w : World) : Only b w w := ⟨rfl, rfl, rfl, rfl, fun _ _ => rfl⟩
theorem Only.trans {b : Nat} {x y z : World} (h : Only b x y) (k : Only b y z) : Only b x z :=
  ⟨k.os.trans h.os, k.tape.trans h.tape, k.output.trans h.output, k.size.trans h.size, fun i hi => (k.block i hi).trans (h.block i hi)⟩
theorem Only.setCell (w : World) (a : Addr) (u : Value) : Only a.block w (w.setCell a u) := ⟨rfl, rfl, rfl, by simp [World.setCell], fun k hk => hset_ne w a u k hk⟩
theorem Only.at (w : World) (b o : Nat) (u : Value) : Only b w (w.setCell ⟨b, o, none⟩ u) := Only.setCell w ⟨b, o, none⟩ u
theorem Only.drew {b : Nat} {x y : World} (h : Only b x y) : Only b x y.drew := ⟨h.os, h.tape, h.output, h.size, h.block⟩
theorem Only.below {b B : Nat} {w w' : World} (h : Only b w w') (hb : B ≤ b) : Below B w w' := ⟨h.os, h.tape, h.output, by rw [h.size]; exact Nat.le_refl _, fun k hk => h.block k (by omega)⟩
theorem keepO {b k : Nat} {w w' : World} {o : Obj} (h : Only b w w') (hk : w.heap[k]? = some o) (hne : k ≠ b) : w'.heap[k]? = some o := (h.block k hne).trans hk
section
variable {P : Program}
theorem step_of_wp {ops : Array Oper} {o : Oper} {a : Act} {w : World} {K : Act → World → Prop} {Q : Exit → Act → World → Prop} {E : Prop} (hgd : o.guard = none) (h : Oper.wp P o a w K Q) :
    if Region.wanted o (yielded ops a.tmps) = true then Oper.wp P o a w K Q else E := by
  have hw : Region.wanted o (yielded ops a.tmps) = true := by simp [Region.wanted, hgd]
  rw [if_pos hw]; exact h
theorem run_storeCells_row {w : World} {g : Nat} {t : TypeId} {old cells : Array Value} (hg : w.heap[g]? = some (.cells old t (0, 0))) (ho : old.size = cells.size) (h1 : cells.all (·.oneCell') = true) :
    (storeCells ⟨g, 0, none⟩ cells.toList).run P w = .ok () (w.setRow g cells) := by
  have := run_storeCells_from (P := P) g t cells.toList 0 old w hg (by simp; omega) (fun v hv => (Array.all_eq_true_iff_forall_mem.1 h1) v (by simpa using hv))
  simpa using this
theorem step_store_row {ops : Array Oper} {o : Oper} {a : Act} {w : World} {K : Act → World → Prop} {Q : Exit → Act → World → Prop} {E : Prop} (hgd : o.guard = none) (ty : TypeId) (x y : Operand) (ho : o.op = .store ty x y)
    (g : Nat) (cells : Array Value) (hx : a.eval x = .pointer (some ⟨g, 0, none⟩)) (hy : a.eval y = .agg cells)
    (t : TypeId) (old : Array Value) (hg : w.heap[g]? = some (.cells old t (0, 0))) (hi : (P.info? ty).map (·.size) = some cells.size)
    (hold : old.size = cells.size) (h1 : cells.all (·.oneCell') = true)
    (h : K (a.put o.dst undef) (w.setRow g cells)) : if Region.wanted o (yielded ops a.tmps) = true then Oper.wp P o a w K Q else E :=
  step_of_wp hgd (wp_store_row ty x y ho g cells hx hy t old hg hi hold h1 h)
theorem step_load_row {ops : Array Oper} {o : Oper} {a : Act} {w : World} {K : Act → World → Prop} {Q : Exit → Act → World → Prop} {E : Prop} (hgd : o.guard = none) (ty : TypeId) (x : Operand) (ho : o.op = .load ty x)
    (g : Nat) (hx : a.eval x = .pointer (some ⟨g, 0, none⟩)) (t : TypeId) (cs : Array Value) (fr : Nat × Nat) (d : TypeDesc) (hg : w.heap[g]? = some (.cells cs t fr))
    (hu : P.underlying ty = some d) (hd : (match d with | .struct _ | .array _ _ => true | _ => false) = true) (hi : (P.info? ty).map (·.size) = some cs.size)
    (h : K (a.put o.dst (.agg cs)) w) : if Region.wanted o (yielded ops a.tmps) = true then Oper.wp P o a w K Q else E :=
  step_of_wp hgd (wp_load_row ty x ho g hx t cs fr d hg hu hd hi h)
end
end Go.Proofs.YtgngpanimeigbabDoor
