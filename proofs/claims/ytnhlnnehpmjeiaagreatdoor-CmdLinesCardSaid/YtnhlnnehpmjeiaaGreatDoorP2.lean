/- Frames: all stays but a set of blocks; rows. · The queue of commands that wait, in memory. · Heaps of commands that wait: plain; a queue's deeds. · Contracts of layout.Check, layout.Of, column.New, schema.IsName. · Contracts of column.New, schema.IsName. -/
import Derived.Test.YtnhlnnehpmjeiaaGreatDoorP1
namespace Go.Proofs.YtnhlnnehpmjeiaaGreatDoor
open Go.RowKit
set_option linter.unusedVariables false
/-- All that was and isn't in F stays. -/
structure Out (F : Nat → Prop) (w w' : World) : Prop where
  os : w'.os = w.os
  tape : w'.tape = w.tape
  output : w'.output = w.output
  size : w.heap.size ≤ w'.heap.size
  block : ∀ k, k < w.heap.size → ¬ F k → w'.heap[k]? = w.heap[k]?
theorem Out.refl (F : Nat → Prop) (w : World) : Out F w w := ⟨rfl, rfl, rfl, Nat.le_refl _, fun _ _ _ => rfl⟩
theorem Out.trans {F G : Nat → Prop} {a b c : World} (h : Out F a b) (k : Out G b c) (hG : ∀ x, G x → F x ∨ a.heap.size ≤ x) : Out F a c :=
  ⟨k.os.trans h.os, k.tape.trans h.tape, k.output.trans h.output, Nat.le_trans h.size k.size, fun i hi hF => (k.block i (by have := h.size; omega) (fun hg => by exact (hG i hg).elim hF (by omega))).trans (h.block i hi hF)⟩
theorem Out.mono {F G : Nat → Prop} {a b : World} (h : Out F a b) (hG : ∀ x, F x → G x ∨ a.heap.size ≤ x) : Out G a b := ⟨h.os, h.tape, h.output, h.size, fun i hi hn => h.block i hi (fun hf => by exact (hG i hf).elim hn (by omega))⟩
theorem Out.of {F : Nat → Prop} {a b : World} (h : Below a.heap.size a b) : Out F a b := ⟨h.os, h.tape, h.output, h.size, fun i hi _ => h.block i hi⟩
theorem Out.below {F : Nat → Prop} {B : Nat} {a b : World} (h : Out F a b) (hF : ∀ x, F x → B ≤ x) (hB : B ≤ a.heap.size) : Below B a b := ⟨h.os, h.tape, h.output, h.size, fun i hi => h.block i (by omega) (fun hf => by have := hF i hf; omega)⟩
theorem Out.keep {F : Nat → Prop} {a b : World} (h : Out F a b) {k : Nat} {o : Obj} (hk : a.heap[k]? = some o) (hn : ¬ F k) : b.heap[k]? = some o := (h.block k (lt_some hk) hn).trans hk
theorem Out.only {b : Nat} {F : Nat → Prop} {w w' : World} (h : Only b w w') (hF : F b) : Out F w w' := ⟨h.os, h.tape, h.output, by rw [h.size]; exact Nat.le_refl _, fun k _ hk => h.block k (fun e => hk (e ▸ hF))⟩
theorem ownsRow_out {F : Nat → Prop} {w w' : World} {b s : Nat} {e : TypeId} {v : Value} {n : Nat} {xs : List Value} (h : w.ownsRow b e s v n xs) (ho : Out F w w') (hn : ∀ x, v.ownBlock = some x → ¬ F x) : w'.ownsRow b e s v n xs := by
  obtain ⟨h1, h2⟩ := h
  refine ⟨h1, ?_⟩
  rcases h2 with h2 | ⟨g, cap, cur, rfl, hg, hh, r⟩
  · exact .inl h2
  · exact .inr ⟨g, cap, cur, rfl, hg, ho.keep hh (hn g rfl), r⟩
theorem Out.drewN {F : Nat → Prop} {a b : World} (h : Out F a b) (n : Nat) : Out F a (b.drewN n) := ⟨h.os, h.tape, h.output, h.size, h.block⟩
theorem ret_sl {a : Option Addr} {n n' c : Nat} (h : n = n') : Ending.returned (.slice a n c) = .returned (.slice a n' c) := by rw [h]
theorem row_type {w : World} {B s : Nat} {e : TypeId} {v : Value} {n : Nat} {xs : List Value} (h : w.ownsRow B e s v n xs) {b : Nat} (hb : v.ownBlock = some b) : ∃ cur, w.heap[b]? = some (.cells cur e (0, 0)) := by
  rcases h.2 with ⟨rfl, _⟩ | ⟨g, cap, cur, rfl, _, hh, _⟩
  · cases hb
  · obtain rfl : g = b := by simpa [Value.ownBlock] using hb
    exact ⟨cur, hh⟩
theorem ownsRow_set {w : World} {b : Nat} {e : TypeId} {va : Option Addr} {n vc r : Nat} {xs : List Value} (u : Value) (h : w.ownsRow b e 1 (.slice va n vc) n xs) (hr : r < n) :
    ∃ q, va = some ⟨q, 0, none⟩ ∧ (w.setCell ⟨q, r, none⟩ u).ownsRow b e 1 (.slice va n vc) n (xs.set r u) ∧ w.frozen? ⟨q, r, none⟩ = false ∧ q < w.heap.size ∧ n ≤ vc := by
  obtain ⟨h1, h2⟩ := h
  rcases h2 with ⟨_, h3⟩ | ⟨g, cap, cur, hv, hg, hh, hc1, hc2, hc3, hc4⟩
  · omega
  · cases hv
    refine ⟨g, rfl, ⟨by rw [List.length_set]; exact h1, .inr ⟨g, vc, cur.setIfInBounds r u, rfl, hg, hset w g r u _ _ _ hh, hc1, hc2, by rw [Array.size_setIfInBounds]; exact hc3, ?_⟩⟩, free_at hh r, lt_some hh, hc1⟩
    rw [Array.toList_setIfInBounds, ← hc4, List.take_set]
end Go.Proofs.YtnhlnnehpmjeiaaGreatDoor
namespace Go.Proofs.YtnhlnnehpmjeiaaGreatDoor
open Go.RowKit
set_option linter.unusedVariables false
/-- A command that waits, without parts. -/
structure IT where
  k : KY
  at_ : Int
  kind : Int
  ent : Int
  comp : Int
def IT.c (x : IT) : List Value := [.int .i64 x.k.st, .int .i64 x.k.sy, .int .i64 x.k.id, .int .i64 x.k.sq, .int .i64 x.at_, .int .i64 x.kind, .int .u64 x.ent, .int .i64 x.comp, .slice none 0 0]
def IT.v (x : IT) : Value := .agg #[.int .i64 x.k.st, .int .i64 x.k.sy, .int .i64 x.k.id, .int .i64 x.k.sq, .int .i64 x.at_, .int .i64 x.kind, .int .u64 x.ent, .int .i64 x.comp, .slice none 0 0]
/-- Its place in the order. -/
def IT.r (x : IT) : Int := up64 x.k.r x.at_
structure IT.wf (x : IT) : Prop where
  k : x.k.wf
  at_ : inI x.at_
theorem ownsRow_setS {w : World} {b : Nat} {e : TypeId} {s : Nat} {va : Option Addr} {n vc j : Nat} {xs : List Value} (u : Value) (h : w.ownsRow b e s (.slice va n vc) n xs) (hj : j < n * s) :
    ∃ q, va = some ⟨q, 0, none⟩ ∧ (w.setCell ⟨q, j, none⟩ u).ownsRow b e s (.slice va n vc) n (xs.set j u) ∧ w.frozen? ⟨q, j, none⟩ = false ∧ b ≤ q ∧ q < w.heap.size ∧ n ≤ vc ∧ ∃ y, w.cell? ⟨q, j, none⟩ = some y := by
  obtain ⟨h1, h2⟩ := h
  rcases h2 with ⟨_, h3⟩ | ⟨g, cap, cur, hv, hg, hh, hc1, hc2, hc3, hc4⟩
  · subst h3; simp at hj
  · cases hv
    have hjc : j < cur.size := by
      have : n * s ≤ vc * s := Nat.mul_le_mul_right _ hc1
      omega
    refine ⟨g, rfl, ⟨by rw [List.length_set]; exact h1, .inr ⟨g, vc, cur.setIfInBounds j u, rfl, hg, hset w g j u _ _ _ hh, hc1, hc2, by rw [Array.size_setIfInBounds]; exact hc3, ?_⟩⟩, free_at hh j, hg, lt_some hh, hc1, ⟨cur[j], ?_⟩⟩
    · rw [Array.toList_setIfInBounds, ← hc4, List.take_set]
    · rw [cell_at hh, Array.getElem?_eq_getElem hjc]
theorem it_len (l : List IT) : (l.flatMap IT.c).length = l.length * 9 := by
  induction l with
  | nil => rfl
  | cons x l ih => rw [List.flatMap_cons, List.length_append, ih, List.length_cons]; show 9 + _ = _; omega
theorem it_at : ∀ (l : List IT) (i : Nat) (x : IT), l[i]? = some x → ∀ (j : Nat) (u : Value), x.c[j]? = some u → (l.flatMap IT.c)[i * 9 + j]? = some u
  | [], _, _, h, _, _, _ => by simp at h
  | y :: l, 0, x, h, j, u, hu => by
    simp at h
    subst h
    have hj : j < 9 := (List.getElem?_eq_some_iff.1 hu).1
    rw [List.flatMap_cons, List.getElem?_append_left (by show _ < 9; omega), Nat.zero_mul, Nat.zero_add]
    exact hu
  | y :: l, i + 1, x, h, j, u, hu => by
    have := it_at l i x (by simpa using h) j u hu
    rw [List.flatMap_cons, List.getElem?_append_right (by show 9 ≤ _; omega)]
    rw [show (i + 1) * 9 + j - y.c.length = i * 9 + j by show (i + 1) * 9 + j - 9 = _; omega]
    exact this
theorem it_take (l : List IT) (m : Nat) : (l.flatMap IT.c).take (m * 9) = (l.take m).flatMap IT.c := by
  induction l generalizing m with
  | nil => simp
  | cons x l ih =>
    cases m with
    | zero => simp
    | succ m =>
      rw [List.flatMap_cons, List.take_succ_cons, List.flatMap_cons, List.take_append, ← ih m]
      rw [List.take_of_length_le (by show 9 ≤ _; omega)]
      congr 2
      show (m + 1) * 9 - 9 = _
      omega
/-- Another item: its nine cells. -/
theorem it_set : ∀ (l : List IT) (i : Nat) (x : IT), (((((((((l.flatMap IT.c).set (i * 9) (.int .i64 x.k.st)).set (i * 9 + 1) (.int .i64 x.k.sy)).set (i * 9 + 2) (.int .i64 x.k.id)).set (i * 9 + 3) (.int .i64 x.k.sq)).set (i * 9 + 4) (.int .i64 x.at_)).set (i * 9 + 5) (.int .i64 x.kind)).set (i * 9 + 6) (.int .u64 x.ent)).set (i * 9 + 7) (.int .i64 x.comp)).set (i * 9 + 8) (.slice none 0 0) = (l.set i x).flatMap IT.c
  | [], _, _ => by simp
  | y :: l, 0, x => rfl
  | y :: l, i + 1, x => by
    have h := it_set l i x
    have e : ∀ (t : List Value) (k : Nat) (u : Value), (y.c ++ t).set ((i + 1) * 9 + k) u = y.c ++ t.set (i * 9 + k) u := fun t k u => by
      rw [List.set_append_right _ _ (by show 9 ≤ _; omega)]
      congr 2
      show (i + 1) * 9 + k - 9 = _
      omega
    have e0 : ∀ (t : List Value) (u : Value), (y.c ++ t).set ((i + 1) * 9) u = y.c ++ t.set (i * 9) u := fun t u => e t 0 u
    rw [List.flatMap_cons, e0, e, e, e, e, e, e, e, e, List.set_cons_succ, List.flatMap_cons, h]
/-- A queue in memory: the cell that holds it, and its row. -/
structure QD where
  pb : Nat
  po : Nat
  cs : Array Value
  ty : TypeId
  fa : Option Addr
  fc : Nat
  its : List IT
def QD.v (x : QD) : Value := .slice x.fa x.its.length x.fc
def QD.foot (x : QD) (b : Nat) : Prop := b = x.pb ∨ x.v.ownBlock = some b
structure QMem (w : World) (x : QD) : Prop where
  blk : w.heap[x.pb]? = some (.cells (x.cs.setIfInBounds x.po x.v) x.ty (0, 0))
  po : x.po < x.cs.size
  row : w.ownsRow 0 67 9 x.v x.its.length (x.its.flatMap IT.c)
  ne : x.ty ≠ 67
theorem QMem.out {w w' : World} {x : QD} {F : Nat → Prop} (h : QMem w x) (ho : Out F w w') (hF : ∀ b, x.foot b → ¬ F b) : QMem w' x :=
  ⟨ho.keep h.blk (hF _ (.inl rfl)), h.po, ownsRow_out h.row ho (fun b hb => hF b (.inr hb)), h.ne⟩
theorem QMem.below {w w' : World} {x : QD} (h : QMem w x) (hb : Below w.heap.size w w') : QMem w' x := h.out (F := fun _ => False) (Out.of hb) (fun _ _ => id)
theorem QMem.cell {w : World} {x : QD} (h : QMem w x) : w.cell? ⟨x.pb, x.po, none⟩ = some x.v ∧ w.frozen? ⟨x.pb, x.po, none⟩ = false := by
  refine ⟨?_, free_at h.blk _⟩
  rw [cell_at h.blk, Array.getElem?_setIfInBounds_self]
  simp [h.po]
theorem QMem.pb_ne {w : World} {x : QD} (h : QMem w x) {b : Nat} (hb : x.v.ownBlock = some b) : b ≠ x.pb := fun e => by
  obtain ⟨cur, h1⟩ := row_type h.row hb
  rw [e, h.blk] at h1
  injection h1 with h1
  injection h1 with _ h2 _
  exact h.ne h2
/-- A deed of a queue. -/
structure QStep (x x' : QD) (w w' : World) : Prop where
  mem : QMem w' x'
  same : x'.pb = x.pb ∧ x'.po = x.po ∧ x'.cs = x.cs ∧ x'.ty = x.ty
  out : Out x.foot w w'
  foot : ∀ b, x'.foot b → x.foot b ∨ w.heap.size ≤ b
theorem QStep.trans {x y z : QD} {a b c : World} (h : QStep x y a b) (k : QStep y z b c) : QStep x z a c :=
  ⟨k.mem, ⟨k.same.1.trans h.same.1, k.same.2.1.trans h.same.2.1, k.same.2.2.1.trans h.same.2.2.1, k.same.2.2.2.trans h.same.2.2.2⟩, h.out.trans k.out h.foot, fun q hq => (k.foot q hq).elim (h.foot q) fun hb => .inr (Nat.le_trans h.out.size hb)⟩
theorem QStep.refl {x : QD} {w : World} (h : QMem w x) : QStep x x w w := ⟨h, ⟨rfl, rfl, rfl, rfl⟩, Out.refl _ _, fun _ => .inl⟩
theorem QStep.below {x y : QD} {a b c : World} (h : QStep x y a b) (hb : Below b.heap.size b c) : QStep x y a c :=
  h.trans ⟨h.mem.below hb, ⟨rfl, rfl, rfl, rfl⟩, Out.of hb, fun _ => .inl⟩
end Go.Proofs.YtnhlnnehpmjeiaaGreatDoor
namespace Go.Proofs.YtnhlnnehpmjeiaaGreatDoor
open Go.RowKit
set_option linter.unusedVariables false
def atR (l : List IT) (k : Nat) : Int := at0 (l.map IT.r) k
def swapI (l : List IT) (i j : Nat) : List IT := swapA l i j
def HeapI (l : List IT) (n : Nat) : Prop := HeapN (l.map IT.r) n
def DownI (l : List IT) (n i : Nat) : Prop := DownN (l.map IT.r) n i
def UpI (l : List IT) (n i : Nat) : Prop := UpN (l.map IT.r) n i
theorem atR_some {l : List IT} {k : Nat} {x : IT} (h : l[k]? = some x) : atR l k = x.r := at0_map IT.r h
theorem swapI_map {l : List IT} {i j : Nat} (hi : i < l.length) (hj : j < l.length) : (swapI l i j).map IT.r = swapL (l.map IT.r) i j := swapA_map IT.r (List.getElem?_eq_getElem hi) (List.getElem?_eq_getElem hj)
theorem swapI_len (l : List IT) (i j : Nat) : (swapI l i j).length = l.length := swapA_len l i j
theorem swapI_perm {l : List IT} {i j : Nat} (hi : i < l.length) (hj : j < l.length) : (swapI l i j).Perm l := swapA_perm (List.getElem?_eq_getElem hi) (List.getElem?_eq_getElem hj)
theorem swapI_eq {l : List IT} {i j : Nat} {x y : IT} (hi : l[i]? = some x) (hj : l[j]? = some y) : swapI l i j = (l.set i y).set j x := by unfold swapI swapA; rw [hi, hj]
theorem swapI_other {l : List IT} {i j k : Nat} (hi : i < l.length) (hj : j < l.length) (h1 : k ≠ i) (h2 : k ≠ j) : (swapI l i j)[k]? = l[k]? := by
  rw [swapI_eq (List.getElem?_eq_getElem hi) (List.getElem?_eq_getElem hj), List.getElem?_set, if_neg (fun e => h2 e.symm), List.getElem?_set, if_neg (fun e => h1 e.symm)]
theorem swapI_to {l : List IT} {i j : Nat} {x : IT} (hi : l[i]? = some x) (hj : j < l.length) : (swapI l i j)[j]? = some x := by
  rw [swapI_eq hi (List.getElem?_eq_getElem hj), List.getElem?_set, if_pos rfl, if_pos (by simpa using hj)]
theorem HeapI.down {l : List IT} {n : Nat} (h : HeapI l n) (i : Nat) : DownI l n i := HeapN.down h i
theorem DownI.leaf {l : List IT} {n i : Nat} (h : DownI l n i) (hi : n ≤ 2 * i + 1) : HeapI l n := DownN.leaf h hi
theorem DownI.stop {l : List IT} {n i j : Nat} (h : DownI l n i) (hj : atR l i ≤ atR l j) (hm : ∀ k, 1 ≤ k → k < n → (k - 1) / 2 = i → atR l j ≤ atR l k) : HeapI l n := DownN.stop h hj hm
theorem DownI.step {l : List IT} {n i j : Nat} (h : DownI l n i) (hn : n ≤ l.length) (hj1 : 1 ≤ j) (hjn : j < n) (hji : (j - 1) / 2 = i) (hlt : atR l j < atR l i) (hm : ∀ k, 1 ≤ k → k < n → (k - 1) / 2 = i → atR l j ≤ atR l k) : DownI (swapI l i j) n j := by
  unfold DownI
  rw [swapI_map (by omega) (by omega)]
  exact DownN.step h (by simpa using hn) hj1 hjn hji hlt hm
theorem UpI.stop {l : List IT} {n j : Nat} (h : UpI l n j) (hj : j = 0 ∨ atR l ((j - 1) / 2) ≤ atR l j) : HeapI l n := UpN.stop h hj
theorem UpI.step {l : List IT} {n i j : Nat} (h : UpI l n j) (hn : n ≤ l.length) (hj1 : 1 ≤ j) (hjn : j < n) (hij : i = (j - 1) / 2) (hlt : atR l j < atR l i) : UpI (swapI l i j) n i := by
  unfold UpI
  rw [swapI_map (by omega) (by omega)]
  exact UpN.step h (by simpa using hn) hj1 hjn hij hlt
theorem HeapI.of_take {l : List IT} {n m : Nat} (h : HeapI l n) (hm : m ≤ n) : HeapI (l.take m) m := by
  unfold HeapI
  rw [List.map_take]
  exact HeapN.of_take h hm
theorem HeapI.snoc {l : List IT} (h : HeapI l l.length) (x : IT) : UpI (l ++ [x]) (l.length + 1) l.length := by
  unfold UpI
  rw [List.map_append]
  have h2 : HeapN (l.map IT.r) (l.map IT.r).length := by rw [List.length_map]; exact h
  have := h2.snoc x.r
  rw [List.length_map] at this
  exact this
theorem HeapI.swapped {l : List IT} {m : Nat} (h : HeapI l (m + 1)) (hl : l.length = m + 1) : DownI (swapI l 0 m) m 0 := by
  unfold DownI
  rw [swapI_map (by omega) (by omega)]
  exact HeapN.swapped h (by simpa using hl)
def QD.withIts (x : QD) (l : List IT) : QD := { x with its := l }
def QD.withFa (x : QD) (fa : Option Addr) (fc : Nat) (l : List IT) : QD := { x with its := l, fa := fa, fc := fc }
section
variable {w w' : World} {x : QD}
/-- An item's cells. -/
theorem QMem.item (h : QMem w x) {k : Nat} (hk : k < x.its.length) : ∃ q y, x.fa = some ⟨q, 0, none⟩ ∧ q < w.heap.size ∧ x.its[k]? = some y ∧ (∀ (j : Nat) (u : Value), y.c[j]? = some u → w.cell? ⟨q, k * 9 + j, none⟩ = some u) ∧ (∀ o, w.frozen? ⟨q, o, none⟩ = false) ∧ x.its.length ≤ x.fc ∧ q ≠ x.pb := by
  obtain ⟨q, hq, _, hl, hc⟩ := row_block h.row (by omega)
  obtain ⟨q2, hq2, _, _, _, _, hcap, _⟩ := ownsRow_setS (j := k * 9) (.int .i64 0) h.row (by omega)
  have hfb : x.v.ownBlock = some q := by unfold QD.v; rw [hq]; rfl
  obtain ⟨cur, hh⟩ := row_type h.row hfb
  exact ⟨q, x.its[k], hq, hl, List.getElem?_eq_getElem hk, fun j u hu => hc _ u (it_at x.its k _ (List.getElem?_eq_getElem hk) j u hu), fun o => free_at hh o, hcap, h.pb_ne hfb⟩
/-- Another item's cells: as nine stores leave them. -/
def putIt (w : World) (q k : Nat) (y : IT) : World := (((((((((w.setCell ⟨q, k * 9, none⟩ (.int .i64 y.k.st)).setCell ⟨q, k * 9 + 1, none⟩ (.int .i64 y.k.sy)).setCell ⟨q, k * 9 + 2, none⟩ (.int .i64 y.k.id)).setCell ⟨q, k * 9 + 3, none⟩ (.int .i64 y.k.sq)).setCell ⟨q, k * 9 + 4, none⟩ (.int .i64 y.at_)).setCell ⟨q, k * 9 + 5, none⟩ (.int .i64 y.kind)).setCell ⟨q, k * 9 + 6, none⟩ (.int .u64 y.ent)).setCell ⟨q, k * 9 + 7, none⟩ (.int .i64 y.comp)).setCell ⟨q, k * 9 + 8, none⟩ (.slice none 0 0))
theorem QMem.put (h : QMem w x) {k : Nat} (hk : k < x.its.length) (y : IT) {q : Nat} (hq : x.fa = some ⟨q, 0, none⟩) : QStep x (x.withIts (x.its.set k y)) w (putIt w q k y) := by
  have one : ∀ {W : World} {xs : List Value} (j : Nat) (u : Value), j < x.its.length * 9 → W.ownsRow 0 67 9 x.v x.its.length xs → (W.setCell ⟨q, j, none⟩ u).ownsRow 0 67 9 x.v x.its.length (xs.set j u) := by
    intro W xs j u hj ho
    obtain ⟨q2, hq2, hr, _⟩ := ownsRow_setS u ho hj
    have : q2 = q := by rw [hq] at hq2; cases hq2; rfl
    subst this
    exact hr
  have r0 := one (k * 9) (.int .i64 y.k.st) (by omega) h.row
  have r1 := one (k * 9 + 1) (.int .i64 y.k.sy) (by omega) r0
  have r2 := one (k * 9 + 2) (.int .i64 y.k.id) (by omega) r1
  have r3 := one (k * 9 + 3) (.int .i64 y.k.sq) (by omega) r2
  have r4 := one (k * 9 + 4) (.int .i64 y.at_) (by omega) r3
  have r5 := one (k * 9 + 5) (.int .i64 y.kind) (by omega) r4
  have r6 := one (k * 9 + 6) (.int .u64 y.ent) (by omega) r5
  have r7 := one (k * 9 + 7) (.int .i64 y.comp) (by omega) r6
  have r8 := one (k * 9 + 8) (.slice none 0 0) (by omega) r7
  rw [it_set] at r8
  have ho : Only q w (putIt w q k y) := ((((((((Only.at w q _ _).trans (Only.at _ q _ _)).trans (Only.at _ q _ _)).trans (Only.at _ q _ _)).trans (Only.at _ q _ _)).trans (Only.at _ q _ _)).trans (Only.at _ q _ _)).trans (Only.at _ q _ _)).trans (Only.at _ q _ _)
  have hfb : x.v.ownBlock = some q := by unfold QD.v; rw [hq]; rfl
  have hn := h.pb_ne hfb
  have hv : (x.withIts (x.its.set k y)).v = x.v := by unfold QD.v QD.withIts; simp
  refine ⟨⟨?_, h.po, ?_, h.ne⟩, ⟨rfl, rfl, rfl, rfl⟩, (Out.only ho rfl : Out (fun b => b = q) w _).mono (fun b hb => .inl (.inr (by rw [hb]; exact hfb))), fun b hb => .inl ?_⟩
  · rw [hv]
    exact keepO ho h.blk (Ne.symm hn)
  · rw [hv, show (x.withIts (x.its.set k y)).its.length = x.its.length by unfold QD.withIts; simp]
    exact r8
  · rcases hb with hb | hb
    · exact .inl hb
    · exact .inr (by rw [← hv]; exact hb)
end
end Go.Proofs.YtnhlnnehpmjeiaaGreatDoor
namespace Go.Proofs.YtnhlnnehpmjeiaaGreatDoor
open Go.RowKit
set_option linter.unusedVariables false
theorem FieldsAt.mono {B B' : Nat} {w : World} {a : Option Addr} {len : Nat} {fs : List Fld} (h : FieldsAt B w a len fs) (hb : B ≤ B') : FieldsAt B' w a len fs := by
  obtain ⟨h1, h2, h3⟩ := h
  refine ⟨h1, h2, ?_⟩
  rcases h3 with h3 | ⟨b, off, ha, hB, hc⟩
  · exact .inl h3
  · exact .inr ⟨b, off, ha, by omega, hc⟩
def fldOk (f : Fld) : Bool := decide (1 ≤ kSize f.kind) && decide (1 ≤ f.count) && decide (f.count ≤ 8)
def layCheck (fs : List Fld) : Int :=
  if 8 < fs.length then 1 else if fs.all fldOk then (if 256 < planSize fs then 5 else 0) else 1
theorem layCheck_long {fs : List Fld} (h : 8 < fs.length) : layCheck fs = 1 := by simp [layCheck, h]
theorem layCheck_bad {fs : List Fld} {f : Fld} {k : Nat} (hf : fs[k]? = some f) (h : fldOk f = false) : layCheck fs = 1 := by
  unfold layCheck
  split
  · rfl
  · rw [if_neg]
    intro ha
    rw [List.all_eq_true] at ha
    have := ha f (List.mem_of_getElem? hf)
    rw [h] at this; cases this
theorem layCheck_ok {fs : List Fld} (h : fs.length ≤ 8) (ha : fs.all fldOk = true) : layCheck fs = if 256 < planSize fs then 5 else 0 := by
  unfold layCheck; rw [if_neg (by omega), if_pos ha]
theorem fldOk_size {fs : List Fld} (h : fs.all fldOk = true) : ∀ f ∈ fs, 1 ≤ kSize f.kind := by
  intro f hf
  have := List.all_eq_true.1 h f hf
  simp [fldOk] at this
  omega
theorem fld84_0 (k : Int) (va : Option Addr) (n c : Nat) (w : World) : Sem.run Tryz.prog (Instr.field 162 (.agg #[.int .i64 k, .slice va n c]) 0) w = .ok (.int .i64 k) w := by kernel_rfl
set_option maxRecDepth 100000 in
set_option maxHeartbeats 1000000 in
theorem layCheck_any (fs : List Fld) (a : Option Addr) (len cap : Nat) (w : World) (hfs : FieldsAt w.heap.size w a len fs) :
    Calls Tryz.prog 62 #[.slice a len cap] w fun e w' => e = .returned (.int .i64 (layCheck fs)) ∧ Below w.heap.size w w' := by
  have hmx : len ≤ maxLen := hfs.2.1
  unfold maxLen at hmx
  have hfl := fld84_0
  by_cases h8 : 8 < len
  · have HL := Lib.hid (layCheck_long (fs := fs) (by rw [hfs.1]; exact h8))
    go_enter Tryz.func62, Tryz.ntmps62
    go_wp2
    go_ret
    exact ⟨ret_intk HL.out.symm, Below.refl _ _⟩
  · go_enter Tryz.func62, Tryz.ntmps62
    go_wp2
    go_loopw [10] (fun i wr => ∃ (k : Nat), k ≤ len ∧ i = .int .i64 k ∧ (fs.take k).all fldOk = true ∧ Below w.heap.size w wr)
      (fun i _ => len - (intOf i).toNat)
    case atStart => exact ⟨0, Nat.zero_le _, rfl, rfl, Below.refl _ _⟩
    case round =>
      obtain ⟨k, hk, rfl, hall, hbw⟩ := hrel
      have HA := Lib.hid hall
      clear hall
      have hzr := hbw.size
      by_cases hlt : k < len
      · obtain ⟨b, off, f, rfl, hB, hf, c0, c1, c2⟩ := hfs.get hbw hlt
        have htk := Lib.hid (take_snoc hf)
        have hks := kSize_bd f.kind
        go_wp2_with fail
        refine (size_any _ _).mono ?_
        rintro e w1 ⟨rfl, hb1⟩
        have hf1 := keep hb1 (heap_alloc_new wr _)
        have f2 := cell_at hf1 2
        simp at f2
        have hbel : Below w.heap.size w w1 := (hbw.alloc (by omega) _).trans (hb1.mono (by simp; omega))
        rcases (by omega : kSize f.kind = 0 ∨ (1 ≤ kSize f.kind ∧ f.count < 1) ∨ (1 ≤ kSize f.kind ∧ 1 ≤ f.count ∧ 8 < f.count) ∨ (1 ≤ kSize f.kind ∧ 1 ≤ f.count ∧ f.count ≤ 8)) with h | ⟨h, h'⟩ | ⟨h, h', h''⟩ | ⟨h, h', h''⟩
        · have HB := Lib.hid (layCheck_bad hf (by simp [fldOk, h]))
          rw [h]
          clear h
          go_wp2
          go_returns
          exact ⟨ret_intk HB.out.symm, hbel⟩
        · have HB := Lib.hid (layCheck_bad hf (by simp [fldOk, h]; omega))
          have e1 : (kSize f.kind == 0) = false := by simp; omega
          go_wp2
          go_returns
          exact ⟨ret_intk HB.out.symm, hbel⟩
        · have HB := Lib.hid (layCheck_bad hf (by simp [fldOk, h]; omega))
          have e1 : (kSize f.kind == 0) = false := by simp; omega
          go_wp2
          go_returns
          exact ⟨ret_intk HB.out.symm, hbel⟩
        · have HB := Lib.hid (show fldOk f = true by simp [fldOk]; omega)
          have e1 : (kSize f.kind == 0) = false := by simp; omega
          go_wp2
          go_roundw
          case rel =>
            refine ⟨k + 1, by omega, by go_num, ?_, hbel⟩
            rw [htk.out, List.all_append, HA.out]
            simp [HB.out]
          case measure => simp [intOf]; omega
      · obtain rfl : k = len := by omega
        have ht : fs.take k = fs := List.take_of_length_le (by have := hfs.1; omega)
        have HA' : Hid (fs.all fldOk = true) := Lib.hid (by have := HA.out; rwa [ht] at this)
        have HL := Lib.hid (layCheck_ok (by have := hfs.1; omega) HA'.out)
        clear ht
        go_wp2_with fail
        refine (plan_any fs _ _ _ _ ((hfs.below hbw).mono hzr) (by omega) (fldOk_size HA'.out)).mono ?_
        rintro e w1 ⟨va, vc, rfl, hown, hb1⟩
        by_cases h : 256 < planSize fs
        · go_wp2
          go_returns
          exact ⟨ret_intk (by rw [HL.out, if_pos h]), hbw.trans (hb1.mono (by omega))⟩
        · go_wp2
          go_returns
          exact ⟨ret_intk (by rw [HL.out, if_neg (by omega)]), hbw.trans (hb1.mono (by omega))⟩
def layPlanOf (fs : List Fld) : Int := if layCheck fs = 0 then planSize fs else 0
/-- The answer of 'Of': the size alone, and the error. -/
def IsOf (fs : List Fld) (w : World) (e : Ending) (w' : World) : Prop :=
  ∃ va n vc, e = .returned (.tuple #[.agg #[.int .i64 (layPlanOf fs), .slice va n vc], .int .i64 (layCheck fs)]) ∧ Below w.heap.size w w' ∧
    (layCheck fs = 0 → w'.ownsRow w.heap.size 3 1 (.slice va n vc) n ((planF fs).1.map (.int .i64)) ∧ n = fs.length)
set_option maxRecDepth 100000 in
theorem layOf_any (fs : List Fld) (a : Option Addr) (len cap : Nat) (w : World) (hfs : FieldsAt w.heap.size w a len fs) :
    Calls Tryz.prog 194 #[.slice a len cap] w (IsOf fs w) := by
  have hsz := World.size_alloc w (.cells #[.int .i64 0, .slice none 0 0] 162)
  go_enter Tryz.func194, Tryz.ntmps194
  go_wp2_with fail
  refine (layCheck_any fs _ _ _ _ ((hfs.below (Below.alloc (Below.refl _ _) (Nat.le_refl _) _)).mono (by simp))).mono ?_
  rintro e w1 ⟨rfl, hb1⟩
  have hr1 := keep hb1 (heap_alloc_new w _)
  have r0 := cell_at hr1 0
  have r1 := cell_at hr1 1
  have f0 := free_at hr1 0
  have f1 := free_at hr1 1
  simp at r0 r1
  have hbel : Below w.heap.size w w1 := (Below.alloc (Below.refl _ _) (Nat.le_refl _) _).trans (hb1.mono (by simp))
  by_cases h : layCheck fs = 0
  · have h8 : fs.length ≤ 8 ∧ fs.all fldOk = true := by
      unfold layCheck at h
      split at h
      · cases h
      · split at h
        · exact ⟨by omega, by assumption⟩
        · cases h
    have HP : Hid (layPlanOf fs = planSize fs) := Lib.hid (by simp [layPlanOf, h])
    have HC := Lib.hid h
    have e1 : (layCheck fs != 0) = false := by simp [h]
    clear h
    go_wp2_with fail
    refine (plan_any fs _ _ _ _ ((hfs.below hbel).mono hbel.size) (by have := hfs.1; omega) (fldOk_size h8.2)).mono ?_
    rintro e w2 ⟨va, vc, rfl, hown, hb2⟩
    have hr2 := keep hb2 hr1
    have s0 := cell_at hr2 0
    have s1 := cell_at hr2 1
    have t0 := free_at hr2 0
    have t1 := free_at hr2 1
    simp at s0 s1
    go_wp2
    refine bodyPost_ret (v := .tuple #[.agg #[.int .i64 (planSize fs), .slice va len vc], .int .i64 0]) (by simp [results, Tryz.results194, go_sem, s0, s1]) rfl ?_
    refine ⟨va, len, vc, by rw [HP.out, HC.out], ?_, fun _ => ⟨?_, hfs.1.symm⟩⟩
    · exact ((hbel.trans (hb2.mono hbel.size)).setCell (by simp) _).setCell (by simp) _
    · have := lt_some hr1
      exact ownsRow_mono (ownsRow_setCell_below (ownsRow_setCell_below hown (by simpa using this) _) (by simpa using this) _) (by omega)
  · have HP : Hid (layPlanOf fs = 0) := Lib.hid (by simp [layPlanOf, h])
    have e1 : (layCheck fs != 0) = true := by simp [h]
    have HN := Lib.hid h
    clear h
    go_wp2
    refine bodyPost_ret (v := .tuple #[.agg #[.int .i64 0, .slice none 0 0], .int .i64 (layCheck fs)]) (by simp [results, Tryz.results194, go_sem, r0, r1]) rfl ?_
    refine ⟨none, 0, 0, by rw [HP.out], ?_, fun h => absurd h HN.out⟩
    exact (hbel.setCell (by simp) _).setCell (by simp) _
end Go.Proofs.YtnhlnnehpmjeiaaGreatDoor
namespace Go.Proofs.YtnhlnnehpmjeiaaGreatDoor
open Go.RowKit
set_option linter.unusedVariables false
def colOk (size limit : Int) : Bool := decide (0 ≤ size) && decide (size ≤ 256) && decide (1 ≤ limit) && decide (limit ≤ 65536)
/-- A new column: nil, or a new block. -/
def IsCol (size limit : Int) (w : World) (e : Ending) (w' : World) : Prop :=
  if colOk size limit then e = .returned (.pointer (some ⟨w.heap.size, 0, none⟩)) ∧ w' = w.alloc (.cells #[.int .i64 size, .int .i64 limit, .int .i64 0, .slice none 0 0] 283)
  else e = .returned (.pointer none) ∧ w' = w
theorem colNew_any (size limit : Int) (w : World) : Calls Tryz.prog 202 #[.int .i64 size, .int .i64 limit] w (IsCol size limit w) := by
  rcases (by omega : size < 0 ∨ (0 ≤ size ∧ 256 < size) ∨ (0 ≤ size ∧ size ≤ 256 ∧ limit < 1) ∨ (0 ≤ size ∧ size ≤ 256 ∧ 1 ≤ limit ∧ 65536 < limit) ∨ (0 ≤ size ∧ size ≤ 256 ∧ 1 ≤ limit ∧ limit ≤ 65536)) with h | ⟨h, h'⟩ | ⟨h, h', h''⟩ | ⟨h, h', h'', h3⟩ | ⟨h, h', h'', h3⟩
  · have H : Hid (colOk size limit = false) := Lib.hid (by simp [colOk]; omega)
    go_enter Tryz.func202, Tryz.ntmps202
    go_wp2
    go_returns
    unfold IsCol; rw [H.out]; exact ⟨rfl, rfl⟩
  · have H : Hid (colOk size limit = false) := Lib.hid (by simp [colOk]; omega)
    go_enter Tryz.func202, Tryz.ntmps202
    go_wp2
    go_returns
    unfold IsCol; rw [H.out]; exact ⟨rfl, rfl⟩
  · have H : Hid (colOk size limit = false) := Lib.hid (by simp [colOk]; omega)
    go_enter Tryz.func202, Tryz.ntmps202
    go_wp2
    go_returns
    unfold IsCol; rw [H.out]; exact ⟨rfl, rfl⟩
  · have H : Hid (colOk size limit = false) := Lib.hid (by simp [colOk]; omega)
    go_enter Tryz.func202, Tryz.ntmps202
    go_wp2
    go_returns
    unfold IsCol; rw [H.out]; exact ⟨rfl, rfl⟩
  · have H : Hid (colOk size limit = true) := Lib.hid (by simp [colOk]; omega)
    go_enter Tryz.func202, Tryz.ntmps202
    go_wp2
    go_returns
    unfold IsCol; rw [H.out]; exact ⟨rfl, rfl⟩
def chB (c : UInt8) : Bool := letB c.toNat || (decide (48 ≤ c.toNat) && decide (c.toNat ≤ 57))
def isNameB (s : ByteArray) : Bool := decide (1 ≤ s.size) && decide (s.size ≤ 12) && letB ((s.data.toList.getD 0 0).toNat) && s.data.toList.all chB
theorem isName_long {s : ByteArray} (h : s.size = 0 ∨ 12 < s.size) : isNameB s = false := by unfold isNameB; rcases h with h | h <;> simp [h] <;> omega
theorem data_getD {s : ByteArray} {k : Nat} (h : k < s.size) : s.data.toList.getD k 0 = s[k] := by
  have h' : k < s.data.toList.length := by simpa using h
  rw [List.getD_eq_getElem?_getD, List.getElem?_eq_getElem h']
  simp; rfl
theorem data_get? {s : ByteArray} {k : Nat} (h : k < s.size) : s.data.toList[k]? = some s[k] := by
  have h' : k < s.data.toList.length := by simpa using h
  rw [List.getElem?_eq_getElem h']
  simp; rfl
theorem isName_head {s : ByteArray} (h0 : 0 < s.size) (h : letB (s[0].toNat) = false) : isNameB s = false := by
  unfold isNameB; rw [data_getD h0, h]; simp
theorem isName_bad {s : ByteArray} {k : Nat} (hk : k < s.size) (h : chB s[k] = false) : isNameB s = false := by
  unfold isNameB
  have : s.data.toList.all chB = false := by
    rw [List.all_eq_false]
    exact ⟨s[k], List.mem_of_getElem? (data_get? hk), by rw [h]; simp⟩
  rw [this]; simp
theorem isName_good {s : ByteArray} (h0 : 0 < s.size) (h1 : s.size ≤ 12) (h : letB (s[0].toNat) = true) (ha : s.data.toList.all chB = true) : isNameB s = true := by
  unfold isNameB; rw [data_getD h0, h, ha]; simp; omega
theorem empty_true {s : ByteArray} (h : s.size = 0) : s.toList = [] := by
  rw [ByteArray.toList_eq]
  have : s.data.size = 0 := h
  rw [← List.length_eq_zero_iff]
  simpa using this
theorem empty_false {s : ByteArray} (h : s.size ≠ 0) : s.toList.isEmpty = false := by
  rw [ByteArray.toList_eq]
  have : s.data.size ≠ 0 := h
  rw [Bool.eq_false_iff]
  intro h'
  rw [List.isEmpty_iff] at h'
  exact this (by rw [← Array.length_toList, h']; rfl)
set_option maxRecDepth 100000 in
theorem isName_any (s : ByteArray) (w : World) (hs : s.size ≤ maxLen) : Calls Tryz.prog 45 #[.string s] w fun e w' => e = .returned (.bool (isNameB s)) ∧ w = w' := by
  unfold maxLen at hs
  by_cases h0 : s.size = 0
  · have H := Lib.hid (isName_long (.inl h0))
    have e0 := empty_true h0
    clear h0
    go_enter Tryz.func45, Tryz.ntmps45
    go_wp2
    go_ret
    exact ⟨ret_bool H.out.symm, rfl⟩
  · have e0 := empty_false h0
    by_cases h1 : 12 < s.size
    · have H := Lib.hid (isName_long (.inr h1))
      go_enter Tryz.func45, Tryz.ntmps45
      go_wp2
      go_ret
      exact ⟨ret_bool H.out.symm, rfl⟩
    · have hp : 0 < s.size := by omega
      have hp' : (0 : Int) < (s.size : Int) := by omega
      have hd : decide (12 < (s.size : Int)) = false := by simp; omega
      go_enter Tryz.func45, Tryz.ntmps45
      go_wp2_with fail
      refine (isLetter_any _ _ (by omega) (by have := s[0].toNat_lt; omega)).mono ?_
      rintro e w' ⟨rfl, rfl⟩
      cases hl : letB (s[0].toNat)
      · have H := Lib.hid (isName_head hp hl)
        clear hl
        go_wp2
        go_ret
        exact ⟨ret_bool H.out.symm, rfl⟩
      · have HL := Lib.hid hl
        clear hl
        go_wp2_with fail
        go_loop [19] (fun i => ∃ k : Nat, k ≤ s.size ∧ i = .int .i64 k ∧ (s.data.toList.take k).all chB = true) (fun i => s.size - (intOf i).toNat)
        case atStart => exact ⟨0, Nat.zero_le _, rfl, rfl⟩
        case round =>
          obtain ⟨k, hk, rfl, hall⟩ := hrel
          have HA := Lib.hid hall
          clear hall
          by_cases hlt : k < s.size
          · have HT := Lib.hid (take_snoc (data_get? hlt))
            have hlt' : (k : Int) < (s.size : Int) := by omega
            go_wp2_with fail
            refine (isLetter_any _ _ (by omega) (by have := s[k].toNat_lt; omega)).mono ?_
            rintro e w' ⟨rfl, rfl⟩
            cases hl : letB (s[k].toNat)
            · rcases (by omega : (s[k].toNat : Int) < 48 ∨ (48 ≤ (s[k].toNat : Int) ∧ 57 < (s[k].toNat : Int)) ∨ (48 ≤ (s[k].toNat : Int) ∧ (s[k].toNat : Int) ≤ 57)) with h | ⟨h, h'⟩ | ⟨h, h'⟩
              · have H := Lib.hid (isName_bad hlt (by unfold chB; rw [hl]; simp; omega))
                have e1 : decide ((s[k].toNat : Int) < 48) = true := by simp; omega
                clear hl
                go_wp2
                go_ret
                exact ⟨ret_bool H.out.symm, rfl⟩
              · have H := Lib.hid (isName_bad hlt (by unfold chB; rw [hl]; simp; omega))
                have e1 : decide ((s[k].toNat : Int) < 48) = false := by simp; omega
                have e2 : decide (57 < (s[k].toNat : Int)) = true := by simp; omega
                clear hl
                go_wp2
                go_ret
                exact ⟨ret_bool H.out.symm, rfl⟩
              · have H := Lib.hid (show chB s[k] = true by unfold chB; rw [hl]; simp; omega)
                have e1 : decide ((s[k].toNat : Int) < 48) = false := by simp; omega
                have e2 : decide (57 < (s[k].toNat : Int)) = false := by simp; omega
                clear hl
                go_wp2
                go_round
                case rel => exact ⟨k + 1, by omega, by go_num, by rw [HT.out, List.all_append, HA.out]; simp [H.out]⟩
                case measure => simp [intOf]; omega
            · have H := Lib.hid (show chB s[k] = true by unfold chB; rw [hl]; simp)
              clear hl
              go_wp2
              go_round
              case rel => exact ⟨k + 1, by omega, by go_num, by rw [HT.out, List.all_append, HA.out]; simp [H.out]⟩
              case measure => simp [intOf]; omega
          · obtain rfl : k = s.size := by omega
            have H := Lib.hid (isName_good hp (by omega) HL.out (by have := HA.out; rwa [List.take_of_length_le (by simp)] at this))
            go_wp2
            go_ret
            exact ⟨ret_bool H.out.symm, rfl⟩
end Go.Proofs.YtnhlnnehpmjeiaaGreatDoor
