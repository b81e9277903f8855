/- The queue of commands that wait: another row, one less, one more. · Plain: who lives: ids, their generations. · The index in memory: what it holds, frames; handles. · The queue of free ids: its methods. -/
import Derived.Test.YtnhlnnehpmjeiaaGreatDoorP2
import Derived.Test.YtnhlnnehpmjeiaaGreatDoorP13
import Derived.WalkKit
import Derived.Test.YtnhlnnehpmjeiaaGreatDoorP1
import Derived.Test.YtnhlnnehpmjeiaaGreatDoorP9
import Derived.Test.YtnhlnnehpmjeiaaGreatDoorP4
import Derived.Laws.BitsAllLaws
import Derived.BigQuiet
import Derived.Deep.QuietTactic
import Derived.Deep.DeepCutAuto
namespace Go.Proofs.YtnhlnnehpmjeiaaGreatDoor
open Go.RowKit
set_option linter.unusedVariables false
theorem ownsRow_shrinkQ {w : World} {b : Nat} {e : TypeId} {s : Nat} {va : Option Addr} {n vc m : Nat} {xs : List Value} (h : w.ownsRow b e s (.slice va n vc) n xs) (hm : m ≤ n) (h0 : 0 < n) : w.ownsRow b e s (.slice va m vc) m (xs.take (m * s)) := by
  obtain ⟨h1, h2⟩ := h
  have hms : m * s ≤ n * s := Nat.mul_le_mul_right _ hm
  refine ⟨by rw [List.length_take]; omega, ?_⟩
  rcases h2 with ⟨_, h3⟩ | ⟨g, cap, cur, hv, hg, hh, hc1, hc2, hc3, hc4⟩
  · omega
  · cases hv
    exact .inr ⟨g, vc, cur, rfl, hg, hh, by omega, hc2, hc3, by rw [← hc4, List.take_take, Nat.min_eq_left hms]⟩
section
variable {w w' : World} {x : QD}
theorem set_twice (cs : Array Value) (o : Nat) (u v : Value) : (cs.setIfInBounds o u).setIfInBounds o v = cs.setIfInBounds o v := by
  apply Array.ext_getElem?
  intro i
  simp only [Array.getElem?_setIfInBounds]
  split <;> simp
/-- Another row is hung in. -/
theorem QMem.hang (h : QMem w x) {fa : Option Addr} {fc : Nat} {l : List IT} (hrow : w.ownsRow 0 67 9 (.slice fa l.length fc) l.length (l.flatMap IT.c)) : QMem (w.setCell ⟨x.pb, x.po, none⟩ (.slice fa l.length fc)) (x.withFa fa fc l) := by
  have ho : Out (fun b => b = x.pb) w (w.setCell ⟨x.pb, x.po, none⟩ (.slice fa l.length fc)) := Out.only (Only.at w x.pb x.po _) rfl
  refine ⟨?_, h.po, ownsRow_out hrow ho (fun b hb e => ?_), h.ne⟩
  · have := hset w x.pb x.po (.slice fa l.length fc) _ _ _ h.blk
    rw [set_twice] at this
    exact this
  · obtain ⟨cur, h1⟩ := row_type hrow hb
    rw [e, h.blk] at h1
    injection h1 with h1
    injection h1 with _ h2 _
    exact h.ne h2
theorem QMem.less (h : QMem w x) {m : Nat} (hm : x.its.length = m + 1) : QStep x (x.withIts (x.its.take m)) w (w.setCell ⟨x.pb, x.po, none⟩ (.slice x.fa m x.fc)) := by
  have hl : (x.its.take m).length = m := by rw [List.length_take]; omega
  have hr := ownsRow_shrinkQ h.row (show m ≤ x.its.length by omega) (by omega)
  have hob : (Value.slice x.fa m x.fc).ownBlock = x.v.ownBlock := by unfold QD.v; cases x.fa <;> rfl
  have := h.hang (l := x.its.take m) (fa := x.fa) (fc := x.fc) (by rw [hl, ← it_take]; exact hr)
  rw [hl] at this
  refine ⟨this, ⟨rfl, rfl, rfl, rfl⟩, (Out.only (Only.at w x.pb x.po _) (F := fun b => b = x.pb) rfl).mono (fun b hb => .inl (.inl hb)), fun b hb => .inl ?_⟩
  rcases hb with hb | hb
  · exact .inl hb
  · refine .inr ?_
    have hb : (Value.slice x.fa (x.its.take m).length x.fc).ownBlock = some b := hb
    rw [hl, hob] at hb
    exact hb
/-- The queue has an item more. -/
theorem QMem.app {W w6 : World} (h : QMem W x) {o : Obj} {q cap : Nat} {y : IT} (hg : (W.alloc o).drew.grownBy w6 x.v.ownBlock) (hrow : w6.ownsRow 0 67 9 (.slice (some ⟨q, 0, none⟩) (x.its.length + 1) cap) (x.its.length + 1) (x.its.flatMap IT.c ++ y.c)) (hat : x.v.ownBlock = some q ∨ q = W.heap.size + 1) :
    QStep x (x.withFa (some ⟨q, 0, none⟩) cap (x.its ++ [y])) W (w6.setCell ⟨x.pb, x.po, none⟩ (.slice (some ⟨q, 0, none⟩) (x.its.length + 1) cap)) := by
  have h1 : Out (fun b => x.v.ownBlock = some b) W w6 := ⟨hg.os, hg.tape, hg.output, by have := hg.size; simp at this; omega, fun k hk hF => (hg.block k (by simp; omega) (fun e => hF e.symm)).trans (by
    show (W.alloc o).heap[k]? = _
    rw [halloc, if_neg (by omega)])⟩
  have hblk := h1.keep h.blk (fun e => h.pb_ne e rfl)
  have hll : (x.its ++ [y]).length = x.its.length + 1 := by simp
  have hfm : (x.its ++ [y]).flatMap IT.c = x.its.flatMap IT.c ++ y.c := by simp
  have ho : Out (fun b => b = x.pb) w6 (w6.setCell ⟨x.pb, x.po, none⟩ (.slice (some ⟨q, 0, none⟩) (x.its.length + 1) cap)) := Out.only (Only.at w6 x.pb x.po _) rfl
  refine ⟨⟨?_, h.po, ?_, h.ne⟩, ⟨rfl, rfl, rfl, rfl⟩, ?_, ?_⟩
  · have := hset w6 x.pb x.po (.slice (some ⟨q, 0, none⟩) (x.its.length + 1) cap) _ _ _ hblk
    rw [set_twice] at this
    show (w6.setCell _ _).heap[x.pb]? = some (.cells (x.cs.setIfInBounds x.po (.slice (some ⟨q, 0, none⟩) (x.its ++ [y]).length cap)) x.ty (0, 0))
    rw [hll]
    exact this
  · show (w6.setCell _ _).ownsRow 0 67 9 (.slice (some ⟨q, 0, none⟩) (x.its ++ [y]).length cap) (x.its ++ [y]).length ((x.its ++ [y]).flatMap IT.c)
    rw [hll, hfm]
    refine ownsRow_out hrow ho (fun b hb e => ?_)
    obtain ⟨cur, k1⟩ := row_type hrow hb
    rw [e, hblk] at k1
    injection k1 with k1
    injection k1 with _ k2 _
    exact h.ne k2
  · exact (h1.mono (G := x.foot) (fun b hb => .inl (.inr hb))).trans ho (fun b hb => .inl (.inl hb))
  · rintro b (hb | hb)
    · exact .inl (.inl hb)
    · have e : b = q := by
        have hb : (Value.slice (some ⟨q, 0, none⟩) (x.its ++ [y]).length cap).ownBlock = some b := hb
        simpa [Value.ownBlock] using hb.symm
      subst e
      rcases hat with hat | hat
      · exact .inl (.inr hat)
      · exact .inr (by omega)
end
end Go.Proofs.YtnhlnnehpmjeiaaGreatDoor
namespace Go.Proofs.YtnhlnnehpmjeiaaGreatDoor
set_option linter.unusedVariables false
/-- The handle of an id and a generation. -/
def hOf (id gen : Int) : Int := gen * 4294967296 + id
theorem hOf_id {id gen : Int} (h0 : 0 ≤ id) (h1 : id < 4294967296) : hOf id gen % 4294967296 = id := by unfold hOf; omega
theorem hOf_gen {id gen : Int} (h0 : 0 ≤ id) (h1 : id < 4294967296) : hOf id gen / 4294967296 = gen := by unfold hOf; omega
theorem hOf_back {e : Int} : hOf (e % 4294967296) (e / 4294967296) = e := by unfold hOf; omega
structure IX where
  most : Int
  gens : List Int
  lives : List Bool
def IX.gen (x : IX) (id : Nat) : Int := x.gens.getD id 0
def IX.live (x : IX) (id : Nat) : Bool := x.lives.getD id false
structure IX.Ok (x : IX) : Prop where
  len : x.lives.length = x.gens.length
  n1 : 2 ≤ x.gens.length
  n2 : x.gens.length ≤ 257
  most1 : 1 ≤ x.most
  most2 : x.most ≤ 65535
  gen1 : ∀ id, 1 ≤ id → id < x.gens.length → 1 ≤ x.gen id ∧ x.gen id ≤ x.most + 1
  live0 : x.live 0 = false
  liveg : ∀ id, x.live id = true → x.gen id ≤ x.most
def IX.freeB (x : IX) (id : Nat) : Bool := decide (1 ≤ id) && decide (id < x.gens.length) && !x.live id && decide (x.gen id ≤ x.most)
/-- The id that would be next. -/
def IX.next (x : IX) : Option Nat := (List.range x.gens.length).find? x.freeB
/-- Does somebody live? -/
def IX.alive (x : IX) (e : Int) : Bool := x.live (e % 4294967296).toNat && decide (x.gen (e % 4294967296).toNat = e / 4294967296)
def IX.liveH (x : IX) (id : Nat) : Option Int := if x.live id then some (hOf id (x.gen id)) else none
/-- All who live. -/
def IX.liveL (x : IX) : List Int := (List.range x.gens.length).filterMap x.liveH
theorem nd_perm {l m : List Int} (hl : l.Nodup) (hm : m.Nodup) (h : ∀ x, x ∈ l ↔ x ∈ m) : l.Perm m := by
  induction l generalizing m with
  | nil =>
    cases m with
    | nil => exact .refl _
    | cons y r => exact absurd ((h y).2 (List.mem_cons_self)) (by simp)
  | cons x r ih =>
    have hx : x ∈ m := (h x).1 List.mem_cons_self
    have hnd := List.nodup_cons.1 hl
    refine ((ih hnd.2 (hm.erase x) fun y => ?_).cons x).trans (List.perm_cons_erase hx).symm
    rw [hm.mem_erase_iff]
    constructor
    · intro hy
      exact ⟨fun e => hnd.1 (e ▸ hy), (h y).1 (List.mem_cons_of_mem _ hy)⟩
    · rintro ⟨h1, h2⟩
      rcases List.mem_cons.1 ((h y).2 h2) with e | h3
      · exact absurd e h1
      · exact h3
theorem IX.live_lt {x : IX} (hl : x.lives.length = x.gens.length) {id : Nat} (h : x.live id = true) : id < x.gens.length := by
  refine Classical.byContradiction fun hn => ?_
  unfold IX.live at h
  rw [List.getD_eq_getElem?_getD, List.getElem?_eq_none (by omega)] at h
  cases h
theorem IX.mem_liveL {x : IX} (hl : x.lives.length = x.gens.length) (e : Int) : e ∈ x.liveL ↔ ∃ id : Nat, x.live id = true ∧ e = hOf id (x.gen id) := by
  unfold IX.liveL
  rw [List.mem_filterMap]
  constructor
  · rintro ⟨id, h1, h2⟩
    unfold IX.liveH at h2
    split at h2
    · rename_i h3; cases h2; exact ⟨id, h3, rfl⟩
    · cases h2
  · rintro ⟨id, h1, rfl⟩
    exact ⟨id, List.mem_range.2 (IX.live_lt hl h1), by unfold IX.liveH; rw [if_pos h1]⟩
section
variable {x : IX} (h : x.Ok)
include h
theorem IX.Ok.alive_iff (e : Int) (h0 : 0 ≤ e) : x.alive e = true ↔ e ∈ x.liveL := by
  have hlen := h.len
  have hn2 := h.n2
  rw [IX.mem_liveL h.len]
  unfold IX.alive
  rw [Bool.and_eq_true, decide_eq_true_iff]
  constructor
  · rintro ⟨h1, h2⟩
    refine ⟨_, h1, ?_⟩
    rw [h2]
    have : ((e % 4294967296).toNat : Int) = e % 4294967296 := by omega
    rw [this, hOf_back]
  · rintro ⟨id, h1, rfl⟩
    have := IX.live_lt hlen h1
    rw [hOf_id (by omega) (by omega), hOf_gen (by omega) (by omega), Int.toNat_natCast]
    exact ⟨h1, rfl⟩
theorem IX.Ok.pos {id : Nat} (hid : x.live id = true) : 1 ≤ id := by
  refine Classical.byContradiction fun hn => ?_
  obtain rfl : id = 0 := by omega
  rw [h.live0] at hid; cases hid
theorem IX.Ok.live_bd {e : Int} (he : e ∈ x.liveL) : 4294967297 ≤ e ∧ e < 281474976710656 ∧ e % 4294967296 < 257 ∧ 1 ≤ e % 4294967296 := by
  obtain ⟨id, h1, rfl⟩ := (IX.mem_liveL h.len e).1 he
  have hp := h.pos h1
  have hlt := IX.live_lt h.len h1
  have hn2 := h.n2
  have hg := h.gen1 id hp hlt
  have hg2 := h.liveg id h1
  have hm := h.most2
  rw [hOf_id (by omega) (by omega)]
  unfold hOf
  omega
theorem IX.Ok.liveL_nd : x.liveL.Nodup := by
  unfold IX.liveL
  rw [List.Nodup, List.pairwise_filterMap]
  refine List.nodup_range.imp_of_mem ?_
  intro a b ha hb hab u hu v hv huv
  have ha' := List.mem_range.1 ha
  have hb' := List.mem_range.1 hb
  have hn2 := h.n2
  unfold IX.liveH at hu hv
  split at hu
  · split at hv
    · cases hu; cases hv
      have := congrArg (fun z : Int => z % 4294967296) huv
      have this : hOf (a : Int) (x.gen a) % 4294967296 = hOf (b : Int) (x.gen b) % 4294967296 := this
      rw [hOf_id (by omega) (by omega), hOf_id (by omega) (by omega)] at this
      omega
    · cases hv
  · cases hu
theorem IX.Ok.live_id {e : Int} (he : e ∈ x.liveL) : ∃ id : Nat, x.live id = true ∧ e = hOf id (x.gen id) ∧ (e % 4294967296).toNat = id ∧ 1 ≤ id ∧ id < x.gens.length := by
  obtain ⟨id, h1, rfl⟩ := (IX.mem_liveL h.len e).1 he
  have hlt := IX.live_lt h.len h1
  have hn2 := h.n2
  exact ⟨id, h1, rfl, by rw [hOf_id (by omega) (by omega), Int.toNat_natCast], h.pos h1, hlt⟩
theorem IX.Ok.liveL_len : x.liveL.length + 1 ≤ x.gens.length := by
  unfold IX.liveL
  obtain ⟨m, hm⟩ : ∃ m, x.gens.length = m + 1 := ⟨x.gens.length - 1, by have := h.n1; omega⟩
  rw [hm, List.range_succ_eq_map, List.filterMap_cons]
  have : x.liveH 0 = none := by unfold IX.liveH; rw [h.live0]; rfl
  rw [this]
  have := List.length_filterMap_le x.liveH (List.map Nat.succ (List.range m))
  simp at this ⊢
  omega
end
def IX.spawn (x : IX) (id : Nat) : IX := { x with lives := x.lives.set id true }
def IX.kill (x : IX) (id : Nat) : IX := { x with lives := x.lives.set id false, gens := x.gens.set id (x.gen id + 1) }
theorem getD_set {α : Type} {l : List α} {i : Nat} (hi : i < l.length) (a d : α) (j : Nat) : (l.set i a).getD j d = if j = i then a else l.getD j d := by
  rw [List.getD_eq_getElem?_getD, List.getD_eq_getElem?_getD, List.getElem?_set]
  by_cases h : j = i
  · subst h; simp [hi]
  · rw [if_neg (fun e => h e.symm), if_neg h]
theorem IX.next_some {x : IX} {id : Nat} (h : x.next = some id) : 1 ≤ id ∧ id < x.gens.length ∧ x.live id = false ∧ x.gen id ≤ x.most := by
  have := List.find?_some h
  unfold IX.freeB at this
  simp at this
  exact ⟨this.1.1.1, this.1.1.2, this.1.2, this.2⟩
theorem IX.Ok.spawn {x : IX} (h : x.Ok) {id : Nat} (hn : x.next = some id) : (x.spawn id).Ok ∧ hOf id (x.gen id) ∉ x.liveL ∧ (x.spawn id).liveL.Perm (hOf id (x.gen id) :: x.liveL) := by
  obtain ⟨h1, h2, h3, h4⟩ := IX.next_some hn
  have hlen := h.len
  have hl : ∀ j, (x.spawn id).live j = if j = id then true else x.live j := fun j => getD_set (by omega) _ _ _
  have hok : (x.spawn id).Ok := by
    refine ⟨by simp [IX.spawn, h.len], h.n1, h.n2, h.most1, h.most2, h.gen1, ?_, fun j hj => ?_⟩
    · rw [hl, if_neg (by omega)]; exact h.live0
    · rw [hl] at hj
      split at hj
      · rename_i e; subst e; exact h4
      · exact h.liveg j hj
  have hno : hOf id (x.gen id) ∉ x.liveL := by
    intro he
    obtain ⟨j, k1, k2, k3, k4, k5⟩ := h.live_id he
    have hn2 := h.n2
    rw [hOf_id (by omega) (by omega), Int.toNat_natCast] at k3
    subst k3
    rw [h3] at k1; cases k1
  refine ⟨hok, hno, nd_perm hok.liveL_nd (List.nodup_cons.2 ⟨hno, h.liveL_nd⟩) fun e => ?_⟩
  rw [IX.mem_liveL hok.len, List.mem_cons, IX.mem_liveL h.len]
  constructor
  · rintro ⟨j, k1, rfl⟩
    rw [hl] at k1
    split at k1
    · rename_i e; subst e; exact .inl rfl
    · exact .inr ⟨j, k1, rfl⟩
  · rintro (rfl | ⟨j, k1, rfl⟩)
    · exact ⟨id, by rw [hl, if_pos rfl], rfl⟩
    · exact ⟨j, by rw [hl]; split <;> first | rfl | exact k1, rfl⟩
theorem IX.Ok.kill {x : IX} (h : x.Ok) {id : Nat} (hi : x.live id = true) : (x.kill id).Ok ∧ x.liveL.Perm (hOf id (x.gen id) :: (x.kill id).liveL) := by
  have hlen := h.len
  have hlt := IX.live_lt hlen hi
  have hp := h.pos hi
  have hl : ∀ j, (x.kill id).live j = if j = id then false else x.live j := fun j => getD_set (by omega) _ _ _
  have hg : ∀ j, (x.kill id).gen j = if j = id then x.gen id + 1 else x.gen j := fun j => getD_set (by omega) _ _ _
  have hgl : (x.kill id).gens.length = x.gens.length := by simp [IX.kill]
  have hok : (x.kill id).Ok := by
    refine ⟨by simp [IX.kill, h.len], by rw [hgl]; exact h.n1, by rw [hgl]; exact h.n2, h.most1, h.most2, fun j j1 j2 => ?_, ?_, fun j hj => ?_⟩
    · rw [hgl] at j2
      rw [hg]
      show _ ∧ _ ≤ x.most + 1
      split
      · have a := h.gen1 id hp hlt
        have b := h.liveg id hi
        omega
      · exact h.gen1 j j1 j2
    · rw [hl, if_neg (by omega)]; exact h.live0
    · rw [hl] at hj
      split at hj
      · cases hj
      · rename_i hj2
        rw [hg, if_neg hj2]
        exact h.liveg j hj
  have hn2 := h.n2
  have hno : hOf id (x.gen id) ∉ (x.kill id).liveL := by
    intro he
    obtain ⟨j, k1, k2, k3, k4, k5⟩ := hok.live_id he
    rw [hOf_id (by omega) (by omega), Int.toNat_natCast] at k3
    subst k3
    rw [hl, if_pos rfl] at k1; cases k1
  refine ⟨hok, nd_perm h.liveL_nd (List.nodup_cons.2 ⟨hno, hok.liveL_nd⟩) fun e => ?_⟩
  rw [IX.mem_liveL h.len, List.mem_cons, IX.mem_liveL hok.len]
  constructor
  · rintro ⟨j, k1, rfl⟩
    by_cases e : j = id
    · subst e; exact .inl rfl
    · exact .inr ⟨j, by rw [hl, if_neg e]; exact k1, by rw [hg, if_neg e]⟩
  · rintro (rfl | ⟨j, k1, rfl⟩)
    · exact ⟨id, hi, rfl⟩
    · rw [hl] at k1
      split at k1
      · cases k1
      · rename_i e
        exact ⟨j, k1, by rw [hg, if_neg e]⟩
/-- A heap of the ids that are free. -/
structure FreeOk (x : IX) (fr : List Int) : Prop where
  heap : HeapN fr fr.length
  nd : fr.Nodup
  mem : ∀ y, y ∈ fr ↔ ∃ id : Nat, y = id ∧ x.freeB id = true
theorem IX.freeB_lt {x : IX} {id : Nat} (h : x.freeB id = true) : id < x.gens.length ∧ 1 ≤ id := by
  unfold IX.freeB at h
  simp at h
  exact ⟨h.1.1.2, h.1.1.1⟩
theorem FreeOk.next {x : IX} {fr : List Int} (h : FreeOk x fr) (h0 : fr ≠ []) : ∃ id : Nat, x.next = some id ∧ at0 fr 0 = id := by
  have hl : 0 < fr.length := List.length_pos_iff.2 h0
  have hm : at0 fr 0 ∈ fr := List.mem_of_getElem? (at0_get hl)
  obtain ⟨id, hid, hf⟩ := (h.mem _).1 hm
  refine ⟨id, ?_, hid⟩
  unfold IX.next
  rw [List.find?_range_eq_some]
  refine ⟨hf, List.mem_range.2 (IX.freeB_lt hf).1, fun j hj => ?_⟩
  cases hb : x.freeB j with
  | false => rfl
  | true =>
    have hjm : (j : Int) ∈ fr := (h.mem _).2 ⟨j, rfl, hb⟩
    obtain ⟨k, hk⟩ := List.getElem?_of_mem hjm
    have := h.heap.least k (List.getElem?_eq_some_iff.1 hk).1
    rw [at0_some hk] at this
    omega
theorem FreeOk.next_none {x : IX} (h : FreeOk x []) : x.next = none := by
  unfold IX.next
  rw [List.find?_eq_none]
  intro j _ hb
  have := (h.mem j).2 ⟨j, rfl, hb⟩
  simp at this
theorem FreeOk.len {x : IX} {fr : List Int} (h : FreeOk x fr) (hx : x.Ok) : fr.length ≤ 257 := by
  have hn2 := hx.n2
  have h1 : ∀ y ∈ fr, y ∈ (List.range x.gens.length).map (fun (j : Nat) => (j : Int)) := fun y hy => by
    obtain ⟨id, rfl, hf⟩ := (h.mem y).1 hy
    exact List.mem_map.2 ⟨id, List.mem_range.2 (IX.freeB_lt hf).1, rfl⟩
  have := h.nd.length_le_of_subset h1
  simp at this
  omega
theorem FreeOk.pop {x : IX} {fr fr' : List Int} (h : FreeOk x fr) {id : Nat} (hn : x.next = some id) (hx : x.Ok) (hh : HeapN fr' fr'.length) (hp : fr.Perm ((id : Int) :: fr')) : FreeOk (x.spawn id) fr' := by
  have hlen := hx.len
  obtain ⟨h1, h2, h3, h4⟩ := IX.next_some hn
  have hnd := List.nodup_cons.1 (hp.nodup h.nd)
  refine ⟨hh, hnd.2, fun y => ?_⟩
  have hm : y ∈ fr' ↔ y ∈ fr ∧ y ≠ id := by
    rw [hp.mem_iff, List.mem_cons]
    constructor
    · intro hy; exact ⟨.inr hy, fun e => hnd.1 (e ▸ hy)⟩
    · rintro ⟨k1 | k1, k2⟩
      · exact absurd k1 k2
      · exact k1
  have hb : ∀ j, (x.spawn id).freeB j = (x.freeB j && decide (j ≠ id)) := fun j => by
    have hl : (x.spawn id).live j = if j = id then true else x.live j := getD_set (by omega) _ _ _
    unfold IX.freeB
    rw [hl]
    have hg : (x.spawn id).gen j = x.gen j := rfl
    have hl2 : (x.spawn id).gens.length = x.gens.length := rfl
    have hl3 : (x.spawn id).most = x.most := rfl
    rw [hg, hl2, hl3]
    by_cases e : j = id
    · simp [e]
    · simp [e]
  rw [hm, h.mem]
  constructor
  · rintro ⟨⟨j, rfl, hj⟩, hne⟩
    exact ⟨j, rfl, by rw [hb, hj]; simp; omega⟩
  · rintro ⟨j, rfl, hj⟩
    rw [hb, Bool.and_eq_true, decide_eq_true_iff] at hj
    exact ⟨⟨j, rfl, hj.1⟩, by have := hj.2; omega⟩
theorem FreeOk.push {x : IX} {fr fr' : List Int} (h : FreeOk x fr) {id : Nat} (hi : x.live id = true) (hx : x.Ok) (hh : HeapN fr' fr'.length) (hp : fr'.Perm (if x.gen id + 1 ≤ x.most then (id : Int) :: fr else fr)) : FreeOk (x.kill id) fr' := by
  have hlen := hx.len
  have hlt := IX.live_lt hlen hi
  have h1 := hx.pos hi
  have hb : ∀ j, (x.kill id).freeB j = if j = id then decide (x.gen id + 1 ≤ x.most) else x.freeB j := fun j => by
    have hl : (x.kill id).live j = if j = id then false else x.live j := getD_set (by omega) _ _ _
    have hg : (x.kill id).gen j = if j = id then x.gen id + 1 else x.gen j := getD_set (by omega) _ _ _
    unfold IX.freeB
    rw [hl, hg]
    by_cases e : j = id
    · subst e; simp [IX.kill, h1, hlt]
    · simp [e, IX.kill]
  have hidn : (id : Int) ∉ fr := fun hm => by
    obtain ⟨j, hj, hf⟩ := (h.mem _).1 hm
    obtain rfl : id = j := by omega
    unfold IX.freeB at hf
    rw [hi] at hf
    simp at hf
  by_cases hg : x.gen id + 1 ≤ x.most
  · rw [if_pos hg] at hp
    refine ⟨hh, hp.symm.nodup (List.nodup_cons.2 ⟨hidn, h.nd⟩), fun y => ?_⟩
    rw [hp.mem_iff, List.mem_cons, h.mem]
    constructor
    · rintro (rfl | ⟨j, rfl, hj⟩)
      · exact ⟨id, rfl, by rw [hb, if_pos rfl]; simpa using hg⟩
      · refine ⟨j, rfl, ?_⟩
        rw [hb]
        split
        · simpa using hg
        · exact hj
    · rintro ⟨j, rfl, hj⟩
      rw [hb] at hj
      split at hj
      · rename_i e; subst e; exact .inl rfl
      · exact .inr ⟨j, rfl, hj⟩
  · rw [if_neg hg] at hp
    refine ⟨hh, hp.symm.nodup h.nd, fun y => ?_⟩
    rw [hp.mem_iff, h.mem]
    constructor
    · rintro ⟨j, rfl, hj⟩
      refine ⟨j, rfl, ?_⟩
      rw [hb, if_neg]
      · exact hj
      · rintro rfl
        exact hidn ((h.mem _).2 ⟨j, rfl, hj⟩)
    · rintro ⟨j, rfl, hj⟩
      rw [hb] at hj
      split at hj
      · simp at hj; omega
      · exact ⟨j, rfl, hj⟩
end Go.Proofs.YtnhlnnehpmjeiaaGreatDoor
namespace Go.Proofs.YtnhlnnehpmjeiaaGreatDoor
open Go.RowKit
set_option linter.unusedVariables false
structure XD where
  xb : Nat
  ix : IX
  fr : List Int
  ga : Option Addr
  gc : Nat
  la : Option Addr
  lc : Nat
  fa : Option Addr
  fc : Nat
def XD.foot (x : XD) (b : Nat) : Prop := b = x.xb ∨ (Value.slice x.ga x.ix.gens.length x.gc).ownBlock = some b ∨ (Value.slice x.la x.ix.lives.length x.lc).ownBlock = some b ∨ (Value.slice x.fa x.fr.length x.fc).ownBlock = some b
/-- The index's memory, but for the heap. -/
structure XMem (w : World) (x : XD) : Prop where
  blk : w.heap[x.xb]? = some (.cells #[.int .i64 x.ix.most, .slice x.ga x.ix.gens.length x.gc, .slice x.la x.ix.lives.length x.lc, .slice x.fa x.fr.length x.fc] 128 (0, 0))
  gensR : w.ownsRow 0 3 1 (.slice x.ga x.ix.gens.length x.gc) x.ix.gens.length (x.ix.gens.map (.int .i64))
  livesR : w.ownsRow 0 4 1 (.slice x.la x.ix.lives.length x.lc) x.ix.lives.length (x.ix.lives.map .bool)
  freeR : w.ownsRow 0 3 1 (.slice x.fa x.fr.length x.fc) x.fr.length (x.fr.map (.int .i64))
  ne : ∀ b, (Value.slice x.ga x.ix.gens.length x.gc).ownBlock = some b → (Value.slice x.fa x.fr.length x.fc).ownBlock ≠ some b
structure XIn (w : World) (x : XD) : Prop extends XMem w x where
  ok : x.ix.Ok
  free : FreeOk x.ix x.fr
theorem XMem.out {w w' : World} {x : XD} {F : Nat → Prop} (h : XMem w x) (ho : Out F w w') (hF : ∀ b, x.foot b → ¬ F b) : XMem w' x :=
  ⟨ho.keep h.blk (hF _ (.inl rfl)), ownsRow_out h.gensR ho (fun b hb => hF b (.inr (.inl hb))), ownsRow_out h.livesR ho (fun b hb => hF b (.inr (.inr (.inl hb)))), ownsRow_out h.freeR ho (fun b hb => hF b (.inr (.inr (.inr hb)))), h.ne⟩
theorem XIn.out {w w' : World} {x : XD} {F : Nat → Prop} (h : XIn w x) (ho : Out F w w') (hF : ∀ b, x.foot b → ¬ F b) : XIn w' x := ⟨h.toXMem.out ho hF, h.ok, h.free⟩
theorem XIn.below {w w' : World} {x : XD} (h : XIn w x) (hb : Below w.heap.size w w') : XIn w' x := h.out (F := fun _ => False) (Out.of hb) (fun _ _ => id)
theorem hOf_bits {id gen : Nat} (h : id < 4294967296) (hg : gen < 4294967296) : bits BinOp.or .u64 ((gen : Int) * 4294967296) (id : Int) = hOf id gen := by
  have e : ((gen : Int) * 4294967296) = ((gen * 4294967296 : Nat) : Int) := by omega
  rw [e, u64_or_nat _ _ (by omega) (by omega)]
  have := Nat.two_pow_add_eq_or_of_lt (i := 32) (b := id) (by omega) gen
  rw [show gen * 4294967296 = 2 ^ 32 * gen by omega, ← this]
  unfold hOf
  omega
theorem low_bits {e : Int} (h0 : 0 ≤ e) (h1 : e < 18446744073709551616) : bits BinOp.and .u64 e 4294967295 = e % 4294967296 := by
  obtain ⟨n, rfl⟩ := Int.eq_ofNat_of_zero_le h0
  rw [show (4294967295 : Int) = ((4294967295 : Nat) : Int) from rfl, u64_and_nat _ _ (by omega) (by omega), nat_mask32]
  omega
theorem entOf_any (id gen : Nat) (w : World) (h1 : 1 ≤ id) (h2 : id < 4294967296) (g1 : 1 ≤ gen) (g2 : gen < 4294967296) : Calls Tryz.prog 173 #[.int .i64 id, .int .i64 gen] w fun e w' => e = .returned (.int .u64 (hOf id gen)) ∧ w = w' := by
  have HB := Lib.hid (hOf_bits h2 g2)
  go_enter Tryz.func173, Tryz.ntmps173
  go_wp2_with fail
  all_goals
    go_returns
    exact ⟨ret_intk HB.out, rfl⟩
theorem entId_any (e : Int) (w : World) (h0 : 0 ≤ e) (h1 : e < 18446744073709551616) : Calls Tryz.prog 31 #[.int .u64 e] w fun en w' => en = .returned (.int .i64 (e % 4294967296)) ∧ w = w' := by
  have hb := low_bits h0 h1
  have b0 : 0 ≤ e % 4294967296 := by omega
  have b1 : e % 4294967296 < 4294967296 := by omega
  go_enter Tryz.func31, Tryz.ntmps31
  go_wp2_with fail
  go_returns
  exact ⟨rfl, rfl⟩
theorem entGen_any (e : Int) (w : World) (h0 : 0 ≤ e) (h1 : e < 18446744073709551616) : Calls Tryz.prog 32 #[.int .u64 e] w fun en w' => en = .returned (.int .i64 (e / 4294967296)) ∧ w = w' := by
  have b0 : 0 ≤ e / 4294967296 := by omega
  have b1 : e / 4294967296 < 4294967296 := by omega
  go_enter Tryz.func32, Tryz.ntmps32
  go_wp2_with fail
  go_returns
  exact ⟨rfl, rfl⟩
end Go.Proofs.YtnhlnnehpmjeiaaGreatDoor
namespace Go.Proofs.YtnhlnnehpmjeiaaGreatDoor
open Go.RowKit
set_option linter.unusedVariables false
theorem XMem.cells {w : World} {x : XD} (h : XMem w x) : w.cell? ⟨x.xb, 0, none⟩ = some (.int .i64 x.ix.most) ∧ w.cell? ⟨x.xb, 1, none⟩ = some (.slice x.ga x.ix.gens.length x.gc) ∧ w.cell? ⟨x.xb, 2, none⟩ = some (.slice x.la x.ix.lives.length x.lc) ∧ w.cell? ⟨x.xb, 3, none⟩ = some (.slice x.fa x.fr.length x.fc) ∧ ∀ o, w.frozen? ⟨x.xb, o, none⟩ = false := by
  have c0 := cell_at h.blk 0
  have c1 := cell_at h.blk 1
  have c2 := cell_at h.blk 2
  have c3 := cell_at h.blk 3
  simp at c0 c1 c2 c3
  exact ⟨c0, c1, c2, c3, fun o => free_at h.blk o⟩
def XD.withFr (x : XD) (l : List Int) : XD := { x with fr := l }
/-- A deed of the index's memory. -/
structure XStep (x x' : XD) (w w' : World) : Prop where
  mem : XMem w' x'
  xb : x'.xb = x.xb
  out : Out x.foot w w'
  foot : ∀ b, x'.foot b → x.foot b ∨ w.heap.size ≤ b
theorem XStep.trans {x y z : XD} {a b c : World} (h : XStep x y a b) (k : XStep y z b c) : XStep x z a c :=
  ⟨k.mem, k.xb.trans h.xb, h.out.trans k.out h.foot, fun q hq => (k.foot q hq).elim (h.foot q) fun hb => .inr (Nat.le_trans h.out.size hb)⟩
theorem XStep.refl {x : XD} {w : World} (h : XMem w x) : XStep x x w w := ⟨h, rfl, Out.refl _ _, fun _ => .inl⟩
theorem XStep.below {x y : XD} {a b c : World} (h : XStep x y a b) (hb : Below b.heap.size b c) : XStep x y a c :=
  h.trans ⟨h.mem.out (F := fun _ => False) (Out.of hb) (fun _ _ => id), rfl, Out.of hb, fun _ => .inl⟩
theorem XMem.frow {w : World} {x : XD} (h : XMem w x) {k : Nat} (hk : k < x.fr.length) : ∃ q, x.fa = some ⟨q, 0, none⟩ ∧ q < w.heap.size ∧ w.cell? ⟨q, k, none⟩ = some (.int .i64 (at0 x.fr k)) ∧ w.frozen? ⟨q, k, none⟩ = false ∧ x.fr.length ≤ x.fc ∧ q ≠ x.xb := by
  obtain ⟨q, hq, _, hl, hc⟩ := row_block h.freeR (by omega)
  obtain ⟨q2, hq2, _, hf, _, hcap⟩ := ownsRow_set (r := k) (.int .i64 0) h.freeR hk
  have : q2 = q := by rw [hq] at hq2; cases hq2; rfl
  subst this
  refine ⟨q2, hq, hl, hc k _ (by rw [List.getElem?_map, at0_get hk]; rfl), hf, hcap, fun e => ?_⟩
  have h1 := ownsRow_ne_block3 h.freeR h.blk (fun cur he => by cases he)
  rw [hq] at h1
  exact h1 (by rw [e]; rfl)
/-- Another number in the queue. -/
theorem XMem.fput {w : World} {x : XD} (h : XMem w x) {k : Nat} (hk : k < x.fr.length) (y : Int) {q : Nat} (hq : x.fa = some ⟨q, 0, none⟩) : XStep x (x.withFr (x.fr.set k y)) w (w.setCell ⟨q, k, none⟩ (.int .i64 y)) := by
  obtain ⟨q2, hq2, hrow, hf, hql, hcap⟩ := ownsRow_set (r := k) (.int .i64 y) h.freeR hk
  have : q2 = q := by rw [hq] at hq2; cases hq2; rfl
  subst this
  have ho : Only q2 w (w.setCell ⟨q2, k, none⟩ (.int .i64 y)) := Only.at w q2 k _
  have hfb : (Value.slice x.fa x.fr.length x.fc).ownBlock = some q2 := by rw [hq]; rfl
  have hn1 : q2 ≠ x.xb := fun e => by
    have h1 := ownsRow_ne_block3 h.freeR h.blk (fun cur he => by cases he)
    exact h1 (by rw [hfb, e])
  have hn2 : ∀ b, (Value.slice x.ga x.ix.gens.length x.gc).ownBlock = some b → b ≠ q2 := fun b hb e => h.ne b hb (by rw [e]; exact hfb)
  have hn3 : ∀ b, (Value.slice x.la x.ix.lives.length x.lc).ownBlock = some b → b ≠ q2 := fun b hb e => by
    subst e
    obtain ⟨c1, h1⟩ := row_type h.livesR hb
    obtain ⟨c2, h2⟩ := row_type h.freeR hfb
    rw [h1] at h2; cases h2
  have hout : Out (fun b => b = q2) w (w.setCell ⟨q2, k, none⟩ (.int .i64 y)) := Out.only ho rfl
  refine ⟨⟨?_, ownsRow_out h.gensR hout hn2, ownsRow_out h.livesR hout hn3, ?_, ?_⟩, rfl, hout.mono (fun b hb => .inl (by subst hb; exact .inr (.inr (.inr hfb)))), fun b hb => .inl ?_⟩
  · have := keepO ho h.blk (Ne.symm hn1)
    simpa [XD.withFr] using this
  · simpa [XD.withFr, List.map_set] using hrow
  · intro b hb
    have := h.ne b hb
    simpa [XD.withFr] using this
  · rcases hb with hb | hb | hb | hb
    · exact .inl hb
    · exact .inr (.inl hb)
    · exact .inr (.inr (.inl hb))
    · exact .inr (.inr (.inr (by simpa [XD.withFr] using hb)))
theorem qLen_any (a : Option Addr) (n c : Nat) (w : World) : Calls Tryz.prog 224 #[.slice a n c] w fun e w' => e = .returned (.int .i64 n) ∧ w = w' := by
  go_enter Tryz.func224, Tryz.ntmps224
  go_wp2_with fail
  go_returns
  exact ⟨rfl, rfl⟩
theorem qLess_any (x : XD) (w : World) (h : XMem w x) (i j : Nat) (hi : i < x.fr.length) (hj : j < x.fr.length) : Calls Tryz.prog 225 #[.slice x.fa x.fr.length x.fc, .int .i64 i, .int .i64 j] w fun e w' => e = .returned (.bool (decide (at0 x.fr i < at0 x.fr j))) ∧ ∃ n, w' = w.drewN n := by
  obtain ⟨q, hq, _, ci, _, hcap, _⟩ := h.frow hi
  obtain ⟨q', hq', _, cj, _, _, _⟩ := h.frow hj
  have : q' = q := by rw [hq] at hq'; cases hq'; rfl
  subst this
  rw [hq]
  have i0 : (0 : Int) ≤ (i : Int) := by omega
  have i1 : (i : Int) < (x.fr.length : Int) := by omega
  have j0 : (0 : Int) ≤ (j : Int) := by omega
  have j1 : (j : Int) < (x.fr.length : Int) := by omega
  have H := Lib.hid h
  have HQ := Lib.hid hq
  clear h hq hq' hi hj
  go_enter Tryz.func225, Tryz.ntmps225
  go_wp2_with fail
  go_quiet (fail)
  go_wp2_with fail
  go_returns
  exact ⟨rfl, _, rfl⟩
theorem qSwap_any (x : XD) (w : World) (h : XMem w x) (i j : Nat) (hi : i < x.fr.length) (hj : j < x.fr.length) : Calls Tryz.prog 226 #[.slice x.fa x.fr.length x.fc, .int .i64 i, .int .i64 j] w fun e w' => e = .returned (.tuple #[]) ∧ XStep x (x.withFr (swapL x.fr i j)) w w' := by
  obtain ⟨q, hq, _, ci, fi, hcap, _⟩ := h.frow hi
  obtain ⟨q', hq', _, cj, fj, _, _⟩ := h.frow hj
  have : q' = q := by rw [hq] at hq'; cases hq'; rfl
  subst this
  rw [hq]
  have i0 : (0 : Int) ≤ (i : Int) := by omega
  have i1 : (i : Int) < (x.fr.length : Int) := by omega
  have j0 : (0 : Int) ≤ (j : Int) := by omega
  have j1 : (j : Int) < (x.fr.length : Int) := by omega
  have hst := h.fput hi (at0 x.fr j) hq
  have hj2 : j < (x.fr.set i (at0 x.fr j)).length := by simpa using hj
  obtain ⟨q3, hq3, _, cs, fs, _, _⟩ := hst.mem.frow hj2
  have : q3 = q' := by
    have hq3 : x.fa = some ⟨q3, 0, none⟩ := hq3
    rw [hq] at hq3; cases hq3; rfl
  subst this
  have e1 : at0 (x.fr.set i (at0 x.fr j)) j = at0 x.fr j := by
    unfold at0
    rw [List.getD_eq_getElem?_getD, List.getD_eq_getElem?_getD, List.getElem?_set]
    split
    · rename_i e; subst e; simp [hi]
    · rfl
  have cs : (w.setCell ⟨q3, i, none⟩ (.int .i64 (at0 x.fr j))).cell? ⟨q3, j, none⟩ = some (.int .i64 (at0 (x.fr.set i (at0 x.fr j)) j)) := cs
  rw [e1] at cs
  have hst2 := hst.trans (hst.mem.fput hj2 (at0 x.fr i) hq)
  have HST := Lib.hid hst2
  clear h hq hq' hst hst2 e1 hq3 hj2
  go_enter Tryz.func226, Tryz.ntmps226
  go_wp2_with fail
  go_region
  all_goals
    go_wp2_with fail
    go_end0
    exact ⟨rfl, HST.out.below ⟨rfl, rfl, rfl, Nat.le_refl _, fun _ _ => rfl⟩⟩
end Go.Proofs.YtnhlnnehpmjeiaaGreatDoor
