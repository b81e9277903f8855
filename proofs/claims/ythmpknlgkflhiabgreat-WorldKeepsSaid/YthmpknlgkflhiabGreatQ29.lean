/- Plain: who lives: ids, their generations. · The index in memory: what it holds, frames; handles. · A world in memory: its index, its graph with the tables' rows, its map of places; frames. -/
import Derived.Test.YthmpknlgkflhiabGreatQ28
import Derived.Test.YthmpknlgkflhiabGreatQ10
import Derived.Test.YthmpknlgkflhiabGreatQ7
import Derived.Test.YthmpknlgkflhiabGreatQ4
import Derived.Laws.BitsAllLaws
import Derived.Test.YthmpknlgkflhiabGreatQ20
namespace Go.Proofs.YthmpknlgkflhiabGreat
set_option linter.unusedVariables false
def hOf (id gen : Int) : Int := gen * 4294967296 + id
theorem hOf_id {id gen : Int} (h0 : 0 ≤ id) (h1 : id < 4294967296) : hOf id gen % 4294967296 = id := by unfold hOf; omega
theorem hOf_gen {id gen : Int} (h0 : 0 ≤ id) (h1 : id < 4294967296) : hOf id gen / 4294967296 = gen := by unfold hOf; omega
theorem hOf_back {e : Int} : hOf (e % 4294967296) (e / 4294967296) = e := by unfold hOf; omega
structure IX where
 most : Int
 gens : List Int
 lives : List Bool
def IX.gen (x : IX) (id : Nat) : Int := x.gens.getD id 0
def IX.live (x : IX) (id : Nat) : Bool := x.lives.getD id false
structure IX.Ok (x : IX) : Prop where
 len : x.lives.length = x.gens.length
 n1 : 2 ≤ x.gens.length
 n2 : x.gens.length ≤ 257
 most1 : 1 ≤ x.most
 most2 : x.most ≤ 65535
 gen1 : ∀ id, 1 ≤ id → id < x.gens.length → 1 ≤ x.gen id ∧ x.gen id ≤ x.most + 1
 live0 : x.live 0 = false
 liveg : ∀ id, x.live id = true → x.gen id ≤ x.most
def IX.freeB (x : IX) (id : Nat) : Bool := decide (1 ≤ id) && decide (id < x.gens.length) && !x.live id && decide (x.gen id ≤ x.most)
def IX.next (x : IX) : Option Nat := (List.range x.gens.length).find? x.freeB
def IX.alive (x : IX) (e : Int) : Bool := x.live (e % 4294967296).toNat && decide (x.gen (e % 4294967296).toNat = e / 4294967296)
def IX.liveH (x : IX) (id : Nat) : Option Int := if x.live id then some (hOf id (x.gen id)) else none
def IX.liveL (x : IX) : List Int := (List.range x.gens.length).filterMap x.liveH
theorem nd_perm {l m : List Int} (hl : l.Nodup) (hm : m.Nodup) (h : ∀ x, x ∈ l ↔ x ∈ m) : l.Perm m := by
 induction l generalizing m with
 | nil =>
  cases m with
  | nil => exact .refl _
  | cons y r => exact absurd ((h y).2 (List.mem_cons_self)) (by simp)
 | cons x r ih =>
  have hx : x ∈ m := (h x).1 List.mem_cons_self
  have hnd := List.nodup_cons.1 hl
  refine ((ih hnd.2 (hm.erase x) fun y => ?_).cons x).trans (List.perm_cons_erase hx).symm
  rw [hm.mem_erase_iff]
  constructor
  ·intro hy
   exact ⟨fun e => hnd.1 (e ▸ hy), (h y).1 (List.mem_cons_of_mem _ hy)⟩
  ·rintro ⟨h1, h2⟩
   rcases List.mem_cons.1 ((h y).2 h2) with e | h3
   ·exact absurd e h1
   ·exact h3
theorem IX.live_lt {x : IX} (hl : x.lives.length = x.gens.length) {id : Nat} (h : x.live id = true) : id < x.gens.length := by
 refine Classical.byContradiction fun hn => ?_
 unfold IX.live at h
 rw [List.getD_eq_getElem?_getD, List.getElem?_eq_none (by omega)] at h
 cases h
theorem IX.mem_liveL {x : IX} (hl : x.lives.length = x.gens.length) (e : Int) : e ∈ x.liveL ↔ ∃ id : Nat, x.live id = true ∧ e = hOf id (x.gen id) := by
 unfold IX.liveL
 rw [List.mem_filterMap]
 constructor
 ·rintro ⟨id, h1, h2⟩
  unfold IX.liveH at h2
  split at h2
  ·rename_i h3; cases h2; exact ⟨id, h3, rfl⟩
  ·cases h2
 ·rintro ⟨id, h1, rfl⟩
  exact ⟨id, List.mem_range.2 (IX.live_lt hl h1), by unfold IX.liveH; rw [if_pos h1]⟩
section
variable {x : IX} (h : x.Ok)
include h
theorem IX.Ok.alive_iff (e : Int) (h0 : 0 ≤ e) : x.alive e = true ↔ e ∈ x.liveL := by
 have hlen := h.len
 have hn2 := h.n2
 rw [IX.mem_liveL h.len]
 unfold IX.alive
 rw [Bool.and_eq_true, decide_eq_true_iff]
 constructor
 ·rintro ⟨h1, h2⟩
  refine ⟨_, h1, ?_⟩
  rw [h2]
  have : ((e % 4294967296).toNat : Int) = e % 4294967296 := by omega
  rw [this, hOf_back]
 ·rintro ⟨id, h1, rfl⟩
  have := IX.live_lt hlen h1
  rw [hOf_id (by omega) (by omega), hOf_gen (by omega) (by omega), Int.toNat_natCast]
  exact ⟨h1, rfl⟩
theorem IX.Ok.pos {id : Nat} (hid : x.live id = true) : 1 ≤ id := by
 refine Classical.byContradiction fun hn => ?_
 obtain rfl : id = 0 := by omega
 rw [h.live0] at hid; cases hid
theorem IX.Ok.live_bd {e : Int} (he : e ∈ x.liveL) : 4294967297 ≤ e ∧ e < 281474976710656 ∧ e % 4294967296 < 257 ∧ 1 ≤ e % 4294967296 := by
 obtain ⟨id, h1, rfl⟩ := (IX.mem_liveL h.len e).1 he
 have hp := h.pos h1
 have hlt := IX.live_lt h.len h1
 have hn2 := h.n2
 have hg := h.gen1 id hp hlt
 have hg2 := h.liveg id h1
 have hm := h.most2
 rw [hOf_id (by omega) (by omega)]
 unfold hOf
 omega
theorem IX.Ok.liveL_nd : x.liveL.Nodup := by
 unfold IX.liveL
 rw [List.Nodup, List.pairwise_filterMap]
 refine List.nodup_range.imp_of_mem ?_
 intro a b ha hb hab u hu v hv huv
 have ha' := List.mem_range.1 ha
 have hb' := List.mem_range.1 hb
 have hn2 := h.n2
 unfold IX.liveH at hu hv
 split at hu
 ·split at hv
  ·cases hu; cases hv
   have := congrArg (fun z : Int => z % 4294967296) huv
   have this : hOf (a : Int) (x.gen a) % 4294967296 = hOf (b : Int) (x.gen b) % 4294967296 := this
   rw [hOf_id (by omega) (by omega), hOf_id (by omega) (by omega)] at this
   omega
  ·cases hv
 ·cases hu
theorem IX.Ok.live_id {e : Int} (he : e ∈ x.liveL) : ∃ id : Nat, x.live id = true ∧ e = hOf id (x.gen id) ∧ (e % 4294967296).toNat = id ∧ 1 ≤ id ∧ id < x.gens.length := by
 obtain ⟨id, h1, rfl⟩ := (IX.mem_liveL h.len e).1 he
 have hlt := IX.live_lt h.len h1
 have hn2 := h.n2
 exact ⟨id, h1, rfl, by rw [hOf_id (by omega) (by omega), Int.toNat_natCast], h.pos h1, hlt⟩
theorem IX.Ok.liveL_len : x.liveL.length + 1 ≤ x.gens.length := by
 unfold IX.liveL
 obtain ⟨m, hm⟩ : ∃ m, x.gens.length = m + 1 := ⟨x.gens.length - 1, by have := h.n1; omega⟩
 rw [hm, List.range_succ_eq_map, List.filterMap_cons]
 have : x.liveH 0 = none := by unfold IX.liveH; rw [h.live0]; rfl
 rw [this]
 have := List.length_filterMap_le x.liveH (List.map Nat.succ (List.range m))
 simp at this ⊢
 omega
end
def IX.spawn (x : IX) (id : Nat) : IX := { x with lives := x.lives.set id true }
def IX.kill (x : IX) (id : Nat) : IX := { x with lives := x.lives.set id false, gens := x.gens.set id (x.gen id + 1) }
theorem getD_set {α : Type} {l : List α} {i : Nat} (hi : i < l.length) (a d : α) (j : Nat) : (l.set i a).getD j d = if j = i then a else l.getD j d := by
 rw [List.getD_eq_getElem?_getD, List.getD_eq_getElem?_getD, List.getElem?_set]
 by_cases h : j = i
 ·subst h; simp [hi]
 ·rw [if_neg (fun e => h e.symm), if_neg h]
theorem IX.next_some {x : IX} {id : Nat} (h : x.next = some id) : 1 ≤ id ∧ id < x.gens.length ∧ x.live id = false ∧ x.gen id ≤ x.most := by
 have := List.find?_some h
 unfold IX.freeB at this
 simp at this
 exact ⟨this.1.1.1, this.1.1.2, this.1.2, this.2⟩
theorem IX.Ok.spawn {x : IX} (h : x.Ok) {id : Nat} (hn : x.next = some id) : (x.spawn id).Ok ∧ hOf id (x.gen id) ∉ x.liveL ∧ (x.spawn id).liveL.Perm (hOf id (x.gen id) :: x.liveL) := by
 obtain ⟨h1, h2, h3, h4⟩ := IX.next_some hn
 have hlen := h.len
 have hl : ∀ j, (x.spawn id).live j = if j = id then true else x.live j := fun j => getD_set (by omega) _ _ _
 have hok : (x.spawn id).Ok := by
  refine ⟨by simp [IX.spawn, h.len], h.n1, h.n2, h.most1, h.most2, h.gen1, ?_, fun j hj => ?_⟩
  ·rw [hl, if_neg (by omega)]; exact h.live0
  ·rw [hl] at hj
   split at hj
   ·rename_i e; subst e; exact h4
   ·exact h.liveg j hj
 have hno : hOf id (x.gen id) ∉ x.liveL := by
  intro he
  obtain ⟨j, k1, k2, k3, k4, k5⟩ := h.live_id he
  have hn2 := h.n2
  rw [hOf_id (by omega) (by omega), Int.toNat_natCast] at k3
  subst k3
  rw [h3] at k1; cases k1
 refine ⟨hok, hno, nd_perm hok.liveL_nd (List.nodup_cons.2 ⟨hno, h.liveL_nd⟩) fun e => ?_⟩
 rw [IX.mem_liveL hok.len, List.mem_cons, IX.mem_liveL h.len]
 constructor
 ·rintro ⟨j, k1, rfl⟩
  rw [hl] at k1
  split at k1
  ·rename_i e; subst e; exact .inl rfl
  ·exact .inr ⟨j, k1, rfl⟩
 ·rintro (rfl | ⟨j, k1, rfl⟩)
  ·exact ⟨id, by rw [hl, if_pos rfl], rfl⟩
  ·exact ⟨j, by rw [hl]; split <;> first | rfl | exact k1, rfl⟩
theorem IX.Ok.kill {x : IX} (h : x.Ok) {id : Nat} (hi : x.live id = true) : (x.kill id).Ok ∧ x.liveL.Perm (hOf id (x.gen id) :: (x.kill id).liveL) := by
 have hlen := h.len
 have hlt := IX.live_lt hlen hi
 have hp := h.pos hi
 have hl : ∀ j, (x.kill id).live j = if j = id then false else x.live j := fun j => getD_set (by omega) _ _ _
 have hg : ∀ j, (x.kill id).gen j = if j = id then x.gen id + 1 else x.gen j := fun j => getD_set (by omega) _ _ _
 have hgl : (x.kill id).gens.length = x.gens.length := by simp [IX.kill]
 have hok : (x.kill id).Ok := by
  refine ⟨by simp [IX.kill, h.len], by rw [hgl]; exact h.n1, by rw [hgl]; exact h.n2, h.most1, h.most2, fun j j1 j2 => ?_, ?_, fun j hj => ?_⟩
  ·rw [hgl] at j2
   rw [hg]
   show _ ∧ _ ≤ x.most + 1
   split
   ·have a := h.gen1 id hp hlt
    have b := h.liveg id hi
    omega
   ·exact h.gen1 j j1 j2
  ·rw [hl, if_neg (by omega)]; exact h.live0
  ·rw [hl] at hj
   split at hj
   ·cases hj
   ·rename_i hj2
    rw [hg, if_neg hj2]
    exact h.liveg j hj
 have hn2 := h.n2
 have hno : hOf id (x.gen id) ∉ (x.kill id).liveL := by
  intro he
  obtain ⟨j, k1, k2, k3, k4, k5⟩ := hok.live_id he
  rw [hOf_id (by omega) (by omega), Int.toNat_natCast] at k3
  subst k3
  rw [hl, if_pos rfl] at k1; cases k1
 refine ⟨hok, nd_perm h.liveL_nd (List.nodup_cons.2 ⟨hno, hok.liveL_nd⟩) fun e => ?_⟩
 rw [IX.mem_liveL h.len, List.mem_cons, IX.mem_liveL hok.len]
 constructor
 ·rintro ⟨j, k1, rfl⟩
  by_cases e : j = id
  ·subst e; exact .inl rfl
  ·exact .inr ⟨j, by rw [hl, if_neg e]; exact k1, by rw [hg, if_neg e]⟩
 ·rintro (rfl | ⟨j, k1, rfl⟩)
  ·exact ⟨id, hi, rfl⟩
  ·rw [hl] at k1
   split at k1
   ·cases k1
   ·rename_i e
    exact ⟨j, k1, by rw [hg, if_neg e]⟩
structure FreeOk (x : IX) (fr : List Int) : Prop where
 heap : HeapN fr fr.length
 nd : fr.Nodup
 mem : ∀ y, y ∈ fr ↔ ∃ id : Nat, y = id ∧ x.freeB id = true
theorem IX.freeB_lt {x : IX} {id : Nat} (h : x.freeB id = true) : id < x.gens.length ∧ 1 ≤ id := by
 unfold IX.freeB at h
 simp at h
 exact ⟨h.1.1.2, h.1.1.1⟩
theorem FreeOk.next {x : IX} {fr : List Int} (h : FreeOk x fr) (h0 : fr ≠ []) : ∃ id : Nat, x.next = some id ∧ at0 fr 0 = id := by
 have hl : 0 < fr.length := List.length_pos_iff.2 h0
 have hm : at0 fr 0 ∈ fr := List.mem_of_getElem? (at0_get hl)
 obtain ⟨id, hid, hf⟩ := (h.mem _).1 hm
 refine ⟨id, ?_, hid⟩
 unfold IX.next
 rw [List.find?_range_eq_some]
 refine ⟨hf, List.mem_range.2 (IX.freeB_lt hf).1, fun j hj => ?_⟩
 cases hb : x.freeB j with
 | false => rfl
 | true =>
  have hjm : (j : Int) ∈ fr := (h.mem _).2 ⟨j, rfl, hb⟩
  obtain ⟨k, hk⟩ := List.getElem?_of_mem hjm
  have := h.heap.least k (List.getElem?_eq_some_iff.1 hk).1
  rw [at0_some hk] at this
  omega
theorem FreeOk.next_none {x : IX} (h : FreeOk x []) : x.next = none := by
 unfold IX.next
 rw [List.find?_eq_none]
 intro j _ hb
 have := (h.mem j).2 ⟨j, rfl, hb⟩
 simp at this
theorem FreeOk.len {x : IX} {fr : List Int} (h : FreeOk x fr) (hx : x.Ok) : fr.length ≤ 257 := by
 have hn2 := hx.n2
 have h1 : ∀ y ∈ fr, y ∈ (List.range x.gens.length).map (fun (j : Nat) => (j : Int)) := fun y hy => by
  obtain ⟨id, rfl, hf⟩ := (h.mem y).1 hy
  exact List.mem_map.2 ⟨id, List.mem_range.2 (IX.freeB_lt hf).1, rfl⟩
 have := h.nd.length_le_of_subset h1
 simp at this
 omega
theorem FreeOk.pop {x : IX} {fr fr' : List Int} (h : FreeOk x fr) {id : Nat} (hn : x.next = some id) (hx : x.Ok) (hh : HeapN fr' fr'.length) (hp : fr.Perm ((id : Int) :: fr')) : FreeOk (x.spawn id) fr' := by
 have hlen := hx.len
 obtain ⟨h1, h2, h3, h4⟩ := IX.next_some hn
 have hnd := List.nodup_cons.1 (hp.nodup h.nd)
 refine ⟨hh, hnd.2, fun y => ?_⟩
 have hm : y ∈ fr' ↔ y ∈ fr ∧ y ≠ id := by
  rw [hp.mem_iff, List.mem_cons]
  constructor
  ·intro hy; exact ⟨.inr hy, fun e => hnd.1 (e ▸ hy)⟩
  ·rintro ⟨k1 | k1, k2⟩
   ·exact absurd k1 k2
   ·exact k1
 have hb : ∀ j, (x.spawn id).freeB j = (x.freeB j && decide (j ≠ id)) := fun j => by
  have hl : (x.spawn id).live j = if j = id then true else x.live j := getD_set (by omega) _ _ _
  unfold IX.freeB
  rw [hl]
  have hg : (x.spawn id).gen j = x.gen j := rfl
  have hl2 : (x.spawn id).gens.length = x.gens.length := rfl
  have hl3 : (x.spawn id).most = x.most := rfl
  rw [hg, hl2, hl3]
  by_cases e : j = id
  ·simp [e]
  ·simp [e]
 rw [hm, h.mem]
 constructor
 ·rintro ⟨⟨j, rfl, hj⟩, hne⟩
  exact ⟨j, rfl, by rw [hb, hj]; simp; omega⟩
 ·rintro ⟨j, rfl, hj⟩
  rw [hb, Bool.and_eq_true, decide_eq_true_iff] at hj
  exact ⟨⟨j, rfl, hj.1⟩, by have := hj.2; omega⟩
theorem FreeOk.push {x : IX} {fr fr' : List Int} (h : FreeOk x fr) {id : Nat} (hi : x.live id = true) (hx : x.Ok) (hh : HeapN fr' fr'.length) (hp : fr'.Perm (if x.gen id + 1 ≤ x.most then (id : Int) :: fr else fr)) : FreeOk (x.kill id) fr' := by
 have hlen := hx.len
 have hlt := IX.live_lt hlen hi
 have h1 := hx.pos hi
 have hb : ∀ j, (x.kill id).freeB j = if j = id then decide (x.gen id + 1 ≤ x.most) else x.freeB j := fun j => by
  have hl : (x.kill id).live j = if j = id then false else x.live j := getD_set (by omega) _ _ _
  have hg : (x.kill id).gen j = if j = id then x.gen id + 1 else x.gen j := getD_set (by omega) _ _ _
  unfold IX.freeB
  rw [hl, hg]
  by_cases e : j = id
  ·subst e; simp [IX.kill, h1, hlt]
  ·simp [e, IX.kill]
 have hidn : (id : Int) ∉ fr := fun hm => by
  obtain ⟨j, hj, hf⟩ := (h.mem _).1 hm
  obtain rfl : id = j := by omega
  unfold IX.freeB at hf
  rw [hi] at hf
  simp at hf
 by_cases hg : x.gen id + 1 ≤ x.most
 ·rw [if_pos hg] at hp
  refine ⟨hh, hp.symm.nodup (List.nodup_cons.2 ⟨hidn, h.nd⟩), fun y => ?_⟩
  rw [hp.mem_iff, List.mem_cons, h.mem]
  constructor
  ·rintro (rfl | ⟨j, rfl, hj⟩)
   ·exact ⟨id, rfl, by rw [hb, if_pos rfl]; simpa using hg⟩
   ·refine ⟨j, rfl, ?_⟩
    rw [hb]
    split
    ·simpa using hg
    ·exact hj
  ·rintro ⟨j, rfl, hj⟩
   rw [hb] at hj
   split at hj
   ·rename_i e; subst e; exact .inl rfl
   ·exact .inr ⟨j, rfl, hj⟩
 ·rw [if_neg hg] at hp
  refine ⟨hh, hp.symm.nodup h.nd, fun y => ?_⟩
  rw [hp.mem_iff, h.mem]
  constructor
  ·rintro ⟨j, rfl, hj⟩
   refine ⟨j, rfl, ?_⟩
   rw [hb, if_neg]
   ·exact hj
   ·rintro rfl
    exact hidn ((h.mem _).2 ⟨j, rfl, hj⟩)
  ·rintro ⟨j, rfl, hj⟩
   rw [hb] at hj
   split at hj
   ·simp at hj; omega
   ·exact ⟨j, rfl, hj⟩
end Go.Proofs.YthmpknlgkflhiabGreat
namespace Go.Proofs.YthmpknlgkflhiabGreat
open Go.RowKit
set_option linter.unusedVariables false
structure XD where
 xb : Nat
 ix : IX
 fr : List Int
 ga : Option Addr
 gc : Nat
 la : Option Addr
 lc : Nat
 fa : Option Addr
 fc : Nat
def XD.foot (x : XD) (b : Nat) : Prop := b = x.xb ∨ (Value.slice x.ga x.ix.gens.length x.gc).ownBlock = some b ∨ (Value.slice x.la x.ix.lives.length x.lc).ownBlock = some b ∨ (Value.slice x.fa x.fr.length x.fc).ownBlock = some b
structure XMem (w : World) (x : XD) : Prop where
 blk : w.heap[x.xb]? = some (.cells #[.int .i64 x.ix.most, .slice x.ga x.ix.gens.length x.gc, .slice x.la x.ix.lives.length x.lc, .slice x.fa x.fr.length x.fc] 132 (0, 0))
 gensR : w.ownsRow 0 3 1 (.slice x.ga x.ix.gens.length x.gc) x.ix.gens.length (x.ix.gens.map (.int .i64))
 livesR : w.ownsRow 0 4 1 (.slice x.la x.ix.lives.length x.lc) x.ix.lives.length (x.ix.lives.map .bool)
 freeR : w.ownsRow 0 3 1 (.slice x.fa x.fr.length x.fc) x.fr.length (x.fr.map (.int .i64))
 ne : ∀ b, (Value.slice x.ga x.ix.gens.length x.gc).ownBlock = some b → (Value.slice x.fa x.fr.length x.fc).ownBlock ≠ some b
structure XIn (w : World) (x : XD) : Prop extends XMem w x where
 ok : x.ix.Ok
 free : FreeOk x.ix x.fr
theorem XMem.out {w w' : World} {x : XD} {F : Nat → Prop} (h : XMem w x) (ho : Out F w w') (hF : ∀ b, x.foot b → ¬ F b) : XMem w' x :=
 ⟨ho.keep h.blk (hF _ (.inl rfl)), ownsRow_out h.gensR ho (fun b hb => hF b (.inr (.inl hb))), ownsRow_out h.livesR ho (fun b hb => hF b (.inr (.inr (.inl hb)))), ownsRow_out h.freeR ho (fun b hb => hF b (.inr (.inr (.inr hb)))), h.ne⟩
theorem XIn.out {w w' : World} {x : XD} {F : Nat → Prop} (h : XIn w x) (ho : Out F w w') (hF : ∀ b, x.foot b → ¬ F b) : XIn w' x := ⟨h.toXMem.out ho hF, h.ok, h.free⟩
theorem XIn.below {w w' : World} {x : XD} (h : XIn w x) (hb : Below w.heap.size w w') : XIn w' x := h.out (F := fun _ => False) (Out.of hb) (fun _ _ => id)
theorem hOf_bits {id gen : Nat} (h : id < 4294967296) (hg : gen < 4294967296) : bits BinOp.or .u64 ((gen : Int) * 4294967296) (id : Int) = hOf id gen := by
 have e : ((gen : Int) * 4294967296) = ((gen * 4294967296 : Nat) : Int) := by omega
 rw [e, u64_or_nat _ _ (by omega) (by omega)]
 have := Nat.two_pow_add_eq_or_of_lt (i := 32) (b := id) (by omega) gen
 rw [show gen * 4294967296 = 2 ^ 32 * gen by omega, ← this]
 unfold hOf
 omega
theorem low_bits {e : Int} (h0 : 0 ≤ e) (h1 : e < 18446744073709551616) : bits BinOp.and .u64 e 4294967295 = e % 4294967296 := by
 obtain ⟨n, rfl⟩ := Int.eq_ofNat_of_zero_le h0
 rw [show (4294967295 : Int) = ((4294967295 : Nat) : Int) from rfl, u64_and_nat _ _ (by omega) (by omega), nat_mask32]
 omega
theorem entOf_any (id gen : Nat) (w : World) (h1 : 1 ≤ id) (h2 : id < 4294967296) (g1 : 1 ≤ gen) (g2 : gen < 4294967296) : Calls Tryz.prog 70 #[.int .i64 id, .int .i64 gen] w fun e w' => e = .returned (.int .u64 (hOf id gen)) ∧ w = w' := by
 have HB := Lib.hid (hOf_bits h2 g2)
 go_enter Tryz.func70, Tryz.ntmps70
 go_wp2_with fail
 all_goals
  go_returns
  exact ⟨ret_intk HB.out, rfl⟩
theorem entId_any (e : Int) (w : World) (h0 : 0 ≤ e) (h1 : e < 18446744073709551616) : Calls Tryz.prog 85 #[.int .u64 e] w fun en w' => en = .returned (.int .i64 (e % 4294967296)) ∧ w = w' := by
 have hb := low_bits h0 h1
 have b0 : 0 ≤ e % 4294967296 := by omega
 have b1 : e % 4294967296 < 4294967296 := by omega
 go_enter Tryz.func85, Tryz.ntmps85
 go_wp2_with fail
 go_returns
 exact ⟨rfl, rfl⟩
theorem entGen_any (e : Int) (w : World) (h0 : 0 ≤ e) (h1 : e < 18446744073709551616) : Calls Tryz.prog 121 #[.int .u64 e] w fun en w' => en = .returned (.int .i64 (e / 4294967296)) ∧ w = w' := by
 have b0 : 0 ≤ e / 4294967296 := by omega
 have b1 : e / 4294967296 < 4294967296 := by omega
 go_enter Tryz.func121, Tryz.ntmps121
 go_wp2_with fail
 go_returns
 exact ⟨rfl, rfl⟩
end Go.Proofs.YthmpknlgkflhiabGreat
namespace Go.Proofs.YthmpknlgkflhiabGreat
open Go.RowKit
open Go.Maps (Keyed IsMap Tidy int_keyed keyOf_int_mk)
set_option linter.unusedVariables false
def KIn (w : World) (b : Nat) (l : List TypeId) : Prop := ∃ cs ty fr, w.heap[b]? = some (.cells cs ty fr) ∧ ty ∈ l
def IsMapB (w : World) (b : Nat) : Prop := ∃ es c, w.heap[b]? = some (.map es c)
theorem KIn.ne {w : World} {b : Nat} {l m : List TypeId} (h : KIn w b l) (k : KIn w b m) (hd : ∀ x ∈ l, x ∉ m) : False := by
 obtain ⟨cs, ty, fr, h1, h2⟩ := h
 obtain ⟨cs', ty', fr', k1, k2⟩ := k
 rw [h1] at k1
 cases k1
 exact hd _ h2 k2
theorem KIn.ne_map {w : World} {b : Nat} {l : List TypeId} (h : KIn w b l) (k : IsMapB w b) : False := by
 obtain ⟨cs, ty, fr, h1, h2⟩ := h
 obtain ⟨es, c, k1⟩ := k
 rw [h1] at k1
 cases k1
theorem KIn.mono {w : World} {b : Nat} {l m : List TypeId} (h : KIn w b l) (hd : ∀ x ∈ l, x ∈ m) : KIn w b m := by
 obtain ⟨cs, ty, fr, h1, h2⟩ := h
 exact ⟨cs, ty, fr, h1, hd _ h2⟩
theorem KIn.mut {w : World} {b : Nat} {l : List TypeId} (h : KIn w b l) (hd : ∀ x ∈ l, x ≠ 80 ∧ x ≠ 146 ∧ x ≠ 117) : Mut w b := by
 obtain ⟨cs, ty, fr, h1, h2⟩ := h
 obtain ⟨n1, n2, n3⟩ := hd _ h2
 exact mut_of h1 n1 n2 n3
theorem IsMapB.mut {w : World} {b : Nat} (h : IsMapB w b) : Mut w b := by
 obtain ⟨es, c, h1⟩ := h
 intro cs t fr h2
 rw [h1] at h2
 cases h2
def xK : List TypeId := [132, 3, 4]
def gK : List TypeId := [138, 89]
def tK : List TypeId := [143, 38, 202, 189, 5]
def wK : List TypeId := [88]
theorem TabIn.kin {w : World} {t : TD} (h : TabIn 0 w t) {b : Nat} (hb : t.foot b) : KIn w b tK := by
 obtain ⟨cs, ty, fr, hh, ht⟩ := h.foot_fty hb
 exact ⟨cs, ty, fr, hh, by rcases ht with h | h | h | h | h <;> subst h <;> decide⟩
theorem XIn.kin {w : World} {x : XD} (h : XIn w x) {b : Nat} (hb : x.foot b) : KIn w b xK := by
 rcases hb with rfl | hb | hb | hb
 ·exact ⟨_, _, _, h.blk, by decide⟩
 ·obtain ⟨cur, hh⟩ := row_type h.gensR hb
  exact ⟨_, _, _, hh, by decide⟩
 ·obtain ⟨cur, hh⟩ := row_type h.livesR hb
  exact ⟨_, _, _, hh, by decide⟩
 ·obtain ⟨cur, hh⟩ := row_type h.freeR hb
  exact ⟨_, _, _, hh, by decide⟩
section
variable {B1 gb : Nat} {g : GS} {w w' : World} {mb wb : Nat} {ta : Option Addr} {tc : Nat} {F : Nat → Prop}
theorem Graph.kin (h : Graph B1 gb g mb wb ta tc w) {b : Nat} (hb : gfoot gb mb wb ta b) : KIn w b gK ∨ (IsMapB w b ∧ (b = mb ∨ b = wb)) := by
 obtain ⟨ca, cl, cc, bs, ws, h⟩ := h
 rcases hb with rfl | rfl | rfl | hr
 ·exact .inl ⟨_, _, _, h.blk, by decide⟩
 ·exact .inr ⟨h.bySet.obj, .inl rfl⟩
 ·exact .inr ⟨h.byWay.obj, .inr rfl⟩
 ·obtain ⟨cur, hh⟩ := row_type h.row ((ownBlock_slice ta g.ts.length tc 0 0).trans hr)
  exact .inl ⟨_, _, _, hh, by decide⟩
theorem keepsTy_mut (ho : Out F w w') (hM : ∀ b, F b → Mut w b) : KeepsTy w w' := by
 intro b c e fz hb he
 refine ho.keep hb (fun hf => ?_)
 obtain ⟨n1, n2, n3⟩ := hM b hf _ _ _ hb
 rcases he with rfl | rfl
 ·exact n1 rfl
 ·exact n3 rfl
theorem Graph.outM (h : Graph B1 gb g mb wb ta tc w) (ho : Out F w w') (hno : ∀ b, gfoot gb mb wb ta b → ¬ F b) (hM : ∀ b, F b → Mut w b) (hs : ∀ t ∈ g.ts, SigAt w' t.1 t.2) : Graph B1 gb g mb wb ta tc w' := by
 obtain ⟨ca, cl, cc, bs, ws, h⟩ := h
 have hty := keepsTy_mut ho hM
 refine ⟨ca, cl, cc, bs, ws, { h with
  blk := ho.keep h.blk (hno _ (.inl rfl))
  comps := (h.comps.ty h.cty hty).mono ho.size
  cty := h.cty.hk hty
  row := ownsRow_out h.row ho (fun x hx => hno x (.inr (.inr (.inr ((ownBlock_slice ta 0 0 g.ts.length tc).trans hx)))))
  bySet := h.bySet.out ho (hno _ (.inr (.inl rfl)))
  byWay := h.byWay.out ho (hno _ (.inr (.inr (.inl rfl))))
  tab := fun t ht => ⟨hs t ht, (h.tab t ht).2⟩
  wf := ⟨h.wf.1, h.wf.2.1, h.wf.2.2.1, h.wf.2.2.2.1, h.wf.2.2.2.2.1, Nat.le_trans h.wf.2.2.2.2.2.1 ho.size, h.wf.2.2.2.2.2.2⟩ }⟩
theorem Graph.mono0 (h : Graph B1 gb g mb wb ta tc w) : Graph 0 gb g mb wb ta tc w := by
 obtain ⟨ca, cl, cc, bs, ws, h⟩ := h
 exact ⟨ca, cl, cc, bs, ws, { h with
  bg := Nat.zero_le _
  bm := Nat.zero_le _
  bw := Nat.zero_le _
  row := ownsRow_mono h.row (Nat.zero_le _)
  wf := ⟨h.wf.1, h.wf.2.1, h.wf.2.2.1, h.wf.2.2.2.1, h.wf.2.2.2.2.1, Nat.zero_le _, h.wf.2.2.2.2.2.2⟩
  tlo := fun _ _ => Nat.zero_le _ }⟩
end
def Pl.rowI (p : Pl) : Int := match p.row with | some r => (r : Int) | none => -1
def plV (p : Pl) : Value := .agg #[.int .i64 (p.tab : Int), .int .i64 p.rowI]
def AtM (w : World) (ab : Nat) (pl : Int → Option Pl) (n : Nat) : Prop := ∃ f, MapV Tryz.prog w 38 ab n f ∧ ∀ e, 0 ≤ e → e < 18446744073709551616 → f (.int .u64 e) = (pl e).map plV
theorem AtM.out {w w' : World} {ab : Nat} {pl : Int → Option Pl} {n : Nat} {F : Nat → Prop} (h : AtM w ab pl n) (ho : Out F w w') (hn : ¬ F ab) : AtM w' ab pl n := by
 obtain ⟨f, h1, h2⟩ := h
 exact ⟨f, h1.out ho hn, h2⟩
theorem AtM.obj {w : World} {ab : Nat} {pl : Int → Option Pl} {n : Nat} (h : AtM w ab pl n) : IsMapB w ab := by
 obtain ⟨f, h1, h2⟩ := h
 exact h1.obj
structure CapsD where
 ents : Int
 rows : Int
 archs : Int
 cmds : Int
 fuel : Int
 gens : Int
structure WD where
 wb : Nat
 caps : CapsD
 x : XD
 gb : Nat
 mb : Nat
 wmb : Nat
 ta : Option Addr
 tc : Nat
 g : GS
 T : List TD
 V : List (List (List (List WI)))
 ab : Nat
 pl : Int → Option Pl
def WD.foot (d : WD) (b : Nat) : Prop := b = d.wb ∨ b = d.ab ∨ d.x.foot b ∨ gfoot d.gb d.mb d.wmb d.ta b ∨ ∃ t ∈ d.T, t.foot b
def PTof (t : TD) (v : List (List (List WI))) : PT := ⟨t.set, t.ents, t.kept, v⟩
def WD.P (d : WD) : PS := ⟨List.zipWith PTof d.T d.V, d.pl⟩
structure WRaw (w : World) (d : WD) (n : Nat) : Prop where
 blk : w.heap[d.wb]? = some (.cells #[.int .i64 d.caps.ents, .int .i64 d.caps.rows, .int .i64 d.caps.archs, .int .i64 d.caps.cmds, .int .i64 d.caps.fuel, .int .i64 d.caps.gens, .pointer (some ⟨d.x.xb, 0, none⟩), .pointer (some ⟨d.gb, 0, none⟩), .map (some d.ab)] 88 (0, 0))
 ix : XIn w d.x
 gr : Graph 0 d.gb d.g d.mb d.wmb d.ta d.tc w
 tabs : Tabs 0 d.g d.T w
 vlen : d.V.length = d.T.length
 vals : ∀ (i : Nat) t v, d.T[i]? = some t → d.V[i]? = some v → Vals t v
 atm : AtM w d.ab d.pl n
 ne1 : d.ab ≠ d.mb
 ne2 : d.ab ≠ d.wmb
section
variable {w w' : World} {d : WD} {n : Nat} {F : Nat → Prop}
theorem WRaw.kin (h : WRaw w d n) {b : Nat} (hb : d.foot b) : KIn w b (wK ++ xK ++ gK ++ tK) ∨ IsMapB w b := by
 rcases hb with rfl | rfl | hb | hb | ⟨t, ht, hb⟩
 ·exact .inl ⟨_, _, _, h.blk, by decide⟩
 ·exact .inr h.atm.obj
 ·exact .inl ((h.ix.kin hb).mono (by decide))
 ·rcases h.gr.kin hb with k | ⟨k, _⟩
  ·exact .inl (k.mono (by decide))
  ·exact .inr k
 ·exact .inl (((h.tabs.tab t ht).kin hb).mono (by decide))
theorem WRaw.mut (h : WRaw w d n) {b : Nat} (hb : d.foot b) : Mut w b := by
 rcases h.kin hb with k | k
 ·exact k.mut (by decide)
 ·exact k.mut
theorem WRaw.lt (h : WRaw w d n) {b : Nat} (hb : d.foot b) : b < w.heap.size := by
 rcases h.kin hb with ⟨_, _, _, k, _⟩ | ⟨_, _, k⟩ <;> exact lt_some k
theorem WRaw.out (h : WRaw w d n) (ho : Out F w w') (hF : ∀ b, d.foot b → ¬ F b) (hM : ∀ b, F b → Mut w b) : WRaw w' d n := by
 have hT := h.tabs.out ho (fun b hb t ht hf => hF b (.inr (.inr (.inr (.inr ⟨t, ht, hf⟩)))) hb) hM
 exact { h with
  blk := ho.keep h.blk (hF _ (.inl rfl))
  ix := h.ix.out ho (fun b hb => hF b (.inr (.inr (.inl hb))))
  gr := h.gr.outM ho (fun b hb => hF b (.inr (.inr (.inr (.inl hb))))) hM hT.sigAt
  tabs := hT
  atm := h.atm.out ho (hF _ (.inr (.inl rfl))) }
theorem WRaw.below (h : WRaw w d n) (hb : Below w.heap.size w w') : WRaw w' d n := h.out (F := fun _ => False) (Out.of hb) (fun _ _ => id) (fun _ => False.elim)
theorem WRaw.ab_x (h : WRaw w d n) : ¬ d.x.foot d.ab := fun hb => (h.ix.kin hb).ne_map h.atm.obj
theorem WRaw.ab_t (h : WRaw w d n) {t : TD} (ht : t ∈ d.T) : ¬ t.foot d.ab := fun hb => ((h.tabs.tab t ht).kin hb).ne_map h.atm.obj
theorem WRaw.ab_g (h : WRaw w d n) : ¬ gfoot d.gb d.mb d.wmb d.ta d.ab := fun hb => by
 rcases h.gr.kin hb with k | ⟨_, k | k⟩
 ·exact k.ne_map h.atm.obj
 ·exact h.ne1 k
 ·exact h.ne2 k
theorem WRaw.wb_k (h : WRaw w d n) : KIn w d.wb wK := ⟨_, _, _, h.blk, by decide⟩
theorem WRaw.wb_x (h : WRaw w d n) : ¬ d.x.foot d.wb := fun hb => (h.ix.kin hb).ne h.wb_k (by decide)
theorem WRaw.wb_t (h : WRaw w d n) {t : TD} (ht : t ∈ d.T) : ¬ t.foot d.wb := fun hb => ((h.tabs.tab t ht).kin hb).ne h.wb_k (by decide)
theorem WRaw.wb_g (h : WRaw w d n) : ¬ gfoot d.gb d.mb d.wmb d.ta d.wb := fun hb => by
 rcases h.gr.kin hb with k | ⟨k, _⟩
 ·exact k.ne h.wb_k (by decide)
 ·exact h.wb_k.ne_map k
theorem WRaw.wb_ab (h : WRaw w d n) : d.wb ≠ d.ab := fun e => h.wb_k.ne_map (e ▸ h.atm.obj)
theorem WRaw.x_g (h : WRaw w d n) {b : Nat} (hb : d.x.foot b) : ¬ gfoot d.gb d.mb d.wmb d.ta b := fun hg => by
 rcases h.gr.kin hg with k | ⟨k, _⟩
 ·exact (h.ix.kin hb).ne k (by decide)
 ·exact (h.ix.kin hb).ne_map k
theorem WRaw.x_t (h : WRaw w d n) {b : Nat} (hb : d.x.foot b) {t : TD} (ht : t ∈ d.T) : ¬ t.foot b := fun hg => (h.ix.kin hb).ne ((h.tabs.tab t ht).kin hg) (by decide)
theorem WRaw.g_t (h : WRaw w d n) {b : Nat} (hb : gfoot d.gb d.mb d.wmb d.ta b) {t : TD} (ht : t ∈ d.T) : ¬ t.foot b := fun hg => by
 rcases h.gr.kin hb with k | ⟨k, _⟩
 ·exact ((h.tabs.tab t ht).kin hg).ne k (by decide)
 ·exact ((h.tabs.tab t ht).kin hg).ne_map k
end
structure WFr (d d' : WD) (w w' : World) : Prop where
 wb : d'.wb = d.wb
 out : Out d.foot w w'
 foot : ∀ b, d'.foot b → d.foot b ∨ w.heap.size ≤ b
theorem WFr.trans {d d1 d2 : WD} {a b c : World} (h : WFr d d1 a b) (k : WFr d1 d2 b c) : WFr d d2 a c :=
 ⟨k.wb.trans h.wb, h.out.trans k.out h.foot, fun x hx => (k.foot x hx).elim (h.foot x) fun hb => .inr (Nat.le_trans h.out.size hb)⟩
theorem WFr.of_below {d : WD} {w w' : World} (h : Below w.heap.size w w') : WFr d d w w' := ⟨rfl, Out.of h, fun _ => .inl⟩
section
variable {w w' : World} {d : WD} {n : Nat}
theorem WRaw.tdeed (h : WRaw w d n) {i : Nat} {t t' : TD} {v' : List (List (List WI))} (hi : d.T[i]? = some t) (hd : TDeed 0 t t' w w') (hv : Vals t' v') : WRaw w' { d with T := d.T.set i t', V := d.V.set i v' } n ∧ WFr d { d with T := d.T.set i t', V := d.V.set i v' } w w' := by
 have htm := List.mem_of_getElem? hi
 have hT := h.tabs.put hi hd
 have hM : ∀ b, t.foot b → Mut w b := fun b hb => ((h.tabs.tab t htm).foot_fty hb).mut
 refine ⟨{ h with
  blk := hd.out.keep h.blk (h.wb_t htm)
  ix := h.ix.out hd.out (fun b hb => h.x_t hb htm)
  gr := h.gr.outM hd.out (fun b hb => h.g_t hb htm) hM hT.sigAt
  tabs := hT
  vlen := by simp [h.vlen]
  vals := ?_
  atm := h.atm.out hd.out (h.ab_t htm) }, rfl, hd.out.mono (fun b hb => .inl (.inr (.inr (.inr (.inr ⟨t, htm, hb⟩))))), ?_⟩
 ·intro j u v hu hvj
  rcases set_some hu with ⟨rfl, rfl, _⟩ | ⟨hj, hu⟩
  ·rcases set_some hvj with ⟨_, rfl, _⟩ | ⟨hj, _⟩
   ·exact hv
   ·exact absurd rfl hj
  ·rw [set_other hj] at hvj
   exact h.vals j u v hu hvj
 ·rintro b (hb | hb | hb | hb | ⟨u, hu, hb⟩)
  ·exact .inl (.inl hb)
  ·exact .inl (.inr (.inl hb))
  ·exact .inl (.inr (.inr (.inl hb)))
  ·exact .inl (.inr (.inr (.inr (.inl hb))))
  ·rcases List.mem_or_eq_of_mem_set hu with hu | rfl
   ·exact .inl (.inr (.inr (.inr (.inr ⟨u, hu, hb⟩))))
   ·exact (hd.foot b hb).imp (fun hb => .inr (.inr (.inr (.inr ⟨t, htm, hb⟩)))) id
theorem WRaw.xdeed (h : WRaw w d n) {x' : XD} (hx : XIn w' x') (hb : x'.xb = d.x.xb) (ho : Out d.x.foot w w') (hf : ∀ b, x'.foot b → d.x.foot b ∨ w.heap.size ≤ b) : WRaw w' { d with x := x' } n ∧ WFr d { d with x := x' } w w' := by
 have hM : ∀ b, d.x.foot b → Mut w b := fun b hb => (h.ix.kin hb).mut (by decide)
 have hT := h.tabs.out ho (fun b hb t ht hg => h.x_t hb ht hg) hM
 refine ⟨{ h with
  blk := by rw [hb]; exact ho.keep h.blk h.wb_x
  ix := hx
  gr := h.gr.outM ho (fun b hg hb => h.x_g hb hg) hM hT.sigAt
  tabs := hT
  atm := h.atm.out ho h.ab_x }, rfl, ho.mono (fun b hb => .inl (.inr (.inr (.inl hb)))), ?_⟩
 rintro b (hb | hb | hb | hb | hb)
 ·exact .inl (.inl hb)
 ·exact .inl (.inr (.inl hb))
 ·exact (hf b hb).imp (fun hb => .inr (.inr (.inl hb))) id
 ·exact .inl (.inr (.inr (.inr (.inl hb))))
 ·exact .inl (.inr (.inr (.inr (.inr hb))))
theorem WRaw.adeed (h : WRaw w d n) {pl' : Int → Option Pl} {n' : Nat} (ha : AtM w' d.ab pl' n') (hg : w.grownBy w' (some d.ab)) : WRaw w' { d with pl := pl' } n' ∧ WFr d { d with pl := pl' } w w' := by
 have ho : Out (fun b => b = d.ab) w w' := ⟨hg.os, hg.tape, hg.output, hg.size, fun i hi hn => hg.block i hi (fun e => hn (by cases e; rfl))⟩
 have hM : ∀ b, b = d.ab → Mut w b := fun b hb => by subst hb; exact h.atm.obj.mut
 have hT := h.tabs.out ho (fun b hb t ht hf => by subst hb; exact h.ab_t ht hf) hM
 refine ⟨{ h with
  blk := ho.keep h.blk h.wb_ab
  ix := h.ix.out ho (fun b hb e => by subst e; exact h.ab_x hb)
  gr := h.gr.outM ho (fun b hb e => by subst e; exact h.ab_g hb) hM hT.sigAt
  tabs := hT
  atm := ha }, rfl, ho.mono (fun b hb => .inl (.inr (.inl hb))), fun b hb => .inl hb⟩
end
end Go.Proofs.YthmpknlgkflhiabGreat
