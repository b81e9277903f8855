/- Plain: who lives: ids, their generations. · Plain: parts that can be: their set, their values; they may be added to the table of their set. · Plain: sets are what they hold; rows as parts, and back. · Plain: the texts of sets and of queries, and their way back. -/
import Derived.Test.YtgebbmfoamkfnaaGreatDoorT24
import Derived.Laws.BitsAllLaws
import Derived.Test.YtgebbmfoamkfnaaGreatDoorT15
import Derived.Lib.IndexMore
namespace Go.Proofs.YtgebbmfoamkfnaaGreatDoor
set_option linter.unusedVariables false
def hOf (id gen : Int) : Int := gen * 4294967296 + id
theorem hOf_id {id gen : Int} (h0 : 0 ≤ id) (h1 : id < 4294967296) : hOf id gen % 4294967296 = id := by unfold hOf; omega
theorem hOf_gen {id gen : Int} (h0 : 0 ≤ id) (h1 : id < 4294967296) : hOf id gen / 4294967296 = gen := by unfold hOf; omega
theorem hOf_back {e : Int} : hOf (e % 4294967296) (e / 4294967296) = e := by unfold hOf; omega
structure IX where
 most : Int
 gens : List Int
 lives : List Bool
def IX.gen (x : IX) (id : Nat) : Int := x.gens.getD id 0
def IX.live (x : IX) (id : Nat) : Bool := x.lives.getD id false
structure IX.Ok (x : IX) : Prop where
 len : x.lives.length = x.gens.length
 n1 : 2 ≤ x.gens.length
 n2 : x.gens.length ≤ 257
 most1 : 1 ≤ x.most
 most2 : x.most ≤ 65535
 gen1 : ∀ id, 1 ≤ id → id < x.gens.length → 1 ≤ x.gen id ∧ x.gen id ≤ x.most + 1
 live0 : x.live 0 = false
 liveg : ∀ id, x.live id = true → x.gen id ≤ x.most
def IX.freeB (x : IX) (id : Nat) : Bool := decide (1 ≤ id) && decide (id < x.gens.length) && !x.live id && decide (x.gen id ≤ x.most)
def IX.next (x : IX) : Option Nat := (List.range x.gens.length).find? x.freeB
def IX.alive (x : IX) (e : Int) : Bool := x.live (e % 4294967296).toNat && decide (x.gen (e % 4294967296).toNat = e / 4294967296)
def IX.liveH (x : IX) (id : Nat) : Option Int := if x.live id then some (hOf id (x.gen id)) else none
def IX.liveL (x : IX) : List Int := (List.range x.gens.length).filterMap x.liveH
theorem nd_perm {l m : List Int} (hl : l.Nodup) (hm : m.Nodup) (h : ∀ x, x ∈ l ↔ x ∈ m) : l.Perm m := by
 induction l generalizing m with
 | nil =>
  cases m with
  | nil => exact .refl _
  | cons y r => exact absurd ((h y).2 (List.mem_cons_self)) (by simp)
 | cons x r ih =>
  have hx : x ∈ m := (h x).1 List.mem_cons_self
  have hnd := List.nodup_cons.1 hl
  refine ((ih hnd.2 (hm.erase x) fun y => ?_).cons x).trans (List.perm_cons_erase hx).symm
  rw [hm.mem_erase_iff]
  constructor
  ·intro hy
   exact ⟨fun e => hnd.1 (e ▸ hy), (h y).1 (List.mem_cons_of_mem _ hy)⟩
  ·rintro ⟨h1, h2⟩
   rcases List.mem_cons.1 ((h y).2 h2) with e | h3
   ·exact absurd e h1
   ·exact h3
theorem IX.live_lt {x : IX} (hl : x.lives.length = x.gens.length) {id : Nat} (h : x.live id = true) : id < x.gens.length := by
 refine Classical.byContradiction fun hn => ?_
 unfold IX.live at h
 rw [List.getD_eq_getElem?_getD, List.getElem?_eq_none (by omega)] at h
 cases h
theorem IX.mem_liveL {x : IX} (hl : x.lives.length = x.gens.length) (e : Int) : e ∈ x.liveL ↔ ∃ id : Nat, x.live id = true ∧ e = hOf id (x.gen id) := by
 unfold IX.liveL
 rw [List.mem_filterMap]
 constructor
 ·rintro ⟨id, h1, h2⟩
  unfold IX.liveH at h2
  split at h2
  ·rename_i h3; cases h2; exact ⟨id, h3, rfl⟩
  ·cases h2
 ·rintro ⟨id, h1, rfl⟩
  exact ⟨id, List.mem_range.2 (IX.live_lt hl h1), by unfold IX.liveH; rw [if_pos h1]⟩
section
variable {x : IX} (h : x.Ok)
include h
theorem IX.Ok.alive_iff (e : Int) (h0 : 0 ≤ e) : x.alive e = true ↔ e ∈ x.liveL := by
 have hlen := h.len
 have hn2 := h.n2
 rw [IX.mem_liveL h.len]
 unfold IX.alive
 rw [Bool.and_eq_true, decide_eq_true_iff]
 constructor
 ·rintro ⟨h1, h2⟩
  refine ⟨_, h1, ?_⟩
  rw [h2]
  have : ((e % 4294967296).toNat : Int) = e % 4294967296 := by omega
  rw [this, hOf_back]
 ·rintro ⟨id, h1, rfl⟩
  have := IX.live_lt hlen h1
  rw [hOf_id (by omega) (by omega), hOf_gen (by omega) (by omega), Int.toNat_natCast]
  exact ⟨h1, rfl⟩
theorem IX.Ok.pos {id : Nat} (hid : x.live id = true) : 1 ≤ id := by
 refine Classical.byContradiction fun hn => ?_
 obtain rfl : id = 0 := by omega
 rw [h.live0] at hid; cases hid
theorem IX.Ok.live_bd {e : Int} (he : e ∈ x.liveL) : 4294967297 ≤ e ∧ e < 281474976710656 ∧ e % 4294967296 < 257 ∧ 1 ≤ e % 4294967296 := by
 obtain ⟨id, h1, rfl⟩ := (IX.mem_liveL h.len e).1 he
 have hp := h.pos h1
 have hlt := IX.live_lt h.len h1
 have hn2 := h.n2
 have hg := h.gen1 id hp hlt
 have hg2 := h.liveg id h1
 have hm := h.most2
 rw [hOf_id (by omega) (by omega)]
 unfold hOf
 omega
theorem IX.Ok.liveL_nd : x.liveL.Nodup := by
 unfold IX.liveL
 rw [List.Nodup, List.pairwise_filterMap]
 refine List.nodup_range.imp_of_mem ?_
 intro a b ha hb hab u hu v hv huv
 have ha' := List.mem_range.1 ha
 have hb' := List.mem_range.1 hb
 have hn2 := h.n2
 unfold IX.liveH at hu hv
 split at hu
 ·split at hv
  ·cases hu; cases hv
   have := congrArg (fun z : Int => z % 4294967296) huv
   have this : hOf (a : Int) (x.gen a) % 4294967296 = hOf (b : Int) (x.gen b) % 4294967296 := this
   rw [hOf_id (by omega) (by omega), hOf_id (by omega) (by omega)] at this
   omega
  ·cases hv
 ·cases hu
theorem IX.Ok.live_id {e : Int} (he : e ∈ x.liveL) : ∃ id : Nat, x.live id = true ∧ e = hOf id (x.gen id) ∧ (e % 4294967296).toNat = id ∧ 1 ≤ id ∧ id < x.gens.length := by
 obtain ⟨id, h1, rfl⟩ := (IX.mem_liveL h.len e).1 he
 have hlt := IX.live_lt h.len h1
 have hn2 := h.n2
 exact ⟨id, h1, rfl, by rw [hOf_id (by omega) (by omega), Int.toNat_natCast], h.pos h1, hlt⟩
theorem IX.Ok.liveL_len : x.liveL.length + 1 ≤ x.gens.length := by
 unfold IX.liveL
 obtain ⟨m, hm⟩ : ∃ m, x.gens.length = m + 1 := ⟨x.gens.length - 1, by have := h.n1; omega⟩
 rw [hm, List.range_succ_eq_map, List.filterMap_cons]
 have : x.liveH 0 = none := by unfold IX.liveH; rw [h.live0]; rfl
 rw [this]
 have := List.length_filterMap_le x.liveH (List.map Nat.succ (List.range m))
 simp at this ⊢
 omega
end
def IX.spawn (x : IX) (id : Nat) : IX := { x with lives := x.lives.set id true }
def IX.kill (x : IX) (id : Nat) : IX := { x with lives := x.lives.set id false, gens := x.gens.set id (x.gen id + 1) }
theorem getD_set {α : Type} {l : List α} {i : Nat} (hi : i < l.length) (a d : α) (j : Nat) : (l.set i a).getD j d = if j = i then a else l.getD j d := by
 rw [List.getD_eq_getElem?_getD, List.getD_eq_getElem?_getD, List.getElem?_set]
 by_cases h : j = i
 ·subst h; simp [hi]
 ·rw [if_neg (fun e => h e.symm), if_neg h]
theorem IX.next_some {x : IX} {id : Nat} (h : x.next = some id) : 1 ≤ id ∧ id < x.gens.length ∧ x.live id = false ∧ x.gen id ≤ x.most := by
 have := List.find?_some h
 unfold IX.freeB at this
 simp at this
 exact ⟨this.1.1.1, this.1.1.2, this.1.2, this.2⟩
theorem IX.Ok.spawn {x : IX} (h : x.Ok) {id : Nat} (hn : x.next = some id) : (x.spawn id).Ok ∧ hOf id (x.gen id) ∉ x.liveL ∧ (x.spawn id).liveL.Perm (hOf id (x.gen id) :: x.liveL) := by
 obtain ⟨h1, h2, h3, h4⟩ := IX.next_some hn
 have hlen := h.len
 have hl : ∀ j, (x.spawn id).live j = if j = id then true else x.live j := fun j => getD_set (by omega) _ _ _
 have hok : (x.spawn id).Ok := by
  refine ⟨by simp [IX.spawn, h.len], h.n1, h.n2, h.most1, h.most2, h.gen1, ?_, fun j hj => ?_⟩
  ·rw [hl, if_neg (by omega)]; exact h.live0
  ·rw [hl] at hj
   split at hj
   ·rename_i e; subst e; exact h4
   ·exact h.liveg j hj
 have hno : hOf id (x.gen id) ∉ x.liveL := by
  intro he
  obtain ⟨j, k1, k2, k3, k4, k5⟩ := h.live_id he
  have hn2 := h.n2
  rw [hOf_id (by omega) (by omega), Int.toNat_natCast] at k3
  subst k3
  rw [h3] at k1; cases k1
 refine ⟨hok, hno, nd_perm hok.liveL_nd (List.nodup_cons.2 ⟨hno, h.liveL_nd⟩) fun e => ?_⟩
 rw [IX.mem_liveL hok.len, List.mem_cons, IX.mem_liveL h.len]
 constructor
 ·rintro ⟨j, k1, rfl⟩
  rw [hl] at k1
  split at k1
  ·rename_i e; subst e; exact .inl rfl
  ·exact .inr ⟨j, k1, rfl⟩
 ·rintro (rfl | ⟨j, k1, rfl⟩)
  ·exact ⟨id, by rw [hl, if_pos rfl], rfl⟩
  ·exact ⟨j, by rw [hl]; split <;> first | rfl | exact k1, rfl⟩
theorem IX.Ok.kill {x : IX} (h : x.Ok) {id : Nat} (hi : x.live id = true) : (x.kill id).Ok ∧ x.liveL.Perm (hOf id (x.gen id) :: (x.kill id).liveL) := by
 have hlen := h.len
 have hlt := IX.live_lt hlen hi
 have hp := h.pos hi
 have hl : ∀ j, (x.kill id).live j = if j = id then false else x.live j := fun j => getD_set (by omega) _ _ _
 have hg : ∀ j, (x.kill id).gen j = if j = id then x.gen id + 1 else x.gen j := fun j => getD_set (by omega) _ _ _
 have hgl : (x.kill id).gens.length = x.gens.length := by simp [IX.kill]
 have hok : (x.kill id).Ok := by
  refine ⟨by simp [IX.kill, h.len], by rw [hgl]; exact h.n1, by rw [hgl]; exact h.n2, h.most1, h.most2, fun j j1 j2 => ?_, ?_, fun j hj => ?_⟩
  ·rw [hgl] at j2
   rw [hg]
   show _ ∧ _ ≤ x.most + 1
   split
   ·have a := h.gen1 id hp hlt
    have b := h.liveg id hi
    omega
   ·exact h.gen1 j j1 j2
  ·rw [hl, if_neg (by omega)]; exact h.live0
  ·rw [hl] at hj
   split at hj
   ·cases hj
   ·rename_i hj2
    rw [hg, if_neg hj2]
    exact h.liveg j hj
 have hn2 := h.n2
 have hno : hOf id (x.gen id) ∉ (x.kill id).liveL := by
  intro he
  obtain ⟨j, k1, k2, k3, k4, k5⟩ := hok.live_id he
  rw [hOf_id (by omega) (by omega), Int.toNat_natCast] at k3
  subst k3
  rw [hl, if_pos rfl] at k1; cases k1
 refine ⟨hok, nd_perm h.liveL_nd (List.nodup_cons.2 ⟨hno, hok.liveL_nd⟩) fun e => ?_⟩
 rw [IX.mem_liveL h.len, List.mem_cons, IX.mem_liveL hok.len]
 constructor
 ·rintro ⟨j, k1, rfl⟩
  by_cases e : j = id
  ·subst e; exact .inl rfl
  ·exact .inr ⟨j, by rw [hl, if_neg e]; exact k1, by rw [hg, if_neg e]⟩
 ·rintro (rfl | ⟨j, k1, rfl⟩)
  ·exact ⟨id, hi, rfl⟩
  ·rw [hl] at k1
   split at k1
   ·cases k1
   ·rename_i e
    exact ⟨j, k1, by rw [hg, if_neg e]⟩
structure FreeOk (x : IX) (fr : List Int) : Prop where
 heap : HeapN fr fr.length
 nd : fr.Nodup
 mem : ∀ y, y ∈ fr ↔ ∃ id : Nat, y = id ∧ x.freeB id = true
theorem IX.freeB_lt {x : IX} {id : Nat} (h : x.freeB id = true) : id < x.gens.length ∧ 1 ≤ id := by
 unfold IX.freeB at h
 simp at h
 exact ⟨h.1.1.2, h.1.1.1⟩
theorem FreeOk.next {x : IX} {fr : List Int} (h : FreeOk x fr) (h0 : fr ≠ []) : ∃ id : Nat, x.next = some id ∧ at0 fr 0 = id := by
 have hl : 0 < fr.length := List.length_pos_iff.2 h0
 have hm : at0 fr 0 ∈ fr := List.mem_of_getElem? (at0_get hl)
 obtain ⟨id, hid, hf⟩ := (h.mem _).1 hm
 refine ⟨id, ?_, hid⟩
 unfold IX.next
 rw [List.find?_range_eq_some]
 refine ⟨hf, List.mem_range.2 (IX.freeB_lt hf).1, fun j hj => ?_⟩
 cases hb : x.freeB j with
 | false => rfl
 | true =>
  have hjm : (j : Int) ∈ fr := (h.mem _).2 ⟨j, rfl, hb⟩
  obtain ⟨k, hk⟩ := List.getElem?_of_mem hjm
  have := h.heap.least k (List.getElem?_eq_some_iff.1 hk).1
  rw [at0_some hk] at this
  omega
theorem FreeOk.next_none {x : IX} (h : FreeOk x []) : x.next = none := by
 unfold IX.next
 rw [List.find?_eq_none]
 intro j _ hb
 have := (h.mem j).2 ⟨j, rfl, hb⟩
 simp at this
theorem FreeOk.len {x : IX} {fr : List Int} (h : FreeOk x fr) (hx : x.Ok) : fr.length ≤ 257 := by
 have hn2 := hx.n2
 have h1 : ∀ y ∈ fr, y ∈ (List.range x.gens.length).map (fun (j : Nat) => (j : Int)) := fun y hy => by
  obtain ⟨id, rfl, hf⟩ := (h.mem y).1 hy
  exact List.mem_map.2 ⟨id, List.mem_range.2 (IX.freeB_lt hf).1, rfl⟩
 have := h.nd.length_le_of_subset h1
 simp at this
 omega
theorem FreeOk.pop {x : IX} {fr fr' : List Int} (h : FreeOk x fr) {id : Nat} (hn : x.next = some id) (hx : x.Ok) (hh : HeapN fr' fr'.length) (hp : fr.Perm ((id : Int) :: fr')) : FreeOk (x.spawn id) fr' := by
 have hlen := hx.len
 obtain ⟨h1, h2, h3, h4⟩ := IX.next_some hn
 have hnd := List.nodup_cons.1 (hp.nodup h.nd)
 refine ⟨hh, hnd.2, fun y => ?_⟩
 have hm : y ∈ fr' ↔ y ∈ fr ∧ y ≠ id := by
  rw [hp.mem_iff, List.mem_cons]
  constructor
  ·intro hy; exact ⟨.inr hy, fun e => hnd.1 (e ▸ hy)⟩
  ·rintro ⟨k1 | k1, k2⟩
   ·exact absurd k1 k2
   ·exact k1
 have hb : ∀ j, (x.spawn id).freeB j = (x.freeB j && decide (j ≠ id)) := fun j => by
  have hl : (x.spawn id).live j = if j = id then true else x.live j := getD_set (by omega) _ _ _
  unfold IX.freeB
  rw [hl]
  have hg : (x.spawn id).gen j = x.gen j := rfl
  have hl2 : (x.spawn id).gens.length = x.gens.length := rfl
  have hl3 : (x.spawn id).most = x.most := rfl
  rw [hg, hl2, hl3]
  by_cases e : j = id
  ·simp [e]
  ·simp [e]
 rw [hm, h.mem]
 constructor
 ·rintro ⟨⟨j, rfl, hj⟩, hne⟩
  exact ⟨j, rfl, by rw [hb, hj]; simp; omega⟩
 ·rintro ⟨j, rfl, hj⟩
  rw [hb, Bool.and_eq_true, decide_eq_true_iff] at hj
  exact ⟨⟨j, rfl, hj.1⟩, by have := hj.2; omega⟩
theorem FreeOk.push {x : IX} {fr fr' : List Int} (h : FreeOk x fr) {id : Nat} (hi : x.live id = true) (hx : x.Ok) (hh : HeapN fr' fr'.length) (hp : fr'.Perm (if x.gen id + 1 ≤ x.most then (id : Int) :: fr else fr)) : FreeOk (x.kill id) fr' := by
 have hlen := hx.len
 have hlt := IX.live_lt hlen hi
 have h1 := hx.pos hi
 have hb : ∀ j, (x.kill id).freeB j = if j = id then decide (x.gen id + 1 ≤ x.most) else x.freeB j := fun j => by
  have hl : (x.kill id).live j = if j = id then false else x.live j := getD_set (by omega) _ _ _
  have hg : (x.kill id).gen j = if j = id then x.gen id + 1 else x.gen j := getD_set (by omega) _ _ _
  unfold IX.freeB
  rw [hl, hg]
  by_cases e : j = id
  ·subst e; simp [IX.kill, h1, hlt]
  ·simp [e, IX.kill]
 have hidn : (id : Int) ∉ fr := fun hm => by
  obtain ⟨j, hj, hf⟩ := (h.mem _).1 hm
  obtain rfl : id = j := by omega
  unfold IX.freeB at hf
  rw [hi] at hf
  simp at hf
 by_cases hg : x.gen id + 1 ≤ x.most
 ·rw [if_pos hg] at hp
  refine ⟨hh, hp.symm.nodup (List.nodup_cons.2 ⟨hidn, h.nd⟩), fun y => ?_⟩
  rw [hp.mem_iff, List.mem_cons, h.mem]
  constructor
  ·rintro (rfl | ⟨j, rfl, hj⟩)
   ·exact ⟨id, rfl, by rw [hb, if_pos rfl]; simpa using hg⟩
   ·refine ⟨j, rfl, ?_⟩
    rw [hb]
    split
    ·simpa using hg
    ·exact hj
  ·rintro ⟨j, rfl, hj⟩
   rw [hb] at hj
   split at hj
   ·rename_i e; subst e; exact .inl rfl
   ·exact .inr ⟨j, rfl, hj⟩
 ·rw [if_neg hg] at hp
  refine ⟨hh, hp.symm.nodup h.nd, fun y => ?_⟩
  rw [hp.mem_iff, h.mem]
  constructor
  ·rintro ⟨j, rfl, hj⟩
   refine ⟨j, rfl, ?_⟩
   rw [hb, if_neg]
   ·exact hj
   ·rintro rfl
    exact hidn ((h.mem _).2 ⟨j, rfl, hj⟩)
  ·rintro ⟨j, rfl, hj⟩
   rw [hb] at hj
   split at hj
   ·simp at hj; omega
   ·exact ⟨j, rfl, hj⟩
end Go.Proofs.YtgebbmfoamkfnaaGreatDoor
namespace Go.Proofs.YtgebbmfoamkfnaaGreatDoor
open Go.RowKit
set_option linter.unusedVariables false
theorem pow_mask : ∀ n, n < 25 → 1 ≤ n → ((2 : Nat) ^ n &&& 4261412865) = 0 := by decide
theorem sIs_w {s : Nat} (hs : s < 4294967296) : sIs (s : Int) = (s &&& 4261412865 == 0) := by
 unfold sIs
 rw [show (33554430 : Int) = ((33554430 : Nat) : Int) from rfl, u32_andNot_nat _ _ hs (by omega)]
 show (((s &&& 4261412865 : Nat) : Int) == 0) = _
 by_cases h : s &&& 4261412865 = 0
 ·rw [h]; rfl
 ·rw [beq_false_of_ne h, beq_false_of_ne (by omega)]
theorem sIs_with {s c : Int} (h0 : 0 ≤ s) (h1 : s ≤ 4294967295) (hc : idB c = true) (h : sIs s = true) : sIs (sWith s c) = true := by
 obtain ⟨s, rfl⟩ := Int.eq_ofNat_of_zero_le h0
 obtain ⟨n, rfl, n1, n2⟩ := idNat hc
 have hs : s < 4294967296 := by omega
 have hp : 2 ^ n < 4294967296 := by
  have : 2 ^ n ≤ 2 ^ 24 := Nat.pow_le_pow_right (by omega) n2
  omega
 rw [withNat hs n1 n2, sIs_w (Nat.or_lt_two_pow (n := 32) hs hp)]
 rw [sIs_w hs] at h
 rw [Nat.and_or_distrib_right, pow_mask n (by omega) n1, Nat.or_zero]
 exact h
theorem sIs_fold (ids : List Int) (h : ids.all idB = true) : sIs (foldS ids) = true := by
 have : ∀ (l : List Int) (s : Int), l.all idB = true → 0 ≤ s → s ≤ 4294967295 → sIs s = true → sIs (l.foldl sWith s) = true := by
  intro l
  induction l with
  | nil => intro s _ _ _ hs; exact hs
  | cons x r ih =>
   intro s hl h0 h1 hs
   rw [List.all_cons, Bool.and_eq_true] at hl
   obtain ⟨a, b⟩ := withBd (n := x) h0 h1
   exact ih _ hl.2 a b (sIs_with h0 h1 hl.1 hs)
 exact this ids 0 h (by omega) (by omega) (by kernel_rfl)
theorem nd_len {l m : List Int} (hl : l.Nodup) (hm : m.Nodup) (h : ∀ x, x ∈ l ↔ x ∈ m) : l.length = m.length := (nd_perm hl hm h).length_eq
theorem cpsGo_seen (cs : List Cmp) : ∀ (ps seen : List PW), cpsGo cs seen ps = 0 → (ps.map (·.comp)).Nodup ∧ ∀ p ∈ ps, ∀ q ∈ seen, q.comp ≠ p.comp
 | [], _, _ => ⟨List.nodup_nil, fun p hp => by cases hp⟩
 | p :: r, seen, h => by
  unfold cpsGo at h
  split at h
  ·cases h
  ·rename_i h0
   split at h
   ·rename_i h1; exact absurd h h1
   ·obtain ⟨h2, h3⟩ := cpsGo_seen cs r _ h
    refine ⟨?_, fun x hx q hq => ?_⟩
    ·rw [List.map_cons, List.nodup_cons]
     refine ⟨fun hm => ?_, h2⟩
     obtain ⟨x, hx, he⟩ := List.mem_map.1 hm
     exact h3 x hx p (by simp) he.symm
    ·rcases List.mem_cons.1 hx with rfl | hx
     ·intro he
      apply h0
      rw [List.any_eq_true]
      exact ⟨q, hq, by simpa using he⟩
     ·exact h3 x hx q (List.mem_append_left _ hq)
theorem cpsGo_mk (cs : List Cmp) : ∀ (ps seen : List PW), (ps.map (·.comp)).Nodup → (∀ p ∈ ps, ∀ q ∈ seen, q.comp ≠ p.comp) → (∀ p ∈ ps, cpF cs p = 0) → cpsGo cs seen ps = 0
 | [], _, _, _, _ => by unfold cpsGo; rfl
 | p :: r, seen, h1, h2, h3 => by
  rw [List.map_cons, List.nodup_cons] at h1
  unfold cpsGo
  rw [if_neg, if_neg (by rw [h3 p (by simp)]; simp)]
  ·refine cpsGo_mk cs r _ h1.2 (fun x hx q hq => ?_) (fun x hx => h3 x (by simp [hx]))
   rcases List.mem_append.1 hq with hq | hq
   ·exact h2 x (by simp [hx]) q hq
   ·obtain rfl : q = p := by simpa using hq
    intro he
    exact h1.1 (by rw [he]; exact List.mem_map_of_mem (f := (·.comp)) hx)
  ·rw [List.any_eq_true]
   rintro ⟨q, hq, he⟩
   exact h2 p (by simp) q hq (by simpa using he)
structure PartsOk (cs : List Cmp) (ps : List PW) : Prop where
 nd : (comps ps).Nodup
 fit : ∀ p ∈ ps, cpF cs p = 0
 ids : (comps ps).all idB = true
theorem cpF_find {cs : List Cmp} {p : PW} (h : cpF cs p = 0) : ∃ c, findC p.comp cs = some c ∧ fitF c.fields p.val = 0 := by
 unfold cpF at h
 cases hf : findC p.comp cs with
 | none => rw [hf] at h; cases h
 | some c => rw [hf] at h; exact ⟨c, rfl, h⟩
theorem PartsOk.of {ver : Int} {cs : List Cmp} {ps : List PW} (hs : schemaCheck ver cs = 0) (h : cpsGo cs [] ps = 0) : PartsOk cs ps := by
 have hfit := cpsGo_zero cs ps [] h
 refine ⟨(cpsGo_seen cs ps [] h).1, hfit, ?_⟩
 have hids : ∀ c ∈ cs, 1 ≤ c.id ∧ c.id ≤ 24 := by
  unfold schemaCheck at hs
  split at hs
  ·cases hs
  ·exact compsGo_ids cs 0 [] (by omega) hs
 rw [List.all_eq_true]
 intro x hx
 obtain ⟨p, hp, rfl⟩ := List.mem_map.1 hx
 obtain ⟨c, hc, _⟩ := cpF_find (hfit p hp)
 have h1 := hids c (findC_mem hc)
 have h2 := findC_id hc
 exact idB_true (by omega) (by omega)
section
variable {cs : List Cmp} {ps : List PW} (h : PartsOk cs ps)
include h
theorem PartsOk.mem (i : Int) : i ∈ idsTo (foldS (comps ps)) 24 ↔ i ∈ comps ps := by
 constructor
 ·intro hi
  obtain ⟨h1, h2⟩ := idsTo_mem hi
  rw [has_fold h2 _ h.ids] at h1
  simpa using h1
 ·intro hi
  have h2 : idB i = true := by have := h.ids; rw [List.all_eq_true] at this; exact this i hi
  obtain ⟨n, rfl, n1, n2⟩ := idNat h2
  unfold idsTo
  rw [List.mem_filter]
  refine ⟨List.mem_map.2 ⟨n - 1, List.mem_range.2 (by omega), by omega⟩, ?_⟩
  rw [has_fold h2 _ h.ids]
  simpa using hi
theorem PartsOk.parts : partsF ps = (foldS (comps ps), 0) := by
 unfold partsF
 rw [if_pos h.ids, if_pos]
 rw [nd_len (idsTo_nodup _ _) h.nd (fun x => h.mem x)]
 simp [comps]
theorem PartsOk.tableOk {ver most : Int} (hs : schemaCheck ver cs = 0) (m1 : 1 ≤ most) (m2 : most ≤ 256) : tableOk ver cs (foldS (comps ps)) most = true := by
 unfold Go.Proofs.YtgebbmfoamkfnaaGreatDoor.tableOk
 rw [hs, sIs_fold _ h.ids]
 simp only [m1, m2, decide_true, Bool.and_true, beq_self_eq_true, Bool.true_and]
 rw [List.all_eq_true]
 intro i hi
 obtain ⟨p, hp, rfl⟩ := List.mem_map.1 ((h.mem i).1 hi)
 obtain ⟨c, hc, _⟩ := cpF_find (h.fit p hp)
 rw [hc]; rfl
end
theorem findC_like {cs tcs : List Cmp} {ids : List Int} (hl : ids.map (findC · cs) = tcs.map some) (hn : ids.Nodup) {i : Int} (hi : i ∈ ids) : findC i tcs = findC i cs := by
 induction ids generalizing tcs with
 | nil => cases hi
 | cons x r ih =>
  cases tcs with
  | nil => simp at hl
  | cons c rest =>
   rw [List.map_cons, List.map_cons] at hl
   obtain ⟨h1, h2⟩ := List.cons.inj hl
   rw [List.nodup_cons] at hn
   have hcid := findC_id h1
   by_cases e : i = x
   ·subst e
    rw [h1]
    unfold findC
    rw [List.find?_cons]
    simp [hcid]
   ·rw [← ih h2 hn.2 ((List.mem_cons.1 hi).resolve_left e)]
    unfold findC
    rw [List.find?_cons]
    have : ¬ c.id = i := fun e' => e (by rw [← e', hcid])
    simp [this]
theorem PartsOk.addErr {cs : List Cmp} {ps : List PW} (h : PartsOk cs ps) {t : TD} (hset : t.set = foldS (comps ps)) (hlike : (idsTo t.set 24).map (findC · cs) = t.cs.map some) {e : Int} (he : e ≠ 0) (hf : t.free ≠ 0) : addErr t e ps = 0 := by
 unfold Go.Proofs.YtgebbmfoamkfnaaGreatDoor.addErr
 rw [if_neg he, h.parts, if_neg (by rw [hset]; simp)]
 have hc : cpsGo t.cs [] ps = 0 := by
  refine cpsGo_mk t.cs ps [] h.nd (fun _ _ q hq => by cases hq) fun p hp => ?_
  have hin : p.comp ∈ idsTo t.set 24 := by rw [hset, h.mem]; exact List.mem_map_of_mem (f := (·.comp)) hp
  have := h.fit p hp
  unfold cpF at *
  rw [findC_like hlike (idsTo_nodup _ _) hin]
  exact this
 rw [if_neg (by rw [hc]; simp), if_neg hf]
def valsOf (ps : List PW) (set : Int) : List (List WI) := (idsTo set 24).map fun i => match partOf ps i with | some p => p.val | none => []
theorem addRow_vals {t : TD} (hids : t.cps.map (·.c.id) = idsTo t.set 24) (ps : List PW) : addRow ps t = valsOf ps t.set := by
 unfold addRow valsOf
 rw [← hids, List.map_map]
 rfl
theorem partOf_mem {ps : List PW} (hn : (comps ps).Nodup) {p : PW} (hp : p ∈ ps) : partOf ps p.comp = some p := by
 unfold partOf
 induction ps with
 | nil => cases hp
 | cons q r ih =>
  unfold comps at hn ih
  rw [List.map_cons, List.nodup_cons] at hn
  rw [List.find?_cons]
  rcases List.mem_cons.1 hp with rfl | hp
  ·simp
  ·have : ¬ q.comp = p.comp := fun e => hn.1 (by rw [e]; exact List.mem_map_of_mem (f := (·.comp)) hp)
   simp only [this, decide_false]
   exact ih hn.2 hp
theorem PartsOk.hfit {cs : List Cmp} {ps : List PW} (h : PartsOk cs ps) {B : Nat} {w : World} {t : TD} (ht : TabIn B w t) (hset : t.set = foldS (comps ps)) (hlike : (idsTo t.set 24).map (findC · cs) = t.cs.map some) (hwf : ∀ p ∈ ps, ∀ y ∈ p.val, y.wf) :
  ∀ x ∈ t.cps, ∃ p, partOf ps x.c.id = some p ∧ fitF x.c.fields p.val = 0 ∧ ∀ y ∈ p.val, y.wf := by
 intro x hx
 have hmem : x.c.id ∈ idsTo t.set 24 := by rw [← ht.ids]; exact List.mem_map_of_mem (f := (·.c.id)) hx
 have hin : x.c.id ∈ comps ps := by rw [← h.mem, ← hset]; exact hmem
 obtain ⟨p, hp, hpc⟩ := List.mem_map.1 hin
 refine ⟨p, by rw [← hpc]; exact partOf_mem h.nd hp, ?_, hwf p hp⟩
 obtain ⟨c, hc, hfit⟩ := cpF_find (h.fit p hp)
 have h1 := find_id (by rw [ht.ids]; exact idsTo_nodup _ _) hx
 have h2 := findC_like hlike (idsTo_nodup _ _) hmem
 unfold TD.cs at h2
 rw [h1, ← hpc, hc] at h2
 cases h2
 exact hfit
end Go.Proofs.YtgebbmfoamkfnaaGreatDoor
namespace Go.Proofs.YtgebbmfoamkfnaaGreatDoor
open Go.RowKit
set_option linter.unusedVariables false
theorem mask_in : ∀ i, i < 32 → (4261412865 : Nat).testBit i = !decide (1 ≤ i ∧ i ≤ 24) := by decide
theorem hasB_id {s n : Int} (h : hasB s n = true) : idB n = true := by
 unfold hasB at h
 rw [Bool.and_eq_true] at h
 exact h.1
theorem set_ext {s t : Int} (s0 : 0 ≤ s) (s1 : s ≤ 4294967295) (t0 : 0 ≤ t) (t1 : t ≤ 4294967295) (hs : sIs s = true) (ht : sIs t = true) (h : ∀ n, idB n = true → hasB s n = hasB t n) : s = t := by
 obtain ⟨x, rfl⟩ := Int.eq_ofNat_of_zero_le s0
 obtain ⟨y, rfl⟩ := Int.eq_ofNat_of_zero_le t0
 have hx : x < 4294967296 := by omega
 have hy : y < 4294967296 := by omega
 rw [sIs_w hx, beq_iff_eq] at hs
 rw [sIs_w hy, beq_iff_eq] at ht
 congr 1
 apply Nat.eq_of_testBit_eq
 intro i
 by_cases hi : i < 32
 ·by_cases hid : 1 ≤ i ∧ i ≤ 24
  ·have := h i (idB_true (by omega) (by omega))
   rw [hasBit hx hid.1 hid.2, hasBit hy hid.1 hid.2] at this
   exact this
  ·have a : (x &&& 4261412865).testBit i = false := by rw [hs]; simp
   have b : (y &&& 4261412865).testBit i = false := by rw [ht]; simp
   rw [Nat.testBit_and, mask_in i hi] at a b
   simp only [hid, decide_false, Bool.not_false, Bool.and_true] at a b
   rw [a, b]
 ·rw [bit_high hx (by omega), bit_high hy (by omega)]
theorem ids_all (s : Int) : (idsTo s 24).all idB = true := by
 rw [List.all_eq_true]
 intro x hx
 exact (idsTo_mem hx).2
theorem mem_ids {s n : Int} : n ∈ idsTo s 24 ↔ hasB s n = true := by
 constructor
 ·exact fun h => (idsTo_mem h).1
 ·intro h
  obtain ⟨k, rfl, n1, n2⟩ := idNat (hasB_id h)
  unfold idsTo
  rw [List.mem_filter]
  exact ⟨List.mem_map.2 ⟨k - 1, List.mem_range.2 (by omega), by omega⟩, h⟩
theorem fold_of {s : Int} (s0 : 0 ≤ s) (s1 : s ≤ 4294967295) (hs : sIs s = true) {ids : List Int} (ha : ids.all idB = true) (hm : ∀ n, idB n = true → (n ∈ ids ↔ hasB s n = true)) : foldS ids = s := by
 obtain ⟨a, b⟩ := foldS_bd ids
 refine set_ext a b s0 s1 (sIs_fold _ ha) hs fun n hn => ?_
 rw [has_fold hn _ ha]
 have := hm n hn
 cases hh : hasB s n with
 | true => rw [hh] at this; simpa using this
 | false => rw [hh] at this; simpa using this
theorem fold_ids {s : Int} (s0 : 0 ≤ s) (s1 : s ≤ 4294967295) (hs : sIs s = true) : foldS (idsTo s 24) = s := fold_of s0 s1 hs (ids_all s) fun n _ => mem_ids
def valAt (l : List (Int × List WI)) (i : Int) : List WI := match l.find? (fun p => decide (p.1 = i)) with | some p => p.2 | none => []
def cvOf (s : Int) (r : List (List WI)) : List (Int × List WI) := (idsTo s 24).zip r
def rowOfC (l : List (Int × List WI)) (s : Int) : List (List WI) := (idsTo s 24).map (valAt l)
theorem valsOf_cv (ps : List PW) (s : Int) : valsOf ps s = rowOfC (cv ps) s := by
 unfold valsOf rowOfC
 apply List.map_congr_left
 intro i _
 unfold valAt partOf cv
 rw [List.find?_map]
 have : ((fun p : Int × List WI => decide (p.1 = i)) ∘ fun p : PW => (p.comp, p.val)) = fun c => decide (c.comp = i) := rfl
 rw [this]
 cases ps.find? (fun c => decide (c.comp = i)) <;> rfl
theorem valAt_zip {ids : List Int} (hn : ids.Nodup) : ∀ (r : List (List WI)), r.length = ids.length → ids.map (valAt (ids.zip r)) = r := by
 induction ids with
 | nil => intro r h; simp at h; subst h; rfl
 | cons x l ih =>
  intro r h
  cases r with
  | nil => simp at h
  | cons v m =>
   rw [List.nodup_cons] at hn
   rw [List.map_cons, List.zip_cons_cons]
   have h1 : valAt ((x, v) :: l.zip m) x = v := by simp [valAt]
   rw [h1]
   congr 1
   refine Eq.trans (List.map_congr_left fun i hi => ?_) (ih hn.2 m (by simpa using h))
   have hne : ¬ x = i := fun e => hn.1 (e ▸ hi)
   unfold valAt
   rw [List.find?_cons]
   simp only [hne, decide_false]
theorem row_back {s : Int} {r : List (List WI)} (h : r.length = (idsTo s 24).length) : rowOfC (cvOf s r) s = r := valAt_zip (idsTo_nodup _ _) r h
end Go.Proofs.YtgebbmfoamkfnaaGreatDoor
namespace Go.Proofs.YtgebbmfoamkfnaaGreatDoor
open Go.RowKit
set_option linter.unusedVariables false
open Go.Lib (decDigits join)
def SOk (n : Int) : Prop := 0 ≤ n ∧ n ≤ 4294967295 ∧ sIs n = true
def textS (n : Int) : List UInt8 := if (idsTo n 24).isEmpty then [45] else join ((idsTo n 24).map fun i => decDigits i.toNat) [43]
def sepQ : List UInt8 := [32, 110, 111, 116, 32]
def textQ (al no : Int) : List UInt8 := textS al ++ (sepQ ++ textS no)
theorem textS_blank (n : Int) : (32 : UInt8) ∉ textS n := by
  unfold textS
  split
  · decide
  · intro hm
    rcases join_mem hm with h | ⟨x, hx, hc⟩
    · cases h
    · obtain ⟨i, _, rfl⟩ := List.mem_map.1 hx
      exact dd_no (.inl (by decide)) hc
theorem ids_pos {n i : Int} (h : i ∈ idsTo n 24) : 1 ≤ i ∧ i ≤ 24 := by
  have := idsTo_bd n 24 i h
  omega
theorem dmap_inj : ∀ {l r : List Int}, (∀ i ∈ l, 1 ≤ i) → (∀ i ∈ r, 1 ≤ i) → (l.map fun i => decDigits i.toNat) = (r.map fun i => decDigits i.toNat) → l = r
  | [], [], _, _, _ => rfl
  | [], _ :: _, _, _, h => by cases h
  | _ :: _, [], _, _, h => by cases h
  | x :: l, y :: r, hl, hr, h => by
    simp only [List.map_cons, List.cons.injEq] at h
    have h1 := dd_inj h.1
    have h2 := hl x (by simp)
    have h3 := hr y (by simp)
    rw [show x = y by omega, dmap_inj (fun i hi => hl i (by simp [hi])) (fun i hi => hr i (by simp [hi])) h.2]
theorem textS_ids {n m : Int} (h : textS n = textS m) : idsTo n 24 = idsTo m 24 := by
  have hno : ∀ {k : Int}, ∀ x ∈ (idsTo k 24).map (fun i => decDigits i.toNat), (43 : UInt8) ∉ x := fun {k} x hx => by
    obtain ⟨i, _, rfl⟩ := List.mem_map.1 hx
    exact dd_no (.inl (by decide))
  have hd : ∀ {k : Int}, idsTo k 24 ≠ [] → [45] ≠ join ((idsTo k 24).map fun i => decDigits i.toNat) [43] := fun {k} hk e => by
    have e1 : join [[45]] [43] = join ((idsTo k 24).map fun i => decDigits i.toNat) [43] := by rw [Lib.join_one]; exact e
    have := join_inj (by simp) (by simpa using hk) (fun z hz => by simp at hz; subst hz; decide) hno e1
    cases hl : idsTo k 24 with
    | nil => exact hk hl
    | cons i r =>
      rw [hl, List.map_cons, List.cons.injEq] at this
      exact dd_no (u := i.toNat) (s := 45) (.inl (by decide)) (by rw [← this.1]; simp)
  unfold textS at h
  cases hn : idsTo n 24 with
  | nil =>
    cases hm : idsTo m 24 with
    | nil => rfl
    | cons y r =>
      rw [hn, hm] at h
      exact absurd (by simpa [hm] using h) (hd (k := m) (by rw [hm]; simp))
  | cons x l =>
    cases hm : idsTo m 24 with
    | nil =>
      rw [hn, hm] at h
      exact absurd (by simpa [hn] using h.symm) (hd (k := n) (by rw [hn]; simp))
    | cons y r =>
      rw [if_neg (by rw [hn]; simp), if_neg (by rw [hm]; simp)] at h
      have h2 := join_inj (by rw [hn]; simp) (by rw [hm]; simp) hno hno h
      have h3 := dmap_inj (fun i hi => (ids_pos hi).1) (fun i hi => (ids_pos hi).1) h2
      rw [hn, hm] at h3
      exact h3
theorem textS_inj {n m : Int} (hn : SOk n) (hm : SOk m) (h : textS n = textS m) : n = m := by
  rw [← fold_ids hn.1 hn.2.1 hn.2.2, ← fold_ids hm.1 hm.2.1 hm.2.2, textS_ids h]
/-- What a text is of: the way back. -/
def CanonS (s : List UInt8) (r : Option Int) : Prop := (∀ n, SOk n → textS n = s → r = some n) ∧ ((∀ n, SOk n → textS n ≠ s) → r = none)
theorem CanonS.one {s : List UInt8} {r q : Option Int} (h : CanonS s r) (k : CanonS s q) : r = q := by
  by_cases he : ∃ n, SOk n ∧ textS n = s
  · obtain ⟨n, h1, h2⟩ := he
    rw [h.1 n h1 h2, k.1 n h1 h2]
  · have hn : ∀ n, SOk n → textS n ≠ s := fun n h1 h2 => he ⟨n, h1, h2⟩
    rw [h.2 hn, k.2 hn]
theorem CanonS.text {s : List UInt8} {n : Int} (h : CanonS s (some n)) : SOk n ∧ textS n = s := by
  by_cases he : ∃ m, SOk m ∧ textS m = s
  · obtain ⟨m, h1, h2⟩ := he
    cases h.1 m h1 h2
    exact ⟨h1, h2⟩
  · exact absurd (h.2 fun m h1 h2 => he ⟨m, h1, h2⟩) (by simp)
theorem CanonS.of {s : List UInt8} {n : Int} (h : SOk n) (ht : textS n = s) : CanonS s (some n) :=
  ⟨fun m hm he => by rw [textS_inj h hm (ht.trans he.symm)], fun hn => absurd ht (hn n h)⟩
def CanonQ (s : List UInt8) (r : Option (Int × Int)) : Prop := (∀ a b, SOk a → SOk b → textQ a b = s → r = some (a, b)) ∧ ((∀ a b, SOk a → SOk b → textQ a b ≠ s) → r = none)
theorem CanonQ.one {s : List UInt8} {r q : Option (Int × Int)} (h : CanonQ s r) (k : CanonQ s q) : r = q := by
  by_cases he : ∃ a b, SOk a ∧ SOk b ∧ textQ a b = s
  · obtain ⟨a, b, h1, h2, h3⟩ := he
    rw [h.1 a b h1 h2 h3, k.1 a b h1 h2 h3]
  · have hn : ∀ a b, SOk a → SOk b → textQ a b ≠ s := fun a b h1 h2 h3 => he ⟨a, b, h1, h2, h3⟩
    rw [h.2 hn, k.2 hn]
/-- A query's text is cut at its middle. -/
theorem cut_textQ (a b : Int) : Lib.cut (textQ a b) sepQ = (textS a, textS b, true) := by
  have hlen : (textS a).length ≤ (textQ a b).length := by unfold textQ; simp
  have hocc : Lib.occAt (textQ a b) sepQ (textS a).length = true := by
    unfold Lib.occAt textQ
    rw [List.drop_left, List.isPrefixOf_iff_prefix]
    exact List.prefix_append _ _
  have hnot : ∀ j, j < (textS a).length → Lib.occAt (textQ a b) sepQ j = false := by
    intro j hj
    unfold Lib.occAt
    rw [Bool.eq_false_iff]
    intro h
    rw [List.isPrefixOf_iff_prefix] at h
    obtain ⟨t, ht⟩ := h
    have h0 : ((textQ a b).drop j)[0]? = some 32 := by rw [← ht]; rfl
    rw [List.getElem?_drop, Nat.add_zero] at h0
    unfold textQ at h0
    rw [List.getElem?_append_left hj] at h0
    exact textS_blank a (List.mem_of_getElem? h0)
  have hix := Lib.index_first hlen hocc hnot
  unfold Lib.cut
  rw [hix, if_pos (by omega), Int.toNat_natCast]
  unfold textQ
  rw [List.take_left]
  congr 1
  congr 1
  rw [← List.append_assoc, List.drop_append_of_le_length (by simp)]
  rw [show (textS a).length + sepQ.length = (textS a ++ sepQ).length by simp, List.drop_length, List.nil_append]
theorem SOk.zero : SOk 0 := ⟨by decide, by decide, by kernel_rfl⟩
theorem CanonS.ok {s : List UInt8} {x : Option Int} (h : CanonS s x) : SOk (x.getD 0) := by
  cases x with
  | none => exact SOk.zero
  | some n => exact h.text.1
/-- The way back of a query's text by the ways back of its halves. -/
theorem canonQ_of {s : List UInt8} {x y : Option Int} (hx : CanonS (Lib.cut s sepQ).1 x) (hy : CanonS (Lib.cut s sepQ).2.1 y) : CanonQ s (if textQ (x.getD 0) (y.getD 0) = s then some (x.getD 0, y.getD 0) else none) := by
  constructor
  · intro a b ha hb he
    subst he
    rw [cut_textQ] at hx hy
    rw [hx.1 a ha rfl, hy.1 b hb rfl]
    exact if_pos rfl
  · intro hn
    rw [if_neg]
    intro h1
    exact hn _ _ hx.ok hy.ok h1
end Go.Proofs.YtgebbmfoamkfnaaGreatDoor
