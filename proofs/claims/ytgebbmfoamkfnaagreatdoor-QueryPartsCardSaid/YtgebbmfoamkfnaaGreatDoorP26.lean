/- Plain: parts that can be: their set, their values; they may be added to the table of their set. · Plain: sets are what they hold; rows as parts, and back. · Plain: the texts of sets and of queries, and their way back. · sig.Text, Within, Meets; query's Matches and Text. · The index in memory: what it holds, frames; handles. · The queue of free ids: its methods. -/
import Derived.Test.YtgebbmfoamkfnaaGreatDoorP24
import Derived.Test.YtgebbmfoamkfnaaGreatDoorP25
import Derived.Laws.BitsAllLaws
import Derived.Test.YtgebbmfoamkfnaaGreatDoorP3
import Derived.Lib.IndexMore
import Derived.Test.YtgebbmfoamkfnaaGreatDoorP4
import Derived.Test.YtgebbmfoamkfnaaGreatDoorP6
import Derived.Test.YtgebbmfoamkfnaaGreatDoorP13
import Derived.Test.YtgebbmfoamkfnaaGreatDoorP23
import Derived.Test.YtgebbmfoamkfnaaGreatDoorP11
import Derived.Test.YtgebbmfoamkfnaaGreatDoorP8
import Derived.WalkKit
import Derived.BigQuiet
import Derived.Deep.QuietTactic
import Derived.Deep.DeepCutAuto
namespace Go.Proofs.YtgebbmfoamkfnaaGreatDoor
open Go.RowKit
set_option linter.unusedVariables false
theorem pow_mask : ∀ n, n < 25 → 1 ≤ n → ((2 : Nat) ^ n &&& 4261412865) = 0 := by decide
theorem sIs_w {s : Nat} (hs : s < 4294967296) : sIs (s : Int) = (s &&& 4261412865 == 0) := by
  unfold sIs
  rw [show (33554430 : Int) = ((33554430 : Nat) : Int) from rfl, u32_andNot_nat _ _ hs (by omega)]
  show (((s &&& 4261412865 : Nat) : Int) == 0) = _
  by_cases h : s &&& 4261412865 = 0
  · rw [h]; rfl
  · rw [beq_false_of_ne h, beq_false_of_ne (by omega)]
theorem sIs_with {s c : Int} (h0 : 0 ≤ s) (h1 : s ≤ 4294967295) (hc : idB c = true) (h : sIs s = true) : sIs (sWith s c) = true := by
  obtain ⟨s, rfl⟩ := Int.eq_ofNat_of_zero_le h0
  obtain ⟨n, rfl, n1, n2⟩ := idNat hc
  have hs : s < 4294967296 := by omega
  have hp : 2 ^ n < 4294967296 := by
    have : 2 ^ n ≤ 2 ^ 24 := Nat.pow_le_pow_right (by omega) n2
    omega
  rw [withNat hs n1 n2, sIs_w (Nat.or_lt_two_pow (n := 32) hs hp)]
  rw [sIs_w hs] at h
  rw [Nat.and_or_distrib_right, pow_mask n (by omega) n1, Nat.or_zero]
  exact h
theorem sIs_fold (ids : List Int) (h : ids.all idB = true) : sIs (foldS ids) = true := by
  have : ∀ (l : List Int) (s : Int), l.all idB = true → 0 ≤ s → s ≤ 4294967295 → sIs s = true → sIs (l.foldl sWith s) = true := by
    intro l
    induction l with
    | nil => intro s _ _ _ hs; exact hs
    | cons x r ih =>
      intro s hl h0 h1 hs
      rw [List.all_cons, Bool.and_eq_true] at hl
      obtain ⟨a, b⟩ := withBd (n := x) h0 h1
      exact ih _ hl.2 a b (sIs_with h0 h1 hl.1 hs)
  exact this ids 0 h (by omega) (by omega) (by kernel_rfl)
theorem nd_len {l m : List Int} (hl : l.Nodup) (hm : m.Nodup) (h : ∀ x, x ∈ l ↔ x ∈ m) : l.length = m.length := (nd_perm hl hm h).length_eq
theorem cpsGo_seen (cs : List Cmp) : ∀ (ps seen : List PW), cpsGo cs seen ps = 0 → (ps.map (·.comp)).Nodup ∧ ∀ p ∈ ps, ∀ q ∈ seen, q.comp ≠ p.comp
  | [], _, _ => ⟨List.nodup_nil, fun p hp => by cases hp⟩
  | p :: r, seen, h => by
    unfold cpsGo at h
    split at h
    · cases h
    · rename_i h0
      split at h
      · rename_i h1; exact absurd h h1
      · obtain ⟨h2, h3⟩ := cpsGo_seen cs r _ h
        refine ⟨?_, fun x hx q hq => ?_⟩
        · rw [List.map_cons, List.nodup_cons]
          refine ⟨fun hm => ?_, h2⟩
          obtain ⟨x, hx, he⟩ := List.mem_map.1 hm
          exact h3 x hx p (by simp) he.symm
        · rcases List.mem_cons.1 hx with rfl | hx
          · intro he
            apply h0
            rw [List.any_eq_true]
            exact ⟨q, hq, by simpa using he⟩
          · exact h3 x hx q (List.mem_append_left _ hq)
theorem cpsGo_mk (cs : List Cmp) : ∀ (ps seen : List PW), (ps.map (·.comp)).Nodup → (∀ p ∈ ps, ∀ q ∈ seen, q.comp ≠ p.comp) → (∀ p ∈ ps, cpF cs p = 0) → cpsGo cs seen ps = 0
  | [], _, _, _, _ => by unfold cpsGo; rfl
  | p :: r, seen, h1, h2, h3 => by
    rw [List.map_cons, List.nodup_cons] at h1
    unfold cpsGo
    rw [if_neg, if_neg (by rw [h3 p (by simp)]; simp)]
    · refine cpsGo_mk cs r _ h1.2 (fun x hx q hq => ?_) (fun x hx => h3 x (by simp [hx]))
      rcases List.mem_append.1 hq with hq | hq
      · exact h2 x (by simp [hx]) q hq
      · obtain rfl : q = p := by simpa using hq
        intro he
        exact h1.1 (by rw [he]; exact List.mem_map_of_mem (f := (·.comp)) hx)
    · rw [List.any_eq_true]
      rintro ⟨q, hq, he⟩
      exact h2 p (by simp) q hq (by simpa using he)
/-- Parts that can be. -/
structure PartsOk (cs : List Cmp) (ps : List PW) : Prop where
  nd : (comps ps).Nodup
  fit : ∀ p ∈ ps, cpF cs p = 0
  ids : (comps ps).all idB = true
theorem cpF_find {cs : List Cmp} {p : PW} (h : cpF cs p = 0) : ∃ c, findC p.comp cs = some c ∧ fitF c.fields p.val = 0 := by
  unfold cpF at h
  cases hf : findC p.comp cs with
  | none => rw [hf] at h; cases h
  | some c => rw [hf] at h; exact ⟨c, rfl, h⟩
theorem PartsOk.of {ver : Int} {cs : List Cmp} {ps : List PW} (hs : schemaCheck ver cs = 0) (h : cpsGo cs [] ps = 0) : PartsOk cs ps := by
  have hfit := cpsGo_zero cs ps [] h
  refine ⟨(cpsGo_seen cs ps [] h).1, hfit, ?_⟩
  have hids : ∀ c ∈ cs, 1 ≤ c.id ∧ c.id ≤ 24 := by
    unfold schemaCheck at hs
    split at hs
    · cases hs
    · exact compsGo_ids cs 0 [] (by omega) hs
  rw [List.all_eq_true]
  intro x hx
  obtain ⟨p, hp, rfl⟩ := List.mem_map.1 hx
  obtain ⟨c, hc, _⟩ := cpF_find (hfit p hp)
  have h1 := hids c (findC_mem hc)
  have h2 := findC_id hc
  exact idB_true (by omega) (by omega)
section
variable {cs : List Cmp} {ps : List PW} (h : PartsOk cs ps)
include h
theorem PartsOk.mem (i : Int) : i ∈ idsTo (foldS (comps ps)) 24 ↔ i ∈ comps ps := by
  constructor
  · intro hi
    obtain ⟨h1, h2⟩ := idsTo_mem hi
    rw [has_fold h2 _ h.ids] at h1
    simpa using h1
  · intro hi
    have h2 : idB i = true := by have := h.ids; rw [List.all_eq_true] at this; exact this i hi
    obtain ⟨n, rfl, n1, n2⟩ := idNat h2
    unfold idsTo
    rw [List.mem_filter]
    refine ⟨List.mem_map.2 ⟨n - 1, List.mem_range.2 (by omega), by omega⟩, ?_⟩
    rw [has_fold h2 _ h.ids]
    simpa using hi
theorem PartsOk.parts : partsF ps = (foldS (comps ps), 0) := by
  unfold partsF
  rw [if_pos h.ids, if_pos]
  rw [nd_len (idsTo_nodup _ _) h.nd (fun x => h.mem x)]
  simp [comps]
theorem PartsOk.tableOk {ver most : Int} (hs : schemaCheck ver cs = 0) (m1 : 1 ≤ most) (m2 : most ≤ 256) : tableOk ver cs (foldS (comps ps)) most = true := by
  unfold Go.Proofs.YtgebbmfoamkfnaaGreatDoor.tableOk
  rw [hs, sIs_fold _ h.ids]
  simp only [m1, m2, decide_true, Bool.and_true, beq_self_eq_true, Bool.true_and]
  rw [List.all_eq_true]
  intro i hi
  obtain ⟨p, hp, rfl⟩ := List.mem_map.1 ((h.mem i).1 hi)
  obtain ⟨c, hc, _⟩ := cpF_find (h.fit p hp)
  rw [hc]; rfl
end
theorem findC_like {cs tcs : List Cmp} {ids : List Int} (hl : ids.map (findC · cs) = tcs.map some) (hn : ids.Nodup) {i : Int} (hi : i ∈ ids) : findC i tcs = findC i cs := by
  induction ids generalizing tcs with
  | nil => cases hi
  | cons x r ih =>
    cases tcs with
    | nil => simp at hl
    | cons c rest =>
      rw [List.map_cons, List.map_cons] at hl
      obtain ⟨h1, h2⟩ := List.cons.inj hl
      rw [List.nodup_cons] at hn
      have hcid := findC_id h1
      by_cases e : i = x
      · subst e
        rw [h1]
        unfold findC
        rw [List.find?_cons]
        simp [hcid]
      · rw [← ih h2 hn.2 ((List.mem_cons.1 hi).resolve_left e)]
        unfold findC
        rw [List.find?_cons]
        have : ¬ c.id = i := fun e' => e (by rw [← e', hcid])
        simp [this]
/-- A row that can be may be added to the table of its set, if there is room. -/
theorem PartsOk.addErr {cs : List Cmp} {ps : List PW} (h : PartsOk cs ps) {t : TD} (hset : t.set = foldS (comps ps)) (hlike : (idsTo t.set 24).map (findC · cs) = t.cs.map some) {e : Int} (he : e ≠ 0) (hf : t.free ≠ 0) : addErr t e ps = 0 := by
  unfold Go.Proofs.YtgebbmfoamkfnaaGreatDoor.addErr
  rw [if_neg he, h.parts, if_neg (by rw [hset]; simp)]
  have hc : cpsGo t.cs [] ps = 0 := by
    refine cpsGo_mk t.cs ps [] h.nd (fun _ _ q hq => by cases hq) fun p hp => ?_
    have hin : p.comp ∈ idsTo t.set 24 := by rw [hset, h.mem]; exact List.mem_map_of_mem (f := (·.comp)) hp
    have := h.fit p hp
    unfold cpF at *
    rw [findC_like hlike (idsTo_nodup _ _) hin]
    exact this
  rw [if_neg (by rw [hc]; simp), if_neg hf]
/-- The values of parts, by the rising components of a set. -/
def valsOf (ps : List PW) (set : Int) : List (List WI) := (idsTo set 24).map fun i => match partOf ps i with | some p => p.val | none => []
theorem addRow_vals {t : TD} (hids : t.cps.map (·.c.id) = idsTo t.set 24) (ps : List PW) : addRow ps t = valsOf ps t.set := by
  unfold addRow valsOf
  rw [← hids, List.map_map]
  rfl
theorem partOf_mem {ps : List PW} (hn : (comps ps).Nodup) {p : PW} (hp : p ∈ ps) : partOf ps p.comp = some p := by
  unfold partOf
  induction ps with
  | nil => cases hp
  | cons q r ih =>
    unfold comps at hn ih
    rw [List.map_cons, List.nodup_cons] at hn
    rw [List.find?_cons]
    rcases List.mem_cons.1 hp with rfl | hp
    · simp
    · have : ¬ q.comp = p.comp := fun e => hn.1 (by rw [e]; exact List.mem_map_of_mem (f := (·.comp)) hp)
      simp only [this, decide_false]
      exact ih hn.2 hp
theorem PartsOk.hfit {cs : List Cmp} {ps : List PW} (h : PartsOk cs ps) {B : Nat} {w : World} {t : TD} (ht : TabIn B w t) (hset : t.set = foldS (comps ps)) (hlike : (idsTo t.set 24).map (findC · cs) = t.cs.map some) (hwf : ∀ p ∈ ps, ∀ y ∈ p.val, y.wf) :
    ∀ x ∈ t.cps, ∃ p, partOf ps x.c.id = some p ∧ fitF x.c.fields p.val = 0 ∧ ∀ y ∈ p.val, y.wf := by
  intro x hx
  have hmem : x.c.id ∈ idsTo t.set 24 := by rw [← ht.ids]; exact List.mem_map_of_mem (f := (·.c.id)) hx
  have hin : x.c.id ∈ comps ps := by rw [← h.mem, ← hset]; exact hmem
  obtain ⟨p, hp, hpc⟩ := List.mem_map.1 hin
  refine ⟨p, by rw [← hpc]; exact partOf_mem h.nd hp, ?_, hwf p hp⟩
  obtain ⟨c, hc, hfit⟩ := cpF_find (h.fit p hp)
  have h1 := find_id (by rw [ht.ids]; exact idsTo_nodup _ _) hx
  have h2 := findC_like hlike (idsTo_nodup _ _) hmem
  unfold TD.cs at h2
  rw [h1, ← hpc, hc] at h2
  cases h2
  exact hfit
end Go.Proofs.YtgebbmfoamkfnaaGreatDoor
namespace Go.Proofs.YtgebbmfoamkfnaaGreatDoor
open Go.RowKit
set_option linter.unusedVariables false
theorem mask_in : ∀ i, i < 32 → (4261412865 : Nat).testBit i = !decide (1 ≤ i ∧ i ≤ 24) := by decide
theorem hasB_id {s n : Int} (h : hasB s n = true) : idB n = true := by
  unfold hasB at h
  rw [Bool.and_eq_true] at h
  exact h.1
/-- Sets that hold the same are the same. -/
theorem set_ext {s t : Int} (s0 : 0 ≤ s) (s1 : s ≤ 4294967295) (t0 : 0 ≤ t) (t1 : t ≤ 4294967295) (hs : sIs s = true) (ht : sIs t = true) (h : ∀ n, idB n = true → hasB s n = hasB t n) : s = t := by
  obtain ⟨x, rfl⟩ := Int.eq_ofNat_of_zero_le s0
  obtain ⟨y, rfl⟩ := Int.eq_ofNat_of_zero_le t0
  have hx : x < 4294967296 := by omega
  have hy : y < 4294967296 := by omega
  rw [sIs_w hx, beq_iff_eq] at hs
  rw [sIs_w hy, beq_iff_eq] at ht
  congr 1
  apply Nat.eq_of_testBit_eq
  intro i
  by_cases hi : i < 32
  · by_cases hid : 1 ≤ i ∧ i ≤ 24
    · have := h i (idB_true (by omega) (by omega))
      rw [hasBit hx hid.1 hid.2, hasBit hy hid.1 hid.2] at this
      exact this
    · have a : (x &&& 4261412865).testBit i = false := by rw [hs]; simp
      have b : (y &&& 4261412865).testBit i = false := by rw [ht]; simp
      rw [Nat.testBit_and, mask_in i hi] at a b
      simp only [hid, decide_false, Bool.not_false, Bool.and_true] at a b
      rw [a, b]
  · rw [bit_high hx (by omega), bit_high hy (by omega)]
theorem ids_all (s : Int) : (idsTo s 24).all idB = true := by
  rw [List.all_eq_true]
  intro x hx
  exact (idsTo_mem hx).2
theorem mem_ids {s n : Int} : n ∈ idsTo s 24 ↔ hasB s n = true := by
  constructor
  · exact fun h => (idsTo_mem h).1
  · intro h
    obtain ⟨k, rfl, n1, n2⟩ := idNat (hasB_id h)
    unfold idsTo
    rw [List.mem_filter]
    exact ⟨List.mem_map.2 ⟨k - 1, List.mem_range.2 (by omega), by omega⟩, h⟩
theorem fold_of {s : Int} (s0 : 0 ≤ s) (s1 : s ≤ 4294967295) (hs : sIs s = true) {ids : List Int} (ha : ids.all idB = true) (hm : ∀ n, idB n = true → (n ∈ ids ↔ hasB s n = true)) : foldS ids = s := by
  obtain ⟨a, b⟩ := foldS_bd ids
  refine set_ext a b s0 s1 (sIs_fold _ ha) hs fun n hn => ?_
  rw [has_fold hn _ ha]
  have := hm n hn
  cases hh : hasB s n with
  | true => rw [hh] at this; simpa using this
  | false => rw [hh] at this; simpa using this
theorem fold_ids {s : Int} (s0 : 0 ≤ s) (s1 : s ≤ 4294967295) (hs : sIs s = true) : foldS (idsTo s 24) = s := fold_of s0 s1 hs (ids_all s) fun n _ => mem_ids
/-- A component's value among parts. -/
def valAt (l : List (Int × List WI)) (i : Int) : List WI := match l.find? (fun p => decide (p.1 = i)) with | some p => p.2 | none => []
/-- A row's parts. -/
def cvOf (s : Int) (r : List (List WI)) : List (Int × List WI) := (idsTo s 24).zip r
/-- Parts as a set's row. -/
def rowOfC (l : List (Int × List WI)) (s : Int) : List (List WI) := (idsTo s 24).map (valAt l)
theorem valsOf_cv (ps : List PW) (s : Int) : valsOf ps s = rowOfC (cv ps) s := by
  unfold valsOf rowOfC
  apply List.map_congr_left
  intro i _
  unfold valAt partOf cv
  rw [List.find?_map]
  have : ((fun p : Int × List WI => decide (p.1 = i)) ∘ fun p : PW => (p.comp, p.val)) = fun c => decide (c.comp = i) := rfl
  rw [this]
  cases ps.find? (fun c => decide (c.comp = i)) <;> rfl
theorem valAt_zip {ids : List Int} (hn : ids.Nodup) : ∀ (r : List (List WI)), r.length = ids.length → ids.map (valAt (ids.zip r)) = r := by
  induction ids with
  | nil => intro r h; simp at h; subst h; rfl
  | cons x l ih =>
    intro r h
    cases r with
    | nil => simp at h
    | cons v m =>
      rw [List.nodup_cons] at hn
      rw [List.map_cons, List.zip_cons_cons]
      have h1 : valAt ((x, v) :: l.zip m) x = v := by simp [valAt]
      rw [h1]
      congr 1
      refine Eq.trans (List.map_congr_left fun i hi => ?_) (ih hn.2 m (by simpa using h))
      have hne : ¬ x = i := fun e => hn.1 (e ▸ hi)
      unfold valAt
      rw [List.find?_cons]
      simp only [hne, decide_false]
theorem row_back {s : Int} {r : List (List WI)} (h : r.length = (idsTo s 24).length) : rowOfC (cvOf s r) s = r := valAt_zip (idsTo_nodup _ _) r h
end Go.Proofs.YtgebbmfoamkfnaaGreatDoor
namespace Go.Proofs.YtgebbmfoamkfnaaGreatDoor
open Go.RowKit
set_option linter.unusedVariables false
open Go.Lib (decDigits join)
def SOk (n : Int) : Prop := 0 ≤ n ∧ n ≤ 4294967295 ∧ sIs n = true
def textS (n : Int) : List UInt8 := if (idsTo n 24).isEmpty then [45] else join ((idsTo n 24).map fun i => decDigits i.toNat) [43]
def sepQ : List UInt8 := [32, 110, 111, 116, 32]
def textQ (al no : Int) : List UInt8 := textS al ++ (sepQ ++ textS no)
theorem ids_pos {n i : Int} (h : i ∈ idsTo n 24) : 1 ≤ i ∧ i ≤ 24 := by
  have := idsTo_bd n 24 i h
  omega
theorem dmap_inj : ∀ {l r : List Int}, (∀ i ∈ l, 1 ≤ i) → (∀ i ∈ r, 1 ≤ i) → (l.map fun i => decDigits i.toNat) = (r.map fun i => decDigits i.toNat) → l = r
  | [], [], _, _, _ => rfl
  | [], _ :: _, _, _, h => by cases h
  | _ :: _, [], _, _, h => by cases h
  | x :: l, y :: r, hl, hr, h => by
    simp only [List.map_cons, List.cons.injEq] at h
    have h1 := dd_inj h.1
    have h2 := hl x (by simp)
    have h3 := hr y (by simp)
    rw [show x = y by omega, dmap_inj (fun i hi => hl i (by simp [hi])) (fun i hi => hr i (by simp [hi])) h.2]
theorem textS_ids {n m : Int} (h : textS n = textS m) : idsTo n 24 = idsTo m 24 := by
  have hno : ∀ {k : Int}, ∀ x ∈ (idsTo k 24).map (fun i => decDigits i.toNat), (43 : UInt8) ∉ x := fun {k} x hx => by
    obtain ⟨i, _, rfl⟩ := List.mem_map.1 hx
    exact dd_no (.inl (by decide))
  have hd : ∀ {k : Int}, idsTo k 24 ≠ [] → [45] ≠ join ((idsTo k 24).map fun i => decDigits i.toNat) [43] := fun {k} hk e => by
    have e1 : join [[45]] [43] = join ((idsTo k 24).map fun i => decDigits i.toNat) [43] := by rw [Lib.join_one]; exact e
    have := join_inj (by simp) (by simpa using hk) (fun z hz => by simp at hz; subst hz; decide) hno e1
    cases hl : idsTo k 24 with
    | nil => exact hk hl
    | cons i r =>
      rw [hl, List.map_cons, List.cons.injEq] at this
      exact dd_no (u := i.toNat) (s := 45) (.inl (by decide)) (by rw [← this.1]; simp)
  unfold textS at h
  cases hn : idsTo n 24 with
  | nil =>
    cases hm : idsTo m 24 with
    | nil => rfl
    | cons y r =>
      rw [hn, hm] at h
      exact absurd (by simpa [hm] using h) (hd (k := m) (by rw [hm]; simp))
  | cons x l =>
    cases hm : idsTo m 24 with
    | nil =>
      rw [hn, hm] at h
      exact absurd (by simpa [hn] using h.symm) (hd (k := n) (by rw [hn]; simp))
    | cons y r =>
      rw [if_neg (by rw [hn]; simp), if_neg (by rw [hm]; simp)] at h
      have h2 := join_inj (by rw [hn]; simp) (by rw [hm]; simp) hno hno h
      have h3 := dmap_inj (fun i hi => (ids_pos hi).1) (fun i hi => (ids_pos hi).1) h2
      rw [hn, hm] at h3
      exact h3
theorem textS_inj {n m : Int} (hn : SOk n) (hm : SOk m) (h : textS n = textS m) : n = m := by
  rw [← fold_ids hn.1 hn.2.1 hn.2.2, ← fold_ids hm.1 hm.2.1 hm.2.2, textS_ids h]
/-- What a text is of: the way back. -/
def CanonS (s : List UInt8) (r : Option Int) : Prop := (∀ n, SOk n → textS n = s → r = some n) ∧ ((∀ n, SOk n → textS n ≠ s) → r = none)
theorem CanonS.one {s : List UInt8} {r q : Option Int} (h : CanonS s r) (k : CanonS s q) : r = q := by
  by_cases he : ∃ n, SOk n ∧ textS n = s
  · obtain ⟨n, h1, h2⟩ := he
    rw [h.1 n h1 h2, k.1 n h1 h2]
  · have hn : ∀ n, SOk n → textS n ≠ s := fun n h1 h2 => he ⟨n, h1, h2⟩
    rw [h.2 hn, k.2 hn]
theorem CanonS.text {s : List UInt8} {n : Int} (h : CanonS s (some n)) : SOk n ∧ textS n = s := by
  by_cases he : ∃ m, SOk m ∧ textS m = s
  · obtain ⟨m, h1, h2⟩ := he
    cases h.1 m h1 h2
    exact ⟨h1, h2⟩
  · exact absurd (h.2 fun m h1 h2 => he ⟨m, h1, h2⟩) (by simp)
theorem CanonS.of {s : List UInt8} {n : Int} (h : SOk n) (ht : textS n = s) : CanonS s (some n) :=
  ⟨fun m hm he => by rw [textS_inj h hm (ht.trans he.symm)], fun hn => absurd ht (hn n h)⟩
def CanonQ (s : List UInt8) (r : Option (Int × Int)) : Prop := (∀ a b, SOk a → SOk b → textQ a b = s → r = some (a, b)) ∧ ((∀ a b, SOk a → SOk b → textQ a b ≠ s) → r = none)
theorem CanonQ.one {s : List UInt8} {r q : Option (Int × Int)} (h : CanonQ s r) (k : CanonQ s q) : r = q := by
  by_cases he : ∃ a b, SOk a ∧ SOk b ∧ textQ a b = s
  · obtain ⟨a, b, h1, h2, h3⟩ := he
    rw [h.1 a b h1 h2 h3, k.1 a b h1 h2 h3]
  · have hn : ∀ a b, SOk a → SOk b → textQ a b ≠ s := fun a b h1 h2 h3 => he ⟨a, b, h1, h2, h3⟩
    rw [h.2 hn, k.2 hn]
theorem SOk.zero : SOk 0 := ⟨by decide, by decide, by kernel_rfl⟩
theorem CanonS.ok {s : List UInt8} {x : Option Int} (h : CanonS s x) : SOk (x.getD 0) := by
  cases x with
  | none => exact SOk.zero
  | some n => exact h.text.1
end Go.Proofs.YtgebbmfoamkfnaaGreatDoor
namespace Go.Proofs.YtgebbmfoamkfnaaGreatDoor
open Go.RowKit
set_option linter.unusedVariables false
open Go.Lib (decDigits join)
theorem within_any (s t : Int) (w : World) (h0 : 0 ≤ s) (h1 : s ≤ 4294967295) (h2 : 0 ≤ t) (h3 : t ≤ 4294967295) : Calls Tryz.prog 34 #[.int .u32 s, .int .u32 t] w fun e w' => e = .returned (.bool (within s t)) ∧ w = w' := by
  go_enter Tryz.func34, Tryz.ntmps34
  go_wp2_with fail
  go_returns
  exact ⟨rfl, rfl⟩
theorem meets_any (s t : Int) (w : World) (h0 : 0 ≤ s) (h1 : s ≤ 4294967295) (h2 : 0 ≤ t) (h3 : t ≤ 4294967295) : Calls Tryz.prog 35 #[.int .u32 s, .int .u32 t] w fun e w' => e = .returned (.bool (meets s t)) ∧ w = w' := by
  go_enter Tryz.func35, Tryz.ntmps35
  go_wp2_with fail
  go_returns
  exact ⟨rfl, rfl⟩
theorem matches_any (al no t : Int) (w : World) (h0 : 0 ≤ al) (h1 : al ≤ 4294967295) (k0 : 0 ≤ no) (k1 : no ≤ 4294967295) (h2 : 0 ≤ t) (h3 : t ≤ 4294967295) : Calls Tryz.prog 12 #[.agg #[.int .u32 al, .int .u32 no], .int .u32 t] w fun e w' => e = .returned (.bool (matchB al no t)) ∧ Below w.heap.size w w' := by
  have HB : Hid (Below w.heap.size w (w.alloc (.cells #[.int .u32 al, .int .u32 no] 30))) := Lib.hid (by go_grown)
  have HW := fun W => within_any al t W h0 h1 h2 h3
  have HM := fun W => meets_any no t W k0 k1 h2 h3
  obtain ⟨a, ha⟩ : ∃ a, within al t = a := ⟨_, rfl⟩
  obtain ⟨b, hb⟩ : ∃ b, meets no t = b := ⟨_, rfl⟩
  have HR : Hid (matchB al no t = (a && !b)) := Lib.hid (by unfold matchB; rw [ha, hb])
  rw [HR.out]
  simp only [ha] at HW
  simp only [hb] at HM
  clear ha hb
  cases a
  · go_enter Tryz.func12, Tryz.ntmps12
    go_wp2_with fail
    refine (HW _).mono ?_
    rintro e w2 ⟨rfl, rfl⟩
    go_wp2_with fail
    go_returns
    exact ⟨rfl, HB.out⟩
  · go_enter Tryz.func12, Tryz.ntmps12
    go_wp2_with fail
    refine (HW _).mono ?_
    rintro e w2 ⟨rfl, rfl⟩
    go_wp2_with fail
    refine (HM _).mono ?_
    rintro e w2 ⟨rfl, rfl⟩
    go_wp2_with fail
    go_returns
    exact ⟨by cases b <;> rfl, HB.out⟩
theorem textS_len (n : Int) : (textS n).length ≤ 100 := by
  unfold textS
  split
  · simp
  · have h1 := join_len (s := 43) (m := 2) (l := (idsTo n 24).map fun i => decDigits i.toNat) (fun x hx => by
      obtain ⟨i, hi, rfl⟩ := List.mem_map.1 hx
      have := ids_pos hi
      exact dd_len2 i.toNat (by omega))
    rw [List.length_map] at h1
    have := idsTo_len n 24
    omega
theorem ids_take {l : List Int} {k : Nat} {x : Int} (h : l[k]? = some x) : (l.take (k + 1)).map (fun i => decDigits i.toNat) = (l.take k).map (fun i => decDigits i.toNat) ++ [decDigits x.toNat] := by
  rw [List.take_add_one, h, List.map_append]
  rfl
set_option maxRecDepth 100000 in
set_option maxHeartbeats 2000000 in
theorem sText_any (n : Int) (w : World) (h0 : 0 ≤ n) (h1 : n ≤ 4294967295) : Calls Tryz.prog 41 #[.int .u32 n] w fun e w' => e = .returned (.string ⟨(textS n).toArray⟩) ∧ Below w.heap.size w w' := by
  obtain ⟨i0, hi, hz0, hz1, hz2⟩ := info_parts Tryz.infoS9
  obtain ⟨L, hL⟩ : ∃ L, idsTo n 24 = L := ⟨_, rfl⟩
  obtain ⟨ln, hln⟩ : ∃ ln, L.length = ln := ⟨_, rfl⟩
  have hln24 : ln ≤ 24 := by rw [← hln, ← hL]; exact idsTo_len n 24
  have HLN := Lib.hid hln
  have HL := Lib.hid hL
  have HSL := sigLen_any n w h0 h1
  rw [hL, hln] at HSL
  have HSL := Lib.hid HSL
  clear hL hln
  by_cases hz : ln = 0
  · subst hz
    have HT : Hid (textS n = [45]) := Lib.hid (by unfold textS; rw [HL.out, List.eq_nil_of_length_eq_zero HLN.out]; rfl)
    go_enter Tryz.func41, Tryz.ntmps41
    go_wp2_with fail
    refine HSL.out.mono ?_
    rintro e w2 ⟨rfl, hb2⟩
    have HB2 := Lib.hid hb2
    clear hb2
    go_wp2_with fail
    go_returns
    exact ⟨by rw [HT.out]; rfl, HB2.out⟩
  have e0 : ((ln : Int) == 0) = false := by simp; omega
  have HT : Hid (textS n = join (L.map fun i => decDigits i.toNat) [43]) := Lib.hid (by
    unfold textS
    rw [HL.out, if_neg]
    intro e
    have : L = [] := by simpa using e
    rw [this] at HLN
    exact hz HLN.out.symm)
  go_enter Tryz.func41, Tryz.ntmps41
  go_wp2_with fail
  refine HSL.out.mono ?_
  rintro e w2 ⟨rfl, hb2⟩
  have HB2 := Lib.hid hb2
  clear hb2 HSL
  go_wp2_with fail
  refine (ids_any n w2 h0 h1).mono ?_
  rintro e w3 ⟨va, m, vc, rfl, hm, hown, hb3⟩
  rw [HL.out, HLN.out] at hm
  subst hm
  rw [HL.out] at hown
  have HB3 := Lib.hid (HB2.out.trans (hb3.mono HB2.out.size))
  obtain ⟨q, rfl, _, hql, hqc⟩ := row_block hown (by omega)
  have HQ : Hid (q < w3.heap.size ∧ ∀ (k : Nat) (x : Int), L[k]? = some x → w3.cell? ⟨q, k, none⟩ = some (.int .i64 x)) := Lib.hid ⟨hql, fun k x hx => hqc k _ (by rw [List.getElem?_map, hx]; rfl)⟩
  clear hb3 hown hql hqc
  go_wp2_with fail
  go_loopw [3, 12] (fun o i wr => ∃ (k : Nat) (oa : Option Addr) (oc : Nat), o = .slice oa k oc ∧ i = .int .i64 (k : Int) ∧ k ≤ m ∧ wr.ownsRow w3.heap.size 9 1 (.slice oa k oc) k (strV ((L.take k).map fun i => decDigits i.toNat)) ∧ Below w3.heap.size w3 wr) (fun _ i _ => m - (intOf i).toNat)
  case atStart => exact ⟨0, none, 0, rfl, rfl, Nat.zero_le _, World.ownsRow_nil _ _ _ _, Below.refl _ _⟩
  case round =>
    obtain ⟨k, oa, oc, rfl, rfl, hk, hown, hb⟩ := hrel
    by_cases hlt : k < m
    · obtain ⟨x, hx⟩ : ∃ x, L[k]? = some x := ⟨_, List.getElem?_eq_getElem (by rw [HLN.out]; exact hlt)⟩
      have hxp : 1 ≤ x ∧ x ≤ 24 := ids_pos (n := n) (by rw [HL.out]; exact List.mem_of_getElem? hx)
      obtain ⟨xn, rfl⟩ : ∃ xn : Nat, x = (xn : Int) := ⟨x.toNat, by omega⟩
      have x0 := (hb.cell (p := ⟨q, k, none⟩) HQ.out.1).trans (HQ.out.2 k _ hx)
      have g0 : (0 : Int) ≤ (k : Int) := by omega
      have g1 : (k : Int) < (m : Int) := by omega
      have HX := Lib.hid hx
      have HOWN := Lib.hid hown
      have HB := Lib.hid hb
      clear hx hown hb
      go_wp2_with fail
      refine (Tryz.strconv_Itoa_small xn (by omega) _).mono ?_
      rintro e w5 ⟨rfl, rfl⟩
      have hown6 := HOWN.out.alloc (.cells #[.string ⟨(decDigits xn).toArray⟩] 9)
      have hb7 := HB.out.alloc HB.out.size (.cells #[.string ⟨(decDigits xn).toArray⟩] 9)
      have hnews : ∀ j u, ([.string ⟨(decDigits xn).toArray⟩] : List Value)[j]? = some u → (w5.alloc (.cells #[.string ⟨(decDigits xn).toArray⟩] 9)).cell? ((⟨w5.heap.size, 0, none⟩ : Addr).add j) = some u :=
        World.news_of_block (w := w5.alloc (.cells #[.string ⟨(decDigits xn).toArray⟩] 9)) (cs := #[.string ⟨(decDigits xn).toArray⟩]) (t := 9) (fr := (0, 0)) (heap_alloc_new w5 _)
      have hsz := HB.out.size
      have HOWN6 := Lib.hid hown6
      have HB7 := Lib.hid hb7
      have HNEWS := Lib.hid hnews
      clear hown6 hb7 hnews x0 HOWN
      go_wp2_with (at_builtin; refine wpList_append_own _ rfl (.tmp 16) (.tmp 19) 139 rfl w3.heap.size 9 i0 (.string ByteArray.empty) 1 16 Tryz.underlying139 hi hz0 hz1 hz2 rfl (by decide) (.slice oa k oc) k _ rfl HOWN6.out ⟨w5.heap.size, 0, none⟩ 1 1 _ rfl rfl HNEWS.out (fun u hu => by simp at hu; subst hu; rfl) (by unfold maxLen; omega) (by omega) (by simp; omega) ?_)
      intro v' w8 hown8 hg8 _
      obtain ⟨va', vc', hv'⟩ := ownsRow_slice hown8
      rw [hv'] at hown8 ⊢
      clear hv'
      have HB8 := Lib.hid (HB7.out.trans (below_own HOWN6.out hg8 HB7.out.size))
      have HOWN8 : Hid (w8.ownsRow w3.heap.size 9 1 (.slice va' (k + 1) vc') (k + 1) (strV ((L.take (k + 1)).map fun i => decDigits i.toNat))) := Lib.hid (by
        rw [ids_take HX.out, strV_snoc]
        first | exact hown8 | (rw [List.map_take]; exact hown8))
      clear hown8 hg8 HOWN6 HNEWS HB7
      go_wp2_with fail
      go_roundw
      case rel => exact ⟨k + 1, va', vc', rfl, by go_num, by omega, HOWN8.out, HB8.out⟩
      case measure => simp [intOf]; omega
    · obtain rfl : k = m := by omega
      have hfull : L.take k = L := by rw [← HLN.out, List.take_length]
      rw [hfull] at hown
      have hjl : (join (L.map fun i => decDigits i.toNat) [43]).length ≤ 1000000 := by
        have := textS_len n
        rw [HT.out] at this
        omega
      have HJ := Lib.hid (join_any (s := 43) hown (by rw [List.length_map]; exact HLN.out) (by omega) hjl (by omega))
      have HB := Lib.hid hb
      clear hown hb hjl
      go_wp2_with fail
      refine HJ.out.mono ?_
      rintro e w5 ⟨rfl, hb5⟩
      have HB5 := Lib.hid (HB3.out.trans ((HB.out.trans (hb5.mono HB.out.size)).mono HB3.out.size))
      clear hb5
      go_wp2_with fail
      go_returns
      exact ⟨by rw [HT.out]; rfl, HB5.out⟩
end Go.Proofs.YtgebbmfoamkfnaaGreatDoor
namespace Go.Proofs.YtgebbmfoamkfnaaGreatDoor
open Go.RowKit
set_option linter.unusedVariables false
structure XD where
  xb : Nat
  ix : IX
  fr : List Int
  ga : Option Addr
  gc : Nat
  la : Option Addr
  lc : Nat
  fa : Option Addr
  fc : Nat
def XD.foot (x : XD) (b : Nat) : Prop := b = x.xb ∨ (Value.slice x.ga x.ix.gens.length x.gc).ownBlock = some b ∨ (Value.slice x.la x.ix.lives.length x.lc).ownBlock = some b ∨ (Value.slice x.fa x.fr.length x.fc).ownBlock = some b
/-- The index's memory, but for the heap. -/
structure XMem (w : World) (x : XD) : Prop where
  blk : w.heap[x.xb]? = some (.cells #[.int .i64 x.ix.most, .slice x.ga x.ix.gens.length x.gc, .slice x.la x.ix.lives.length x.lc, .slice x.fa x.fr.length x.fc] 161 (0, 0))
  gensR : w.ownsRow 0 3 1 (.slice x.ga x.ix.gens.length x.gc) x.ix.gens.length (x.ix.gens.map (.int .i64))
  livesR : w.ownsRow 0 4 1 (.slice x.la x.ix.lives.length x.lc) x.ix.lives.length (x.ix.lives.map .bool)
  freeR : w.ownsRow 0 3 1 (.slice x.fa x.fr.length x.fc) x.fr.length (x.fr.map (.int .i64))
  ne : ∀ b, (Value.slice x.ga x.ix.gens.length x.gc).ownBlock = some b → (Value.slice x.fa x.fr.length x.fc).ownBlock ≠ some b
structure XIn (w : World) (x : XD) : Prop extends XMem w x where
  ok : x.ix.Ok
  free : FreeOk x.ix x.fr
theorem XMem.out {w w' : World} {x : XD} {F : Nat → Prop} (h : XMem w x) (ho : Out F w w') (hF : ∀ b, x.foot b → ¬ F b) : XMem w' x :=
  ⟨ho.keep h.blk (hF _ (.inl rfl)), ownsRow_out h.gensR ho (fun b hb => hF b (.inr (.inl hb))), ownsRow_out h.livesR ho (fun b hb => hF b (.inr (.inr (.inl hb)))), ownsRow_out h.freeR ho (fun b hb => hF b (.inr (.inr (.inr hb)))), h.ne⟩
theorem XIn.out {w w' : World} {x : XD} {F : Nat → Prop} (h : XIn w x) (ho : Out F w w') (hF : ∀ b, x.foot b → ¬ F b) : XIn w' x := ⟨h.toXMem.out ho hF, h.ok, h.free⟩
theorem XIn.below {w w' : World} {x : XD} (h : XIn w x) (hb : Below w.heap.size w w') : XIn w' x := h.out (F := fun _ => False) (Out.of hb) (fun _ _ => id)
theorem hOf_bits {id gen : Nat} (h : id < 4294967296) (hg : gen < 4294967296) : bits BinOp.or .u64 ((gen : Int) * 4294967296) (id : Int) = hOf id gen := by
  have e : ((gen : Int) * 4294967296) = ((gen * 4294967296 : Nat) : Int) := by omega
  rw [e, u64_or_nat _ _ (by omega) (by omega)]
  have := Nat.two_pow_add_eq_or_of_lt (i := 32) (b := id) (by omega) gen
  rw [show gen * 4294967296 = 2 ^ 32 * gen by omega, ← this]
  unfold hOf
  omega
theorem low_bits {e : Int} (h0 : 0 ≤ e) (h1 : e < 18446744073709551616) : bits BinOp.and .u64 e 4294967295 = e % 4294967296 := by
  obtain ⟨n, rfl⟩ := Int.eq_ofNat_of_zero_le h0
  rw [show (4294967295 : Int) = ((4294967295 : Nat) : Int) from rfl, u64_and_nat _ _ (by omega) (by omega), nat_mask32]
  omega
theorem entOf_any (id gen : Nat) (w : World) (h1 : 1 ≤ id) (h2 : id < 4294967296) (g1 : 1 ≤ gen) (g2 : gen < 4294967296) : Calls Tryz.prog 89 #[.int .i64 id, .int .i64 gen] w fun e w' => e = .returned (.int .u64 (hOf id gen)) ∧ w = w' := by
  have HB := Lib.hid (hOf_bits h2 g2)
  go_enter Tryz.func89, Tryz.ntmps89
  go_wp2_with fail
  all_goals
    go_returns
    exact ⟨ret_intk HB.out, rfl⟩
theorem entId_any (e : Int) (w : World) (h0 : 0 ≤ e) (h1 : e < 18446744073709551616) : Calls Tryz.prog 190 #[.int .u64 e] w fun en w' => en = .returned (.int .i64 (e % 4294967296)) ∧ w = w' := by
  have hb := low_bits h0 h1
  have b0 : 0 ≤ e % 4294967296 := by omega
  have b1 : e % 4294967296 < 4294967296 := by omega
  go_enter Tryz.func190, Tryz.ntmps190
  go_wp2_with fail
  go_returns
  exact ⟨rfl, rfl⟩
theorem entGen_any (e : Int) (w : World) (h0 : 0 ≤ e) (h1 : e < 18446744073709551616) : Calls Tryz.prog 191 #[.int .u64 e] w fun en w' => en = .returned (.int .i64 (e / 4294967296)) ∧ w = w' := by
  have b0 : 0 ≤ e / 4294967296 := by omega
  have b1 : e / 4294967296 < 4294967296 := by omega
  go_enter Tryz.func191, Tryz.ntmps191
  go_wp2_with fail
  go_returns
  exact ⟨rfl, rfl⟩
end Go.Proofs.YtgebbmfoamkfnaaGreatDoor
namespace Go.Proofs.YtgebbmfoamkfnaaGreatDoor
open Go.RowKit
set_option linter.unusedVariables false
theorem XMem.cells {w : World} {x : XD} (h : XMem w x) : w.cell? ⟨x.xb, 0, none⟩ = some (.int .i64 x.ix.most) ∧ w.cell? ⟨x.xb, 1, none⟩ = some (.slice x.ga x.ix.gens.length x.gc) ∧ w.cell? ⟨x.xb, 2, none⟩ = some (.slice x.la x.ix.lives.length x.lc) ∧ w.cell? ⟨x.xb, 3, none⟩ = some (.slice x.fa x.fr.length x.fc) ∧ ∀ o, w.frozen? ⟨x.xb, o, none⟩ = false := by
  have c0 := cell_at h.blk 0
  have c1 := cell_at h.blk 1
  have c2 := cell_at h.blk 2
  have c3 := cell_at h.blk 3
  simp at c0 c1 c2 c3
  exact ⟨c0, c1, c2, c3, fun o => free_at h.blk o⟩
def XD.withFr (x : XD) (l : List Int) : XD := { x with fr := l }
/-- A deed of the index's memory. -/
structure XStep (x x' : XD) (w w' : World) : Prop where
  mem : XMem w' x'
  xb : x'.xb = x.xb
  out : Out x.foot w w'
  foot : ∀ b, x'.foot b → x.foot b ∨ w.heap.size ≤ b
theorem XStep.trans {x y z : XD} {a b c : World} (h : XStep x y a b) (k : XStep y z b c) : XStep x z a c :=
  ⟨k.mem, k.xb.trans h.xb, h.out.trans k.out h.foot, fun q hq => (k.foot q hq).elim (h.foot q) fun hb => .inr (Nat.le_trans h.out.size hb)⟩
theorem XStep.refl {x : XD} {w : World} (h : XMem w x) : XStep x x w w := ⟨h, rfl, Out.refl _ _, fun _ => .inl⟩
theorem XStep.below {x y : XD} {a b c : World} (h : XStep x y a b) (hb : Below b.heap.size b c) : XStep x y a c :=
  h.trans ⟨h.mem.out (F := fun _ => False) (Out.of hb) (fun _ _ => id), rfl, Out.of hb, fun _ => .inl⟩
theorem XMem.frow {w : World} {x : XD} (h : XMem w x) {k : Nat} (hk : k < x.fr.length) : ∃ q, x.fa = some ⟨q, 0, none⟩ ∧ q < w.heap.size ∧ w.cell? ⟨q, k, none⟩ = some (.int .i64 (at0 x.fr k)) ∧ w.frozen? ⟨q, k, none⟩ = false ∧ x.fr.length ≤ x.fc ∧ q ≠ x.xb := by
  obtain ⟨q, hq, _, hl, hc⟩ := row_block h.freeR (by omega)
  obtain ⟨q2, hq2, _, hf, _, hcap⟩ := ownsRow_set (r := k) (.int .i64 0) h.freeR hk
  have : q2 = q := by rw [hq] at hq2; cases hq2; rfl
  subst this
  refine ⟨q2, hq, hl, hc k _ (by rw [List.getElem?_map, at0_get hk]; rfl), hf, hcap, fun e => ?_⟩
  have h1 := ownsRow_ne_block3 h.freeR h.blk (fun cur he => by cases he)
  rw [hq] at h1
  exact h1 (by rw [e]; rfl)
/-- Another number in the queue. -/
theorem XMem.fput {w : World} {x : XD} (h : XMem w x) {k : Nat} (hk : k < x.fr.length) (y : Int) {q : Nat} (hq : x.fa = some ⟨q, 0, none⟩) : XStep x (x.withFr (x.fr.set k y)) w (w.setCell ⟨q, k, none⟩ (.int .i64 y)) := by
  obtain ⟨q2, hq2, hrow, hf, hql, hcap⟩ := ownsRow_set (r := k) (.int .i64 y) h.freeR hk
  have : q2 = q := by rw [hq] at hq2; cases hq2; rfl
  subst this
  have ho : Only q2 w (w.setCell ⟨q2, k, none⟩ (.int .i64 y)) := Only.at w q2 k _
  have hfb : (Value.slice x.fa x.fr.length x.fc).ownBlock = some q2 := by rw [hq]; rfl
  have hn1 : q2 ≠ x.xb := fun e => by
    have h1 := ownsRow_ne_block3 h.freeR h.blk (fun cur he => by cases he)
    exact h1 (by rw [hfb, e])
  have hn2 : ∀ b, (Value.slice x.ga x.ix.gens.length x.gc).ownBlock = some b → b ≠ q2 := fun b hb e => h.ne b hb (by rw [e]; exact hfb)
  have hn3 : ∀ b, (Value.slice x.la x.ix.lives.length x.lc).ownBlock = some b → b ≠ q2 := fun b hb e => by
    subst e
    obtain ⟨c1, h1⟩ := row_type h.livesR hb
    obtain ⟨c2, h2⟩ := row_type h.freeR hfb
    rw [h1] at h2; cases h2
  have hout : Out (fun b => b = q2) w (w.setCell ⟨q2, k, none⟩ (.int .i64 y)) := Out.only ho rfl
  refine ⟨⟨?_, ownsRow_out h.gensR hout hn2, ownsRow_out h.livesR hout hn3, ?_, ?_⟩, rfl, hout.mono (fun b hb => .inl (by subst hb; exact .inr (.inr (.inr hfb)))), fun b hb => .inl ?_⟩
  · have := keepO ho h.blk (Ne.symm hn1)
    simpa [XD.withFr] using this
  · simpa [XD.withFr, List.map_set] using hrow
  · intro b hb
    have := h.ne b hb
    simpa [XD.withFr] using this
  · rcases hb with hb | hb | hb | hb
    · exact .inl hb
    · exact .inr (.inl hb)
    · exact .inr (.inr (.inl hb))
    · exact .inr (.inr (.inr (by simpa [XD.withFr] using hb)))
theorem qLen_any (a : Option Addr) (n c : Nat) (w : World) : Calls Tryz.prog 242 #[.slice a n c] w fun e w' => e = .returned (.int .i64 n) ∧ w = w' := by
  go_enter Tryz.func242, Tryz.ntmps242
  go_wp2_with fail
  go_returns
  exact ⟨rfl, rfl⟩
theorem qLess_any (x : XD) (w : World) (h : XMem w x) (i j : Nat) (hi : i < x.fr.length) (hj : j < x.fr.length) : Calls Tryz.prog 243 #[.slice x.fa x.fr.length x.fc, .int .i64 i, .int .i64 j] w fun e w' => e = .returned (.bool (decide (at0 x.fr i < at0 x.fr j))) ∧ ∃ n, w' = w.drewN n := by
  obtain ⟨q, hq, _, ci, _, hcap, _⟩ := h.frow hi
  obtain ⟨q', hq', _, cj, _, _, _⟩ := h.frow hj
  have : q' = q := by rw [hq] at hq'; cases hq'; rfl
  subst this
  rw [hq]
  have i0 : (0 : Int) ≤ (i : Int) := by omega
  have i1 : (i : Int) < (x.fr.length : Int) := by omega
  have j0 : (0 : Int) ≤ (j : Int) := by omega
  have j1 : (j : Int) < (x.fr.length : Int) := by omega
  have H := Lib.hid h
  have HQ := Lib.hid hq
  clear h hq hq' hi hj
  go_enter Tryz.func243, Tryz.ntmps243
  go_wp2_with fail
  go_quiet (fail)
  go_wp2_with fail
  go_returns
  exact ⟨rfl, _, rfl⟩
theorem qSwap_any (x : XD) (w : World) (h : XMem w x) (i j : Nat) (hi : i < x.fr.length) (hj : j < x.fr.length) : Calls Tryz.prog 244 #[.slice x.fa x.fr.length x.fc, .int .i64 i, .int .i64 j] w fun e w' => e = .returned (.tuple #[]) ∧ XStep x (x.withFr (swapL x.fr i j)) w w' := by
  obtain ⟨q, hq, _, ci, fi, hcap, _⟩ := h.frow hi
  obtain ⟨q', hq', _, cj, fj, _, _⟩ := h.frow hj
  have : q' = q := by rw [hq] at hq'; cases hq'; rfl
  subst this
  rw [hq]
  have i0 : (0 : Int) ≤ (i : Int) := by omega
  have i1 : (i : Int) < (x.fr.length : Int) := by omega
  have j0 : (0 : Int) ≤ (j : Int) := by omega
  have j1 : (j : Int) < (x.fr.length : Int) := by omega
  have hst := h.fput hi (at0 x.fr j) hq
  have hj2 : j < (x.fr.set i (at0 x.fr j)).length := by simpa using hj
  obtain ⟨q3, hq3, _, cs, fs, _, _⟩ := hst.mem.frow hj2
  have : q3 = q' := by
    have hq3 : x.fa = some ⟨q3, 0, none⟩ := hq3
    rw [hq] at hq3; cases hq3; rfl
  subst this
  have e1 : at0 (x.fr.set i (at0 x.fr j)) j = at0 x.fr j := by
    unfold at0
    rw [List.getD_eq_getElem?_getD, List.getD_eq_getElem?_getD, List.getElem?_set]
    split
    · rename_i e; subst e; simp [hi]
    · rfl
  have cs : (w.setCell ⟨q3, i, none⟩ (.int .i64 (at0 x.fr j))).cell? ⟨q3, j, none⟩ = some (.int .i64 (at0 (x.fr.set i (at0 x.fr j)) j)) := cs
  rw [e1] at cs
  have hst2 := hst.trans (hst.mem.fput hj2 (at0 x.fr i) hq)
  have HST := Lib.hid hst2
  clear h hq hq' hst hst2 e1 hq3 hj2
  go_enter Tryz.func244, Tryz.ntmps244
  go_wp2_with fail
  go_region
  all_goals
    go_wp2_with fail
    go_end0
    exact ⟨rfl, HST.out.below ⟨rfl, rfl, rfl, Nat.le_refl _, fun _ _ => rfl⟩⟩
end Go.Proofs.YtgebbmfoamkfnaaGreatDoor
