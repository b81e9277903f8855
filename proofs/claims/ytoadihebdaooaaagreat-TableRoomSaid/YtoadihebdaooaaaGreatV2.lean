/- Plain: a row that may be added has a fitting part for each component. -/
import Derived.Test.YtoadihebdaooaaaGreatV1
namespace Go.Proofs.YtoadihebdaooaaaGreat
open Go.RowKit
set_option linter.unusedVariables false
theorem withNat {s n : Nat} (hs : s < 4294967296) (h1 : 1 ≤ n) (h2 : n ≤ 24) : sWith (s : Int) (n : Int) = ((s ||| 2 ^ n : Nat) : Int) := by
  have hp : 2 ^ n < 4294967296 := by
    have : 2 ^ n ≤ 2 ^ 24 := Nat.pow_le_pow_right (by omega) h2
    omega
  unfold sWith
  rw [idB_true (by omega) (by omega), Int.toNat_natCast]
  have e : ((2 : Int) ^ n % 4294967296) = ((2 ^ n : Nat) : Int) := by
    have : ((2 : Int) ^ n) = ((2 ^ n : Nat) : Int) := by simp
    have hq : ((2 ^ n : Nat) : Int) < 4294967296 := by have := Int.ofNat_lt.2 hp; exact this
    rw [this]; exact Int.emod_eq_of_lt (Int.natCast_nonneg _) hq
  rw [e]
  simp only [if_true]
  exact u32_or_nat _ _ hs hp
theorem idNat {c : Int} (h : idB c = true) : ∃ n : Nat, c = n ∧ 1 ≤ n ∧ n ≤ 24 := by
  simp [idB] at h
  exact ⟨c.toNat, by omega, by omega, by omega⟩
theorem has_with {s c n : Int} (h0 : 0 ≤ s) (h1 : s ≤ 4294967295) (hc : idB c = true) (hn : idB n = true) : hasB (sWith s c) n = (decide (n = c) || hasB s n) := by
  obtain ⟨x, rfl⟩ := Int.eq_ofNat_of_zero_le h0
  obtain ⟨c, rfl, c1, c2⟩ := idNat hc
  obtain ⟨n, rfl, n1, n2⟩ := idNat hn
  have hx : x < 4294967296 := by omega
  have hp : 2 ^ c < 4294967296 := by
    have : 2 ^ c ≤ 2 ^ 24 := Nat.pow_le_pow_right (by omega) c2
    omega
  rw [withNat hx c1 c2, hasBit (Nat.or_lt_two_pow (n := 32) hx hp) n1 n2, hasBit hx n1 n2, Nat.testBit_or, Nat.testBit_two_pow, Bool.or_comm]
  congr 1
  by_cases h : c = n
  · simp [h]
  · simp [h]; omega
theorem has_zero (n : Int) : hasB 0 n = false := by
  cases h : idB n with
  | false => unfold hasB; rw [h]; rfl
  | true =>
    obtain ⟨n, rfl, n1, n2⟩ := idNat h
    have := hasBit (s := 0) (by decide) n1 n2
    rw [show ((0 : Nat) : Int) = 0 from rfl] at this
    rw [this]; simp
theorem has_fold {n : Int} (hn : idB n = true) : ∀ (ids : List Int), ids.all idB = true → hasB (foldS ids) n = decide (n ∈ ids) := by
  intro ids
  have : ∀ (m : Nat), m ≤ ids.length → ids.all idB = true → hasB (foldS (ids.take m)) n = decide (n ∈ ids.take m) := by
    intro m
    induction m with
    | zero => intro _ _; simp [foldS, has_zero]
    | succ m ih =>
      intro hm hall
      obtain ⟨x, hx⟩ : ∃ x, ids[m]? = some x := ⟨_, List.getElem?_eq_getElem (by omega)⟩
      obtain ⟨b0, b1⟩ := foldS_bd (ids.take m)
      have hxi : idB x = true := by rw [List.all_eq_true] at hall; exact hall x (List.mem_of_getElem? hx)
      rw [take_snoc hx, foldS_snoc, has_with b0 b1 hxi hn, ih (by omega) hall]
      by_cases h1 : n = x <;> by_cases h2 : n ∈ ids.take m <;> simp [h1, h2]
  intro hall
  have := this ids.length (Nat.le_refl _) hall
  rw [List.take_length] at this
  exact this
theorem idsTo_mem {s i : Int} (h : i ∈ idsTo s 24) : hasB s i = true ∧ idB i = true := by
  unfold idsTo at h
  rw [List.mem_filter] at h
  refine ⟨h.2, ?_⟩
  obtain ⟨j, hj, rfl⟩ := List.mem_map.1 h.1
  have := List.mem_range.1 hj
  exact idB_true (by omega) (by omega)
theorem idsTo_nodup (s : Int) (m : Nat) : (idsTo s m).Nodup := by
  unfold idsTo
  have h : (((List.range m).map fun (j : Nat) => (j : Int) + 1)).Nodup := by
    unfold List.Nodup
    rw [List.pairwise_map]
    have hr : List.Pairwise (fun a b => a ≠ b) (List.range m) := List.nodup_range
    exact hr.imp (fun {a b} h => by omega)
  exact h.sublist List.filter_sublist
theorem cpsGo_zero (cs : List Cmp) : ∀ (ps seen : List PW), cpsGo cs seen ps = 0 → ∀ p ∈ ps, cpF cs p = 0
  | [], _, _, p, h => by cases h
  | q :: r, seen, h, p, hp => by
    unfold cpsGo at h
    split at h
    · cases h
    · split at h
      · rename_i h1; exact absurd h h1
      · rename_i h1
        rcases List.mem_cons.1 hp with rfl | hp
        · exact Classical.byContradiction h1
        · exact cpsGo_zero cs r _ h p hp
theorem find_id {cps : List CV} (hn : (cps.map (·.c.id)).Nodup) {x : CV} (hx : x ∈ cps) : findC x.c.id (cps.map (·.c)) = some x.c := by
  unfold findC
  induction cps with
  | nil => cases hx
  | cons y r ih =>
    rw [List.map_cons, List.nodup_cons] at hn
    rw [List.map_cons, List.find?_cons]
    rcases List.mem_cons.1 hx with rfl | hx
    · simp
    · have : ¬ y.c.id = x.c.id := fun e => hn.1 (by rw [e]; exact List.mem_map_of_mem (f := (·.c.id)) hx)
      simp only [this, decide_false]
      exact ih hn.2 hx
/-- The part of a component. -/
def partOf (ps : List PW) (id : Int) : Option PW := ps.find? fun c => decide (c.comp = id)
def rowOf (ps : List PW) (x : CV) : List UInt8 := packF x.c.fields (match partOf ps x.c.id with | some p => p.val | none => [])
theorem add_ok {t : TD} {e : Int} {ps : List PW} (hids : t.cps.map (·.c.id) = idsTo t.set 24) (h : addErr t e ps = 0) : t.free ≠ 0 ∧ ∀ x ∈ t.cps, ∃ p, partOf ps x.c.id = some p ∧ p ∈ ps ∧ p.comp = x.c.id ∧ fitF x.c.fields p.val = 0 ∧ rowOf ps x = packF x.c.fields p.val := by
  unfold addErr at h
  split at h
  · cases h
  · split at h
    · cases h
    · rename_i _ h1
      split at h
      · rename_i h2; exact absurd h h2
      · rename_i h2
        split at h
        · cases h
        · rename_i h3
          refine ⟨h3, fun x hx => ?_⟩
          have hp2 : (partsF ps).2 = 0 := Classical.byContradiction (fun hh => h1 (.inl hh))
          have hp1 : (partsF ps).1 = t.set := Classical.byContradiction (fun hh => h1 (.inr hh))
          have h2' : cpsGo t.cs [] ps = 0 := Classical.byContradiction h2
          have hmem : x.c.id ∈ idsTo t.set 24 := by rw [← hids]; exact List.mem_map_of_mem (f := (·.c.id)) hx
          obtain ⟨hb, hi⟩ := idsTo_mem hmem
          have hall : (comps ps).all idB = true := by
            unfold partsF at hp2
            split at hp2
            · rename_i hh; exact hh
            · cases hp2
          have hfold : foldS (comps ps) = t.set := by
            unfold partsF at hp1 hp2
            rw [if_pos hall] at hp1 hp2
            split at hp1
            · exact hp1
            · rename_i hh; rw [if_neg hh] at hp2; cases hp2
          have hin : x.c.id ∈ comps ps := by
            have := has_fold hi (comps ps) hall
            rw [hfold, hb] at this
            simpa using this.symm
          unfold comps at hin
          obtain ⟨q, hq, hqc⟩ := List.mem_map.1 hin
          have hs : (partOf ps x.c.id).isSome = true := by
            unfold partOf
            rw [List.find?_isSome]
            exact ⟨q, hq, by simp [hqc]⟩
          obtain ⟨p, hp⟩ := Option.isSome_iff_exists.1 hs
          have hpm : p ∈ ps := List.mem_of_find?_eq_some hp
          have hpc : p.comp = x.c.id := by have := List.find?_some hp; simpa using this
          refine ⟨p, hp, hpm, hpc, ?_, by unfold rowOf; rw [hp]⟩
          have hcp := cpsGo_zero t.cs ps [] h2' p hpm
          unfold cpF at hcp
          rw [hpc] at hcp
          have := find_id (by rw [hids]; exact idsTo_nodup _ _) hx
          unfold TD.cs at hcp
          rw [this] at hcp
          exact hcp
end Go.Proofs.YtoadihebdaooaaaGreat
