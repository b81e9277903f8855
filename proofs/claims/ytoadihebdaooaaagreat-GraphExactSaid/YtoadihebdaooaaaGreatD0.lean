/- GraphBack, the plain part: bits of a set; the ways of a graph lead there and back. -/
import Derived.Test.YtoadihebdaooaaaGreatC1
import Derived.Laws.BitsAllLaws
namespace Go.Proofs.YtoadihebdaooaaaGreat
open Go.RowKit
set_option linter.unusedVariables false

theorem hasB_bit {s n : Nat} (hs : s < 4294967296) (h1 : 1 ≤ n) (h2 : n ≤ 24) : hasB (s : Int) (n : Int) = s.testBit n := by
  have hd : s / 2 ^ n < 4294967296 := by
    have := Nat.div_le_self s (2 ^ n)
    omega
  unfold hasB
  rw [idB_true (by omega) (by omega), Bool.true_and, Int.toNat_natCast]
  have e : ((s : Int) / 2 ^ n) = ((s / 2 ^ n : Nat) : Int) := by simp
  rw [e, show (1 : Int) = ((1 : Nat) : Int) from rfl, u32_and_nat _ _ hd (by omega)]
  rw [Nat.testBit_eq_decide_div_mod_eq, Nat.and_one_is_mod]
  by_cases hh : s / 2 ^ n % 2 = 1
  · rw [hh]; simp
  · simp [hh]; omega
theorem pow_small {n : Nat} (h2 : n ≤ 24) : 2 ^ n < 4294967296 := by
  have : 2 ^ n ≤ 2 ^ 24 := Nat.pow_le_pow_right (by omega) h2
  omega
theorem sWith_nat {s n : Nat} (hs : s < 4294967296) (h1 : 1 ≤ n) (h2 : n ≤ 24) : sWith (s : Int) (n : Int) = ((s ||| 2 ^ n : Nat) : Int) := by
  have hp := pow_small h2
  unfold sWith
  rw [idB_true (by omega) (by omega), Int.toNat_natCast]
  have e : ((2 : Int) ^ n % 4294967296) = ((2 ^ n : Nat) : Int) := by
    have : ((2 : Int) ^ n) = ((2 ^ n : Nat) : Int) := by simp
    have hq : ((2 ^ n : Nat) : Int) < 4294967296 := by have := Int.ofNat_lt.2 hp; exact this
    rw [this]; exact Int.emod_eq_of_lt (Int.natCast_nonneg _) hq
  rw [e]
  simp only [if_true]
  exact u32_or_nat _ _ hs hp
theorem sWithout_nat {s n : Nat} (hs : s < 4294967296) (h1 : 1 ≤ n) (h2 : n ≤ 24) : sWithout (s : Int) (n : Int) = ((s &&& (4294967295 - 2 ^ n) : Nat) : Int) := by
  have hp := pow_small h2
  unfold sWithout
  rw [idB_true (by omega) (by omega), Int.toNat_natCast]
  have e : ((2 : Int) ^ n % 4294967296) = ((2 ^ n : Nat) : Int) := by
    have : ((2 : Int) ^ n) = ((2 ^ n : Nat) : Int) := by simp
    have hq : ((2 ^ n : Nat) : Int) < 4294967296 := by have := Int.ofNat_lt.2 hp; exact this
    rw [this]; exact Int.emod_eq_of_lt (Int.natCast_nonneg _) hq
  rw [e]
  simp only [if_true]
  exact u32_andNot_nat _ _ hs hp
theorem bit_or {s n : Nat} : (s ||| 2 ^ n).testBit n = true := by simp [Nat.testBit_or]
theorem bit_not (n i : Nat) (h2 : n ≤ 24) : (4294967295 - 2 ^ n).testBit i = (decide (i < 32) && !decide (n = i)) := by
  have := Nat.testBit_two_pow_sub_succ (x := 2 ^ n) (n := 32) (pow_small h2) i
  rw [show 2 ^ 32 - (2 ^ n + 1) = 4294967295 - 2 ^ n by omega] at this
  rw [this, Nat.testBit_two_pow]
theorem bit_high {s i : Nat} (hs : s < 4294967296) (hi : 32 ≤ i) : s.testBit i = false :=
  Nat.testBit_lt_two_pow (Nat.lt_of_lt_of_le hs (by have := Nat.pow_le_pow_right (n := 2) (by omega) hi; omega))

/-- The set with the component, or without it. -/
def upd (s c : Int) (b : Bool) : Int := if b then sWith s c else sWithout s c
theorem upd_bd {s c : Int} {b : Bool} (h0 : 0 ≤ s) (h1 : s ≤ 4294967295) : 0 ≤ upd s c b ∧ upd s c b ≤ 4294967295 := by
  unfold upd; split
  · exact sWith_bd h0 h1
  · exact sWithout_bd h0 h1
theorem id_nat {c : Int} (h : idB c = true) : ∃ n : Nat, c = n ∧ 1 ≤ n ∧ n ≤ 24 := by
  simp [idB] at h
  exact ⟨c.toNat, by omega, by omega, by omega⟩
theorem hasB_upd {s c : Int} (b : Bool) (h0 : 0 ≤ s) (h1 : s ≤ 4294967295) (hc : idB c = true) : hasB (upd s c b) c = b := by
  obtain ⟨n, rfl, g1, g2⟩ := id_nat hc
  obtain ⟨s, rfl⟩ := Int.eq_ofNat_of_zero_le h0
  have hs : s < 4294967296 := by omega
  have hp := pow_small g2
  cases b
  · simp only [upd, Bool.false_eq_true, if_false]
    rw [sWithout_nat hs g1 g2, hasB_bit (Nat.lt_of_le_of_lt Nat.and_le_left hs) g1 g2, Nat.testBit_and, bit_not n n g2]
    simp
  · simp only [upd, if_true]
    rw [sWith_nat hs g1 g2, hasB_bit (by have := Nat.or_lt_two_pow (n := 32) hs hp; omega) g1 g2]
    exact bit_or
theorem upd_back {s c : Int} {b : Bool} (h0 : 0 ≤ s) (h1 : s ≤ 4294967295) (hc : idB c = true) (hh : hasB s c = !b) : upd (upd s c b) c (!b) = s := by
  obtain ⟨n, rfl, g1, g2⟩ := id_nat hc
  obtain ⟨s, rfl⟩ := Int.eq_ofNat_of_zero_le h0
  have hs : s < 4294967296 := by omega
  have hp := pow_small g2
  rw [hasB_bit hs g1 g2] at hh
  cases b
  · simp only [upd, Bool.false_eq_true, if_false, Bool.not_false, if_true]
    rw [sWithout_nat hs g1 g2, sWith_nat (Nat.lt_of_le_of_lt Nat.and_le_left hs) g1 g2]
    congr 1
    apply Nat.eq_of_testBit_eq
    intro i
    rw [Nat.testBit_or, Nat.testBit_and, bit_not n i g2, Nat.testBit_two_pow]
    by_cases e : n = i
    · subst e; simp [hh]
    · by_cases hi : i < 32
      · simp [e, hi]
      · have hbh := bit_high hs (Nat.le_of_not_lt hi)
        simp [e, hi, hbh]
  · simp only [upd, Bool.not_true, Bool.false_eq_true, if_false, if_true]
    rw [sWith_nat hs g1 g2, sWithout_nat (by have := Nat.or_lt_two_pow (n := 32) hs hp; omega) g1 g2]
    congr 1
    apply Nat.eq_of_testBit_eq
    intro i
    rw [Nat.testBit_and, Nat.testBit_or, bit_not n i g2, Nat.testBit_two_pow]
    by_cases e : n = i
    · subst e; simp [hh]
    · by_cases hi : i < 32
      · simp [e, hi]
      · have hbh := bit_high hs (Nat.le_of_not_lt hi)
        simp [e, hi, hbh]
theorem upd_set {s c : Int} {b : Bool} (h0 : 0 ≤ s) (h1 : s ≤ 4294967295) (hc : idB c = true) (hh : hasB s c = !b) : (if b then sWith (sWithout s c) c else sWithout s c) = upd s c b := by
  cases b
  · rfl
  · simp only [if_true, upd]
    have hw : sWithout s c = s := by
      obtain ⟨n, rfl, g1, g2⟩ := id_nat hc
      obtain ⟨s, rfl⟩ := Int.eq_ofNat_of_zero_le h0
      have hs : s < 4294967296 := by omega
      rw [hasB_bit hs g1 g2] at hh
      rw [sWithout_nat hs g1 g2]
      congr 1
      apply Nat.eq_of_testBit_eq
      intro i
      rw [Nat.testBit_and, bit_not n i g2]
      by_cases e : n = i
      · subst e; simp [hh]
      · by_cases hi : i < 32
        · simp [e, hi]
        · have hbh := bit_high hs (Nat.le_of_not_lt hi)
          simp [e, hi, hbh]
    rw [hw]

/-- What holds of a graph behind every deed. -/
structure Inv (g : GS) : Prop where
  nd : ∀ (i : Nat) (s : Int), g.sigs[i]? = some s → posOf s g.sigs = some i
  ids : ∀ c, (findC c g.cs).isSome = true → idB c = true
  bd : ∀ (i : Nat) (s : Int), g.sigs[i]? = some s → 0 ≤ s ∧ s ≤ 4294967295
  wy : ∀ (i c : Int) (b : Bool) (n : Nat), g.ways (i, c, b) = some n → 0 ≤ i ∧ (findC c g.cs).isSome = true ∧ (∃ s, g.sigs[i.toNat]? = some s ∧ hasB s c = (!b) ∧ g.sigs[n]? = some (upd s c b)) ∧ g.ways (n, c, !b) = some i.toNat

theorem sigs_len (g : GS) : g.sigs.length = g.ts.length := by simp [GS.sigs]
theorem Inv.made {g : GS} (h : Inv g) {set : Int} (h0 : 0 ≤ set) (h1 : set ≤ 4294967295) (tb : Nat) : Inv (makeG g set tb).1 ∧ ∀ (i : Nat) (s : Int), g.sigs[i]? = some s → (makeG g set tb).1.sigs[i]? = some s := by
  cases hp : posOf set g.sigs with
  | some i => rw [makeG_has hp]; exact ⟨h, fun _ _ h => h⟩
  | none =>
    by_cases hk : tableOk g.ver g.cs set g.rows = true
    · by_cases hf : g.archs = g.ts.length
      · rw [makeG_full hp hk hf]; exact ⟨h, fun _ _ h => h⟩
      · rw [makeG_new hp hk hf]
        have hs : ({ g with ts := g.ts ++ [(tb, set)] } : GS).sigs = g.sigs ++ [set] := by simp [GS.sigs]
        have pre : ∀ (i : Nat) (s : Int), g.sigs[i]? = some s → (g.sigs ++ [set])[i]? = some s := by
          intro i s hi
          rw [List.getElem?_append_left (List.getElem?_eq_some_iff.1 hi).1]; exact hi
        have cas : ∀ (i : Nat) (s : Int), (g.sigs ++ [set])[i]? = some s → g.sigs[i]? = some s ∨ (i = g.sigs.length ∧ s = set) := by
          intro i s hi
          by_cases hl : i < g.sigs.length
          · rw [List.getElem?_append_left hl] at hi; exact .inl hi
          · have := (List.getElem?_eq_some_iff.1 hi).1
            simp at this
            obtain rfl : i = g.sigs.length := by omega
            simp at hi
            exact .inr ⟨rfl, hi.symm⟩
        refine ⟨⟨?_, h.ids, ?_, ?_⟩, ?_⟩
        · intro i s hi
          rw [hs] at hi ⊢
          rw [posOf_snoc]
          rcases cas i s hi with h2 | ⟨rfl, rfl⟩
          · rw [h.nd i s h2]
          · rw [hp]; simp
        · intro i s hi
          rw [hs] at hi
          rcases cas i s hi with h2 | ⟨rfl, rfl⟩
          · exact h.bd i s h2
          · exact ⟨h0, h1⟩
        · intro i c b n hw
          obtain ⟨a1, a2, ⟨s, a3, a4, a5⟩, a6⟩ := h.wy i c b n hw
          exact ⟨a1, a2, ⟨s, by rw [hs]; exact pre _ _ a3, a4, by rw [hs]; exact pre _ _ a5⟩, a6⟩
        · intro i s hi
          show ({ g with ts := g.ts ++ [(tb, set)] } : GS).sigs[i]? = some s
          rw [hs]; exact pre i s hi
    · rw [makeG_no hp (by simpa using hk)]; exact ⟨h, fun _ _ h => h⟩

theorem chk_ok {g : GS} {i c : Int} {b : Bool} (h : chkF g i c b = 0) : 0 ≤ i ∧ (∃ s, g.sigs[i.toNat]? = some s ∧ g.sigs.getD i.toNat 0 = s ∧ hasB s c = !b) ∧ (findC c g.cs).isSome = true := by
  unfold chkF at h
  split at h
  · simp at h
  · rename_i h1
    split at h
    · simp at h
    · rename_i h2
      split at h
      · simp at h
      · rename_i h3
        have hl : i.toNat < g.sigs.length := by rw [sigs_len]; omega
        refine ⟨by omega, ⟨g.sigs[i.toNat], List.getElem?_eq_getElem hl, by simp [List.getD, List.getElem?_eq_getElem hl], ?_⟩, by cases hf : (findC c g.cs).isSome <;> simp_all⟩
        simp [List.getD, List.getElem?_eq_getElem hl] at h3
        cases b <;> simp_all
theorem Inv.chk {g : GS} (h : Inv g) {i c : Int} {b : Bool} {n : Nat} (hw : g.ways (i, c, b) = some n) : chkF g i c b = 0 := by
  obtain ⟨a1, a2, ⟨s, a3, a4, a5⟩, a6⟩ := h.wy i c b n hw
  have hl := (List.getElem?_eq_some_iff.1 a3).1
  rw [sigs_len] at hl
  unfold chkF
  rw [if_neg (by omega), if_neg (by simp [a2])]
  have : g.sigs.getD i.toNat 0 = s := by simp [List.getD, a3]
  rw [this, if_neg (by rw [a4]; cases b <;> simp)]

/-- What a step with no error brings. -/
structure Gone (g g' : GS) (i c : Int) (b : Bool) (n : Nat) : Prop where
  known : g'.ways (i, c, b) = some n
  frm : ∃ s, g.sigs[i.toNat]? = some s ∧ g'.sigs[n]? = some (upd s c b)
  lo : 0 ≤ i

theorem Inv.step {g : GS} (h : Inv g) (i c : Int) (b : Bool) (tb : Nat) :
    Inv (stepG g i c b tb).1 ∧ ((stepG g i c b tb).2.2 = 0 → ∃ n : Nat, (stepG g i c b tb).2.1 = n ∧ Gone g (stepG g i c b tb).1 i c b n) := by
  by_cases hck : chkF g i c b = 0
  · obtain ⟨c1, ⟨s, c2, c3, c4⟩, c5⟩ := chk_ok hck
    have hid := h.ids c c5
    have hsb := h.bd _ _ c2
    cases hw : g.ways (i, c, b) with
    | some n =>
      rw [stepG_has hck hw]
      refine ⟨h, fun _ => ⟨n, rfl, hw, ?_, c1⟩⟩
      obtain ⟨a1, a2, ⟨s', a3, a4, a5⟩, a6⟩ := h.wy i c b n hw
      exact ⟨s', a3, a5⟩
    | none =>
      have hset : stepSet g i c b = upd s c b := by
        unfold stepSet; rw [c3]; exact upd_set hsb.1 hsb.2 hid c4
      have hub := upd_bd (c := c) (b := b) hsb.1 hsb.2
      by_cases he : (makeG g (stepSet g i c b) tb).2.2 = 0
      · rw [stepG_new hck hw tb he]
        obtain ⟨n, m1, m2, m3, m4, m5, m6, m7⟩ := makeG_ok he
        rw [hset] at m1 m2 m3 m4 m5 m6 m7 ⊢
        obtain ⟨hM, hpre⟩ := h.made hub.1 hub.2 tb
        generalize makeG g (upd s c b) tb = M at m1 m2 m3 m4 m5 m6 m7 hM hpre ⊢
        rw [m1]
        simp only [Int.toNat_natCast]
        have hhu := hasB_upd b hsb.1 hsb.2 hid
        have hbk := upd_back hsb.1 hsb.2 hid c4
        have hne : ((i, c, b) : Int × Int × Bool) ≠ ((n : Int), c, !b) := by
          intro e
          simp at e
        have hi2 : M.1.sigs[i.toNat]? = some s := hpre _ _ c2
        refine ⟨⟨hM.nd, hM.ids, hM.bd, ?_⟩, fun _ => ⟨n, rfl, ?_, ⟨s, c2, m6⟩, c1⟩⟩
        · intro i' c' b' n' hy
          simp only [putW] at hy ⊢
          by_cases e1 : ((i', c', b') : Int × Int × Bool) = ((n : Int), c, !b)
          · rw [if_pos e1] at hy
            simp only [Prod.mk.injEq] at e1
            obtain ⟨rfl, rfl, rfl⟩ := e1
            cases hy
            refine ⟨by omega, by show (findC c' M.1.cs).isSome = true; rw [m5]; exact c5, ⟨upd s c' b, by rw [Int.toNat_natCast]; exact m6, by rw [hhu]; simp, by rw [hbk]; exact hi2⟩, ?_⟩
            have e2 : ((i.toNat : Int), c', !!b) = (i, c', b) := by simp; omega
            rw [e2, if_neg hne, if_pos rfl]
            simp
          · rw [if_neg e1] at hy
            by_cases e2 : ((i', c', b') : Int × Int × Bool) = (i, c, b)
            · rw [if_pos e2] at hy
              simp only [Prod.mk.injEq] at e2
              obtain ⟨rfl, rfl, rfl⟩ := e2
              cases hy
              refine ⟨c1, by show (findC c' M.1.cs).isSome = true; rw [m5]; exact c5, ⟨s, hi2, c4, m6⟩, ?_⟩
              rw [if_pos rfl]
            · rw [if_neg e2] at hy
              obtain ⟨a1, a2, ⟨s', a3, a4, a5⟩, a6⟩ := h.wy i' c' b' n' hy
              refine ⟨a1, by show (findC c' M.1.cs).isSome = true; rw [m5]; exact a2, ⟨s', hpre _ _ a3, a4, hpre _ _ a5⟩, ?_⟩
              by_cases e3 : (((n' : Int), c', !b') : Int × Int × Bool) = ((n : Int), c, !b)
              · simp only [Prod.mk.injEq] at e3
                obtain ⟨f1, rfl, f3⟩ := e3
                obtain rfl : n' = n := by omega
                obtain rfl : b' = b := by cases b <;> cases b' <;> simp_all
                have hs' := hpre _ _ a5
                rw [m6] at hs'
                have hbd' := h.bd _ _ a3
                have hbk' := upd_back hbd'.1 hbd'.2 hid a4
                rw [← Option.some.inj hs', hbk] at hbk'
                subst hbk'
                have q1 := h.nd _ _ a3
                have q2 := h.nd _ _ c2
                rw [q1] at q2
                have := Option.some.inj q2
                exact absurd (show (i', c', b') = (i, c', b') by simp; omega) e2
              · rw [if_neg e3]
                by_cases e4 : (((n' : Int), c', !b') : Int × Int × Bool) = (i, c, b)
                · rw [e4] at a6; rw [hw] at a6; cases a6
                · rw [if_neg e4]; exact a6
        · show putW _ _ _ _ = _
          unfold putW
          rw [if_neg hne, if_pos rfl]
      · rw [stepG_err hck hw tb he]
        exact ⟨h, fun e => absurd e he⟩
  · rw [stepG_chk hck]
    exact ⟨h, fun e => absurd e hck⟩

theorem compsGo_ids : ∀ (cs : List Cmp) (last : Int) (seen : List (List UInt8)), 0 ≤ last → compsGo last seen cs = 0 → ∀ c ∈ cs, 1 ≤ c.id ∧ c.id ≤ 24
  | [], _, _, _, _, c, hc => by cases hc
  | x :: r, last, seen, hl, h, c, hc => by
    unfold compsGo at h
    split at h
    · simp at h
    · split at h
      · simp at h
      · split at h
        · contradiction
        · rcases List.mem_cons.1 hc with rfl | hc
          · omega
          · exact compsGo_ids r _ _ (by omega) h c hc
theorem inv_new {ver archs rows : Int} {cs : List Cmp} (h : newOk ver cs archs rows = true) : Inv (GS0 ver cs archs rows) := by
  refine ⟨fun i s hs => by simp [GS0, GS.sigs] at hs, fun c hc => ?_, fun i s hs => by simp [GS0, GS.sigs] at hs, fun i c b n hw => by simp [GS0] at hw⟩
  have hk : schemaCheck ver cs = 0 := by
    unfold newOk at h
    simp at h
    exact h.1.1.1.1
  unfold schemaCheck at hk
  split at hk
  · simp at hk
  · obtain ⟨x, hx⟩ := Option.isSome_iff_exists.1 hc
    have hm : x ∈ cs := List.mem_of_find?_eq_some hx
    have he := List.find?_some hx
    simp at he
    have := compsGo_ids cs 0 [] (by omega) hk x hm
    exact idB_true (by omega) (by omega)
end Go.Proofs.YtoadihebdaooaaaGreat
