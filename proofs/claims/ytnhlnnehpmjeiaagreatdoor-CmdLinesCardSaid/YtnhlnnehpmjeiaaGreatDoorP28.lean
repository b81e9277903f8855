/- As D0, over K9: bits of a set; the ways of a graph lead there and back. · Plain: parts that can be: their set, their values; they may be added to the table of their set. · Plain: sets are what they hold; rows as parts, and back. · A world: its memory, who is where, and what that comes to. -/
import Derived.Test.YtnhlnnehpmjeiaaGreatDoorP25
import Derived.Laws.BitsAllLaws
import Derived.Test.YtnhlnnehpmjeiaaGreatDoorP27
import Derived.Test.YtnhlnnehpmjeiaaGreatDoorP14
namespace Go.Proofs.YtnhlnnehpmjeiaaGreatDoor
open Go.RowKit
set_option linter.unusedVariables false
theorem hasB_bit {s n : Nat} (hs : s < 4294967296) (h1 : 1 ≤ n) (h2 : n ≤ 24) : hasB (s : Int) (n : Int) = s.testBit n := by
  have hd : s / 2 ^ n < 4294967296 := by
    have := Nat.div_le_self s (2 ^ n)
    omega
  unfold hasB
  rw [idB_true (by omega) (by omega), Bool.true_and, Int.toNat_natCast]
  have e : ((s : Int) / 2 ^ n) = ((s / 2 ^ n : Nat) : Int) := by simp
  rw [e, show (1 : Int) = ((1 : Nat) : Int) from rfl, u32_and_nat _ _ hd (by omega)]
  rw [Nat.testBit_eq_decide_div_mod_eq, Nat.and_one_is_mod]
  by_cases hh : s / 2 ^ n % 2 = 1
  · rw [hh]; simp
  · simp [hh]; omega
theorem pow_small {n : Nat} (h2 : n ≤ 24) : 2 ^ n < 4294967296 := by
  have : 2 ^ n ≤ 2 ^ 24 := Nat.pow_le_pow_right (by omega) h2
  omega
theorem sWith_nat {s n : Nat} (hs : s < 4294967296) (h1 : 1 ≤ n) (h2 : n ≤ 24) : sWith (s : Int) (n : Int) = ((s ||| 2 ^ n : Nat) : Int) := by
  have hp := pow_small h2
  unfold sWith
  rw [idB_true (by omega) (by omega), Int.toNat_natCast]
  have e : ((2 : Int) ^ n % 4294967296) = ((2 ^ n : Nat) : Int) := by
    have : ((2 : Int) ^ n) = ((2 ^ n : Nat) : Int) := by simp
    have hq : ((2 ^ n : Nat) : Int) < 4294967296 := by have := Int.ofNat_lt.2 hp; exact this
    rw [this]; exact Int.emod_eq_of_lt (Int.natCast_nonneg _) hq
  rw [e]
  simp only [if_true]
  exact u32_or_nat _ _ hs hp
theorem sWithout_nat {s n : Nat} (hs : s < 4294967296) (h1 : 1 ≤ n) (h2 : n ≤ 24) : sWithout (s : Int) (n : Int) = ((s &&& (4294967295 - 2 ^ n) : Nat) : Int) := by
  have hp := pow_small h2
  unfold sWithout
  rw [idB_true (by omega) (by omega), Int.toNat_natCast]
  have e : ((2 : Int) ^ n % 4294967296) = ((2 ^ n : Nat) : Int) := by
    have : ((2 : Int) ^ n) = ((2 ^ n : Nat) : Int) := by simp
    have hq : ((2 ^ n : Nat) : Int) < 4294967296 := by have := Int.ofNat_lt.2 hp; exact this
    rw [this]; exact Int.emod_eq_of_lt (Int.natCast_nonneg _) hq
  rw [e]
  simp only [if_true]
  exact u32_andNot_nat _ _ hs hp
theorem bit_or {s n : Nat} : (s ||| 2 ^ n).testBit n = true := by simp [Nat.testBit_or]
theorem bit_not (n i : Nat) (h2 : n ≤ 24) : (4294967295 - 2 ^ n).testBit i = (decide (i < 32) && !decide (n = i)) := by
  have := Nat.testBit_two_pow_sub_succ (x := 2 ^ n) (n := 32) (pow_small h2) i
  rw [show 2 ^ 32 - (2 ^ n + 1) = 4294967295 - 2 ^ n by omega] at this
  rw [this, Nat.testBit_two_pow]
theorem bit_high {s i : Nat} (hs : s < 4294967296) (hi : 32 ≤ i) : s.testBit i = false :=
  Nat.testBit_lt_two_pow (Nat.lt_of_lt_of_le hs (by have := Nat.pow_le_pow_right (n := 2) (by omega) hi; omega))
/-- The set with the component, or without it. -/
def upd (s c : Int) (b : Bool) : Int := if b then sWith s c else sWithout s c
theorem upd_bd {s c : Int} {b : Bool} (h0 : 0 ≤ s) (h1 : s ≤ 4294967295) : 0 ≤ upd s c b ∧ upd s c b ≤ 4294967295 := by
  unfold upd; split
  · exact sWith_bd h0 h1
  · exact sWithout_bd h0 h1
theorem id_nat {c : Int} (h : idB c = true) : ∃ n : Nat, c = n ∧ 1 ≤ n ∧ n ≤ 24 := by
  simp [idB] at h
  exact ⟨c.toNat, by omega, by omega, by omega⟩
theorem hasB_upd {s c : Int} (b : Bool) (h0 : 0 ≤ s) (h1 : s ≤ 4294967295) (hc : idB c = true) : hasB (upd s c b) c = b := by
  obtain ⟨n, rfl, g1, g2⟩ := id_nat hc
  obtain ⟨s, rfl⟩ := Int.eq_ofNat_of_zero_le h0
  have hs : s < 4294967296 := by omega
  have hp := pow_small g2
  cases b
  · simp only [upd, Bool.false_eq_true, if_false]
    rw [sWithout_nat hs g1 g2, hasB_bit (Nat.lt_of_le_of_lt Nat.and_le_left hs) g1 g2, Nat.testBit_and, bit_not n n g2]
    simp
  · simp only [upd, if_true]
    rw [sWith_nat hs g1 g2, hasB_bit (by have := Nat.or_lt_two_pow (n := 32) hs hp; omega) g1 g2]
    exact bit_or
theorem upd_back {s c : Int} {b : Bool} (h0 : 0 ≤ s) (h1 : s ≤ 4294967295) (hc : idB c = true) (hh : hasB s c = !b) : upd (upd s c b) c (!b) = s := by
  obtain ⟨n, rfl, g1, g2⟩ := id_nat hc
  obtain ⟨s, rfl⟩ := Int.eq_ofNat_of_zero_le h0
  have hs : s < 4294967296 := by omega
  have hp := pow_small g2
  rw [hasB_bit hs g1 g2] at hh
  cases b
  · simp only [upd, Bool.false_eq_true, if_false, Bool.not_false, if_true]
    rw [sWithout_nat hs g1 g2, sWith_nat (Nat.lt_of_le_of_lt Nat.and_le_left hs) g1 g2]
    congr 1
    apply Nat.eq_of_testBit_eq
    intro i
    rw [Nat.testBit_or, Nat.testBit_and, bit_not n i g2, Nat.testBit_two_pow]
    by_cases e : n = i
    · subst e; simp [hh]
    · by_cases hi : i < 32
      · simp [e, hi]
      · have hbh := bit_high hs (Nat.le_of_not_lt hi)
        simp [e, hi, hbh]
  · simp only [upd, Bool.not_true, Bool.false_eq_true, if_false, if_true]
    rw [sWith_nat hs g1 g2, sWithout_nat (by have := Nat.or_lt_two_pow (n := 32) hs hp; omega) g1 g2]
    congr 1
    apply Nat.eq_of_testBit_eq
    intro i
    rw [Nat.testBit_and, Nat.testBit_or, bit_not n i g2, Nat.testBit_two_pow]
    by_cases e : n = i
    · subst e; simp [hh]
    · by_cases hi : i < 32
      · simp [e, hi]
      · have hbh := bit_high hs (Nat.le_of_not_lt hi)
        simp [e, hi, hbh]
theorem upd_set {s c : Int} {b : Bool} (h0 : 0 ≤ s) (h1 : s ≤ 4294967295) (hc : idB c = true) (hh : hasB s c = !b) : (if b then sWith (sWithout s c) c else sWithout s c) = upd s c b := by
  cases b
  · rfl
  · simp only [if_true, upd]
    have hw : sWithout s c = s := by
      obtain ⟨n, rfl, g1, g2⟩ := id_nat hc
      obtain ⟨s, rfl⟩ := Int.eq_ofNat_of_zero_le h0
      have hs : s < 4294967296 := by omega
      rw [hasB_bit hs g1 g2] at hh
      rw [sWithout_nat hs g1 g2]
      congr 1
      apply Nat.eq_of_testBit_eq
      intro i
      rw [Nat.testBit_and, bit_not n i g2]
      by_cases e : n = i
      · subst e; simp [hh]
      · by_cases hi : i < 32
        · simp [e, hi]
        · have hbh := bit_high hs (Nat.le_of_not_lt hi)
          simp [e, hi, hbh]
    rw [hw]
/-- What holds of a graph behind every deed. -/
structure Inv (g : GS) : Prop where
  nd : ∀ (i : Nat) (s : Int), g.sigs[i]? = some s → posOf s g.sigs = some i
  ids : ∀ c, (findC c g.cs).isSome = true → idB c = true
  bd : ∀ (i : Nat) (s : Int), g.sigs[i]? = some s → 0 ≤ s ∧ s ≤ 4294967295
  wy : ∀ (i c : Int) (b : Bool) (n : Nat), g.ways (i, c, b) = some n → 0 ≤ i ∧ (findC c g.cs).isSome = true ∧ (∃ s, g.sigs[i.toNat]? = some s ∧ hasB s c = (!b) ∧ g.sigs[n]? = some (upd s c b)) ∧ g.ways (n, c, !b) = some i.toNat
theorem sigs_len (g : GS) : g.sigs.length = g.ts.length := by simp [GS.sigs]
theorem Inv.made {g : GS} (h : Inv g) {set : Int} (h0 : 0 ≤ set) (h1 : set ≤ 4294967295) (tb : Nat) : Inv (makeG g set tb).1 ∧ ∀ (i : Nat) (s : Int), g.sigs[i]? = some s → (makeG g set tb).1.sigs[i]? = some s := by
  cases hp : posOf set g.sigs with
  | some i => rw [makeG_has hp]; exact ⟨h, fun _ _ h => h⟩
  | none =>
    by_cases hk : tableOk g.ver g.cs set g.rows = true
    · by_cases hf : g.archs = g.ts.length
      · rw [makeG_full hp hk hf]; exact ⟨h, fun _ _ h => h⟩
      · rw [makeG_new hp hk hf]
        have hs : ({ g with ts := g.ts ++ [(tb, set)] } : GS).sigs = g.sigs ++ [set] := by simp [GS.sigs]
        have pre : ∀ (i : Nat) (s : Int), g.sigs[i]? = some s → (g.sigs ++ [set])[i]? = some s := by
          intro i s hi
          rw [List.getElem?_append_left (List.getElem?_eq_some_iff.1 hi).1]; exact hi
        have cas : ∀ (i : Nat) (s : Int), (g.sigs ++ [set])[i]? = some s → g.sigs[i]? = some s ∨ (i = g.sigs.length ∧ s = set) := by
          intro i s hi
          by_cases hl : i < g.sigs.length
          · rw [List.getElem?_append_left hl] at hi; exact .inl hi
          · have := (List.getElem?_eq_some_iff.1 hi).1
            simp at this
            obtain rfl : i = g.sigs.length := by omega
            simp at hi
            exact .inr ⟨rfl, hi.symm⟩
        refine ⟨⟨?_, h.ids, ?_, ?_⟩, ?_⟩
        · intro i s hi
          rw [hs] at hi ⊢
          rw [posOf_snoc]
          rcases cas i s hi with h2 | ⟨rfl, rfl⟩
          · rw [h.nd i s h2]
          · rw [hp]; simp
        · intro i s hi
          rw [hs] at hi
          rcases cas i s hi with h2 | ⟨rfl, rfl⟩
          · exact h.bd i s h2
          · exact ⟨h0, h1⟩
        · intro i c b n hw
          obtain ⟨a1, a2, ⟨s, a3, a4, a5⟩, a6⟩ := h.wy i c b n hw
          exact ⟨a1, a2, ⟨s, by rw [hs]; exact pre _ _ a3, a4, by rw [hs]; exact pre _ _ a5⟩, a6⟩
        · intro i s hi
          show ({ g with ts := g.ts ++ [(tb, set)] } : GS).sigs[i]? = some s
          rw [hs]; exact pre i s hi
    · rw [makeG_no hp (by simpa using hk)]; exact ⟨h, fun _ _ h => h⟩
theorem chk_ok {g : GS} {i c : Int} {b : Bool} (h : chkF g i c b = 0) : 0 ≤ i ∧ (∃ s, g.sigs[i.toNat]? = some s ∧ g.sigs.getD i.toNat 0 = s ∧ hasB s c = !b) ∧ (findC c g.cs).isSome = true := by
  unfold chkF at h
  split at h
  · simp at h
  · rename_i h1
    split at h
    · simp at h
    · rename_i h2
      split at h
      · simp at h
      · rename_i h3
        have hl : i.toNat < g.sigs.length := by rw [sigs_len]; omega
        refine ⟨by omega, ⟨g.sigs[i.toNat], List.getElem?_eq_getElem hl, by simp [List.getD, List.getElem?_eq_getElem hl], ?_⟩, by cases hf : (findC c g.cs).isSome <;> simp_all⟩
        simp [List.getD, List.getElem?_eq_getElem hl] at h3
        cases b <;> simp_all
/-- What a step with no error brings. -/
structure Gone (g g' : GS) (i c : Int) (b : Bool) (n : Nat) : Prop where
  known : g'.ways (i, c, b) = some n
  frm : ∃ s, g.sigs[i.toNat]? = some s ∧ g'.sigs[n]? = some (upd s c b)
  lo : 0 ≤ i
theorem Inv.step {g : GS} (h : Inv g) (i c : Int) (b : Bool) (tb : Nat) :
    Inv (stepG g i c b tb).1 ∧ ((stepG g i c b tb).2.2 = 0 → ∃ n : Nat, (stepG g i c b tb).2.1 = n ∧ Gone g (stepG g i c b tb).1 i c b n) := by
  by_cases hck : chkF g i c b = 0
  · obtain ⟨c1, ⟨s, c2, c3, c4⟩, c5⟩ := chk_ok hck
    have hid := h.ids c c5
    have hsb := h.bd _ _ c2
    cases hw : g.ways (i, c, b) with
    | some n =>
      rw [stepG_has hck hw]
      refine ⟨h, fun _ => ⟨n, rfl, hw, ?_, c1⟩⟩
      obtain ⟨a1, a2, ⟨s', a3, a4, a5⟩, a6⟩ := h.wy i c b n hw
      exact ⟨s', a3, a5⟩
    | none =>
      have hset : stepSet g i c b = upd s c b := by
        unfold stepSet; rw [c3]; exact upd_set hsb.1 hsb.2 hid c4
      have hub := upd_bd (c := c) (b := b) hsb.1 hsb.2
      by_cases he : (makeG g (stepSet g i c b) tb).2.2 = 0
      · rw [stepG_new hck hw tb he]
        obtain ⟨n, m1, m2, m3, m4, m5, m6, m7⟩ := makeG_ok he
        rw [hset] at m1 m2 m3 m4 m5 m6 m7 ⊢
        obtain ⟨hM, hpre⟩ := h.made hub.1 hub.2 tb
        generalize makeG g (upd s c b) tb = M at m1 m2 m3 m4 m5 m6 m7 hM hpre ⊢
        rw [m1]
        simp only [Int.toNat_natCast]
        have hhu := hasB_upd b hsb.1 hsb.2 hid
        have hbk := upd_back hsb.1 hsb.2 hid c4
        have hne : ((i, c, b) : Int × Int × Bool) ≠ ((n : Int), c, !b) := by
          intro e
          simp at e
        have hi2 : M.1.sigs[i.toNat]? = some s := hpre _ _ c2
        refine ⟨⟨hM.nd, hM.ids, hM.bd, ?_⟩, fun _ => ⟨n, rfl, ?_, ⟨s, c2, m6⟩, c1⟩⟩
        · intro i' c' b' n' hy
          simp only [putW] at hy ⊢
          by_cases e1 : ((i', c', b') : Int × Int × Bool) = ((n : Int), c, !b)
          · rw [if_pos e1] at hy
            simp only [Prod.mk.injEq] at e1
            obtain ⟨rfl, rfl, rfl⟩ := e1
            cases hy
            refine ⟨by omega, by show (findC c' M.1.cs).isSome = true; rw [m5]; exact c5, ⟨upd s c' b, by rw [Int.toNat_natCast]; exact m6, by rw [hhu]; simp, by rw [hbk]; exact hi2⟩, ?_⟩
            have e2 : ((i.toNat : Int), c', !!b) = (i, c', b) := by simp; omega
            rw [e2, if_neg hne, if_pos rfl]
            simp
          · rw [if_neg e1] at hy
            by_cases e2 : ((i', c', b') : Int × Int × Bool) = (i, c, b)
            · rw [if_pos e2] at hy
              simp only [Prod.mk.injEq] at e2
              obtain ⟨rfl, rfl, rfl⟩ := e2
              cases hy
              refine ⟨c1, by show (findC c' M.1.cs).isSome = true; rw [m5]; exact c5, ⟨s, hi2, c4, m6⟩, ?_⟩
              rw [if_pos rfl]
            · rw [if_neg e2] at hy
              obtain ⟨a1, a2, ⟨s', a3, a4, a5⟩, a6⟩ := h.wy i' c' b' n' hy
              refine ⟨a1, by show (findC c' M.1.cs).isSome = true; rw [m5]; exact a2, ⟨s', hpre _ _ a3, a4, hpre _ _ a5⟩, ?_⟩
              by_cases e3 : (((n' : Int), c', !b') : Int × Int × Bool) = ((n : Int), c, !b)
              · simp only [Prod.mk.injEq] at e3
                obtain ⟨f1, rfl, f3⟩ := e3
                obtain rfl : n' = n := by omega
                obtain rfl : b' = b := by cases b <;> cases b' <;> simp_all
                have hs' := hpre _ _ a5
                rw [m6] at hs'
                have hbd' := h.bd _ _ a3
                have hbk' := upd_back hbd'.1 hbd'.2 hid a4
                rw [← Option.some.inj hs', hbk] at hbk'
                subst hbk'
                have q1 := h.nd _ _ a3
                have q2 := h.nd _ _ c2
                rw [q1] at q2
                have := Option.some.inj q2
                exact absurd (show (i', c', b') = (i, c', b') by simp; omega) e2
              · rw [if_neg e3]
                by_cases e4 : (((n' : Int), c', !b') : Int × Int × Bool) = (i, c, b)
                · rw [e4] at a6; rw [hw] at a6; cases a6
                · rw [if_neg e4]; exact a6
        · show putW _ _ _ _ = _
          unfold putW
          rw [if_neg hne, if_pos rfl]
      · rw [stepG_err hck hw tb he]
        exact ⟨h, fun e => absurd e he⟩
  · rw [stepG_chk hck]
    exact ⟨h, fun e => absurd e hck⟩
theorem compsGo_ids : ∀ (cs : List Cmp) (last : Int) (seen : List (List UInt8)), 0 ≤ last → compsGo last seen cs = 0 → ∀ c ∈ cs, 1 ≤ c.id ∧ c.id ≤ 24
  | [], _, _, _, _, c, hc => by cases hc
  | x :: r, last, seen, hl, h, c, hc => by
    unfold compsGo at h
    split at h
    · simp at h
    · split at h
      · simp at h
      · split at h
        · contradiction
        · rcases List.mem_cons.1 hc with rfl | hc
          · omega
          · exact compsGo_ids r _ _ (by omega) h c hc
theorem inv_new {ver archs rows : Int} {cs : List Cmp} (h : newOk ver cs archs rows = true) : Inv (GS0 ver cs archs rows) := by
  refine ⟨fun i s hs => by simp [GS0, GS.sigs] at hs, fun c hc => ?_, fun i s hs => by simp [GS0, GS.sigs] at hs, fun i c b n hw => by simp [GS0] at hw⟩
  have hk : schemaCheck ver cs = 0 := by
    unfold newOk at h
    simp at h
    exact h.1.1.1.1
  unfold schemaCheck at hk
  split at hk
  · simp at hk
  · obtain ⟨x, hx⟩ := Option.isSome_iff_exists.1 hc
    have hm : x ∈ cs := List.mem_of_find?_eq_some hx
    have he := List.find?_some hx
    simp at he
    have := compsGo_ids cs 0 [] (by omega) hk x hm
    exact idB_true (by omega) (by omega)
end Go.Proofs.YtnhlnnehpmjeiaaGreatDoor
namespace Go.Proofs.YtnhlnnehpmjeiaaGreatDoor
open Go.RowKit
set_option linter.unusedVariables false
theorem pow_mask : ∀ n, n < 25 → 1 ≤ n → ((2 : Nat) ^ n &&& 4261412865) = 0 := by decide
theorem sIs_w {s : Nat} (hs : s < 4294967296) : sIs (s : Int) = (s &&& 4261412865 == 0) := by
  unfold sIs
  rw [show (33554430 : Int) = ((33554430 : Nat) : Int) from rfl, u32_andNot_nat _ _ hs (by omega)]
  show (((s &&& 4261412865 : Nat) : Int) == 0) = _
  by_cases h : s &&& 4261412865 = 0
  · rw [h]; rfl
  · rw [beq_false_of_ne h, beq_false_of_ne (by omega)]
theorem sIs_with {s c : Int} (h0 : 0 ≤ s) (h1 : s ≤ 4294967295) (hc : idB c = true) (h : sIs s = true) : sIs (sWith s c) = true := by
  obtain ⟨s, rfl⟩ := Int.eq_ofNat_of_zero_le h0
  obtain ⟨n, rfl, n1, n2⟩ := idNat hc
  have hs : s < 4294967296 := by omega
  have hp : 2 ^ n < 4294967296 := by
    have : 2 ^ n ≤ 2 ^ 24 := Nat.pow_le_pow_right (by omega) n2
    omega
  rw [withNat hs n1 n2, sIs_w (Nat.or_lt_two_pow (n := 32) hs hp)]
  rw [sIs_w hs] at h
  rw [Nat.and_or_distrib_right, pow_mask n (by omega) n1, Nat.or_zero]
  exact h
theorem sIs_fold (ids : List Int) (h : ids.all idB = true) : sIs (foldS ids) = true := by
  have : ∀ (l : List Int) (s : Int), l.all idB = true → 0 ≤ s → s ≤ 4294967295 → sIs s = true → sIs (l.foldl sWith s) = true := by
    intro l
    induction l with
    | nil => intro s _ _ _ hs; exact hs
    | cons x r ih =>
      intro s hl h0 h1 hs
      rw [List.all_cons, Bool.and_eq_true] at hl
      obtain ⟨a, b⟩ := withBd (n := x) h0 h1
      exact ih _ hl.2 a b (sIs_with h0 h1 hl.1 hs)
  exact this ids 0 h (by omega) (by omega) (by kernel_rfl)
theorem nd_len {l m : List Int} (hl : l.Nodup) (hm : m.Nodup) (h : ∀ x, x ∈ l ↔ x ∈ m) : l.length = m.length := (nd_perm hl hm h).length_eq
theorem cpsGo_seen (cs : List Cmp) : ∀ (ps seen : List PW), cpsGo cs seen ps = 0 → (ps.map (·.comp)).Nodup ∧ ∀ p ∈ ps, ∀ q ∈ seen, q.comp ≠ p.comp
  | [], _, _ => ⟨List.nodup_nil, fun p hp => by cases hp⟩
  | p :: r, seen, h => by
    unfold cpsGo at h
    split at h
    · cases h
    · rename_i h0
      split at h
      · rename_i h1; exact absurd h h1
      · obtain ⟨h2, h3⟩ := cpsGo_seen cs r _ h
        refine ⟨?_, fun x hx q hq => ?_⟩
        · rw [List.map_cons, List.nodup_cons]
          refine ⟨fun hm => ?_, h2⟩
          obtain ⟨x, hx, he⟩ := List.mem_map.1 hm
          exact h3 x hx p (by simp) he.symm
        · rcases List.mem_cons.1 hx with rfl | hx
          · intro he
            apply h0
            rw [List.any_eq_true]
            exact ⟨q, hq, by simpa using he⟩
          · exact h3 x hx q (List.mem_append_left _ hq)
theorem cpsGo_mk (cs : List Cmp) : ∀ (ps seen : List PW), (ps.map (·.comp)).Nodup → (∀ p ∈ ps, ∀ q ∈ seen, q.comp ≠ p.comp) → (∀ p ∈ ps, cpF cs p = 0) → cpsGo cs seen ps = 0
  | [], _, _, _, _ => by unfold cpsGo; rfl
  | p :: r, seen, h1, h2, h3 => by
    rw [List.map_cons, List.nodup_cons] at h1
    unfold cpsGo
    rw [if_neg, if_neg (by rw [h3 p (by simp)]; simp)]
    · refine cpsGo_mk cs r _ h1.2 (fun x hx q hq => ?_) (fun x hx => h3 x (by simp [hx]))
      rcases List.mem_append.1 hq with hq | hq
      · exact h2 x (by simp [hx]) q hq
      · obtain rfl : q = p := by simpa using hq
        intro he
        exact h1.1 (by rw [he]; exact List.mem_map_of_mem (f := (·.comp)) hx)
    · rw [List.any_eq_true]
      rintro ⟨q, hq, he⟩
      exact h2 p (by simp) q hq (by simpa using he)
/-- Parts that can be. -/
structure PartsOk (cs : List Cmp) (ps : List PW) : Prop where
  nd : (comps ps).Nodup
  fit : ∀ p ∈ ps, cpF cs p = 0
  ids : (comps ps).all idB = true
theorem cpF_find {cs : List Cmp} {p : PW} (h : cpF cs p = 0) : ∃ c, findC p.comp cs = some c ∧ fitF c.fields p.val = 0 := by
  unfold cpF at h
  cases hf : findC p.comp cs with
  | none => rw [hf] at h; cases h
  | some c => rw [hf] at h; exact ⟨c, rfl, h⟩
theorem PartsOk.of {ver : Int} {cs : List Cmp} {ps : List PW} (hs : schemaCheck ver cs = 0) (h : cpsGo cs [] ps = 0) : PartsOk cs ps := by
  have hfit := cpsGo_zero cs ps [] h
  refine ⟨(cpsGo_seen cs ps [] h).1, hfit, ?_⟩
  have hids : ∀ c ∈ cs, 1 ≤ c.id ∧ c.id ≤ 24 := by
    unfold schemaCheck at hs
    split at hs
    · cases hs
    · exact compsGo_ids cs 0 [] (by omega) hs
  rw [List.all_eq_true]
  intro x hx
  obtain ⟨p, hp, rfl⟩ := List.mem_map.1 hx
  obtain ⟨c, hc, _⟩ := cpF_find (hfit p hp)
  have h1 := hids c (findC_mem hc)
  have h2 := findC_id hc
  exact idB_true (by omega) (by omega)
section
variable {cs : List Cmp} {ps : List PW} (h : PartsOk cs ps)
include h
theorem PartsOk.mem (i : Int) : i ∈ idsTo (foldS (comps ps)) 24 ↔ i ∈ comps ps := by
  constructor
  · intro hi
    obtain ⟨h1, h2⟩ := idsTo_mem hi
    rw [has_fold h2 _ h.ids] at h1
    simpa using h1
  · intro hi
    have h2 : idB i = true := by have := h.ids; rw [List.all_eq_true] at this; exact this i hi
    obtain ⟨n, rfl, n1, n2⟩ := idNat h2
    unfold idsTo
    rw [List.mem_filter]
    refine ⟨List.mem_map.2 ⟨n - 1, List.mem_range.2 (by omega), by omega⟩, ?_⟩
    rw [has_fold h2 _ h.ids]
    simpa using hi
theorem PartsOk.parts : partsF ps = (foldS (comps ps), 0) := by
  unfold partsF
  rw [if_pos h.ids, if_pos]
  rw [nd_len (idsTo_nodup _ _) h.nd (fun x => h.mem x)]
  simp [comps]
theorem PartsOk.tableOk {ver most : Int} (hs : schemaCheck ver cs = 0) (m1 : 1 ≤ most) (m2 : most ≤ 256) : tableOk ver cs (foldS (comps ps)) most = true := by
  unfold Go.Proofs.YtnhlnnehpmjeiaaGreatDoor.tableOk
  rw [hs, sIs_fold _ h.ids]
  simp only [m1, m2, decide_true, Bool.and_true, beq_self_eq_true, Bool.true_and]
  rw [List.all_eq_true]
  intro i hi
  obtain ⟨p, hp, rfl⟩ := List.mem_map.1 ((h.mem i).1 hi)
  obtain ⟨c, hc, _⟩ := cpF_find (h.fit p hp)
  rw [hc]; rfl
end
theorem findC_like {cs tcs : List Cmp} {ids : List Int} (hl : ids.map (findC · cs) = tcs.map some) (hn : ids.Nodup) {i : Int} (hi : i ∈ ids) : findC i tcs = findC i cs := by
  induction ids generalizing tcs with
  | nil => cases hi
  | cons x r ih =>
    cases tcs with
    | nil => simp at hl
    | cons c rest =>
      rw [List.map_cons, List.map_cons] at hl
      obtain ⟨h1, h2⟩ := List.cons.inj hl
      rw [List.nodup_cons] at hn
      have hcid := findC_id h1
      by_cases e : i = x
      · subst e
        rw [h1]
        unfold findC
        rw [List.find?_cons]
        simp [hcid]
      · rw [← ih h2 hn.2 ((List.mem_cons.1 hi).resolve_left e)]
        unfold findC
        rw [List.find?_cons]
        have : ¬ c.id = i := fun e' => e (by rw [← e', hcid])
        simp [this]
/-- A row that can be may be added to the table of its set, if there is room. -/
theorem PartsOk.addErr {cs : List Cmp} {ps : List PW} (h : PartsOk cs ps) {t : TD} (hset : t.set = foldS (comps ps)) (hlike : (idsTo t.set 24).map (findC · cs) = t.cs.map some) {e : Int} (he : e ≠ 0) (hf : t.free ≠ 0) : addErr t e ps = 0 := by
  unfold Go.Proofs.YtnhlnnehpmjeiaaGreatDoor.addErr
  rw [if_neg he, h.parts, if_neg (by rw [hset]; simp)]
  have hc : cpsGo t.cs [] ps = 0 := by
    refine cpsGo_mk t.cs ps [] h.nd (fun _ _ q hq => by cases hq) fun p hp => ?_
    have hin : p.comp ∈ idsTo t.set 24 := by rw [hset, h.mem]; exact List.mem_map_of_mem (f := (·.comp)) hp
    have := h.fit p hp
    unfold cpF at *
    rw [findC_like hlike (idsTo_nodup _ _) hin]
    exact this
  rw [if_neg (by rw [hc]; simp), if_neg hf]
/-- The values of parts, by the rising components of a set. -/
def valsOf (ps : List PW) (set : Int) : List (List WI) := (idsTo set 24).map fun i => match partOf ps i with | some p => p.val | none => []
theorem addRow_vals {t : TD} (hids : t.cps.map (·.c.id) = idsTo t.set 24) (ps : List PW) : addRow ps t = valsOf ps t.set := by
  unfold addRow valsOf
  rw [← hids, List.map_map]
  rfl
theorem partOf_mem {ps : List PW} (hn : (comps ps).Nodup) {p : PW} (hp : p ∈ ps) : partOf ps p.comp = some p := by
  unfold partOf
  induction ps with
  | nil => cases hp
  | cons q r ih =>
    unfold comps at hn ih
    rw [List.map_cons, List.nodup_cons] at hn
    rw [List.find?_cons]
    rcases List.mem_cons.1 hp with rfl | hp
    · simp
    · have : ¬ q.comp = p.comp := fun e => hn.1 (by rw [e]; exact List.mem_map_of_mem (f := (·.comp)) hp)
      simp only [this, decide_false]
      exact ih hn.2 hp
theorem PartsOk.hfit {cs : List Cmp} {ps : List PW} (h : PartsOk cs ps) {B : Nat} {w : World} {t : TD} (ht : TabIn B w t) (hset : t.set = foldS (comps ps)) (hlike : (idsTo t.set 24).map (findC · cs) = t.cs.map some) (hwf : ∀ p ∈ ps, ∀ y ∈ p.val, y.wf) :
    ∀ x ∈ t.cps, ∃ p, partOf ps x.c.id = some p ∧ fitF x.c.fields p.val = 0 ∧ ∀ y ∈ p.val, y.wf := by
  intro x hx
  have hmem : x.c.id ∈ idsTo t.set 24 := by rw [← ht.ids]; exact List.mem_map_of_mem (f := (·.c.id)) hx
  have hin : x.c.id ∈ comps ps := by rw [← h.mem, ← hset]; exact hmem
  obtain ⟨p, hp, hpc⟩ := List.mem_map.1 hin
  refine ⟨p, by rw [← hpc]; exact partOf_mem h.nd hp, ?_, hwf p hp⟩
  obtain ⟨c, hc, hfit⟩ := cpF_find (h.fit p hp)
  have h1 := find_id (by rw [ht.ids]; exact idsTo_nodup _ _) hx
  have h2 := findC_like hlike (idsTo_nodup _ _) hmem
  unfold TD.cs at h2
  rw [h1, ← hpc, hc] at h2
  cases h2
  exact hfit
end Go.Proofs.YtnhlnnehpmjeiaaGreatDoor
namespace Go.Proofs.YtnhlnnehpmjeiaaGreatDoor
open Go.RowKit
set_option linter.unusedVariables false
theorem mask_in : ∀ i, i < 32 → (4261412865 : Nat).testBit i = !decide (1 ≤ i ∧ i ≤ 24) := by decide
theorem hasB_id {s n : Int} (h : hasB s n = true) : idB n = true := by
  unfold hasB at h
  rw [Bool.and_eq_true] at h
  exact h.1
/-- Sets that hold the same are the same. -/
theorem set_ext {s t : Int} (s0 : 0 ≤ s) (s1 : s ≤ 4294967295) (t0 : 0 ≤ t) (t1 : t ≤ 4294967295) (hs : sIs s = true) (ht : sIs t = true) (h : ∀ n, idB n = true → hasB s n = hasB t n) : s = t := by
  obtain ⟨x, rfl⟩ := Int.eq_ofNat_of_zero_le s0
  obtain ⟨y, rfl⟩ := Int.eq_ofNat_of_zero_le t0
  have hx : x < 4294967296 := by omega
  have hy : y < 4294967296 := by omega
  rw [sIs_w hx, beq_iff_eq] at hs
  rw [sIs_w hy, beq_iff_eq] at ht
  congr 1
  apply Nat.eq_of_testBit_eq
  intro i
  by_cases hi : i < 32
  · by_cases hid : 1 ≤ i ∧ i ≤ 24
    · have := h i (idB_true (by omega) (by omega))
      rw [hasBit hx hid.1 hid.2, hasBit hy hid.1 hid.2] at this
      exact this
    · have a : (x &&& 4261412865).testBit i = false := by rw [hs]; simp
      have b : (y &&& 4261412865).testBit i = false := by rw [ht]; simp
      rw [Nat.testBit_and, mask_in i hi] at a b
      simp only [hid, decide_false, Bool.not_false, Bool.and_true] at a b
      rw [a, b]
  · rw [bit_high hx (by omega), bit_high hy (by omega)]
theorem ids_all (s : Int) : (idsTo s 24).all idB = true := by
  rw [List.all_eq_true]
  intro x hx
  exact (idsTo_mem hx).2
theorem mem_ids {s n : Int} : n ∈ idsTo s 24 ↔ hasB s n = true := by
  constructor
  · exact fun h => (idsTo_mem h).1
  · intro h
    obtain ⟨k, rfl, n1, n2⟩ := idNat (hasB_id h)
    unfold idsTo
    rw [List.mem_filter]
    exact ⟨List.mem_map.2 ⟨k - 1, List.mem_range.2 (by omega), by omega⟩, h⟩
theorem fold_of {s : Int} (s0 : 0 ≤ s) (s1 : s ≤ 4294967295) (hs : sIs s = true) {ids : List Int} (ha : ids.all idB = true) (hm : ∀ n, idB n = true → (n ∈ ids ↔ hasB s n = true)) : foldS ids = s := by
  obtain ⟨a, b⟩ := foldS_bd ids
  refine set_ext a b s0 s1 (sIs_fold _ ha) hs fun n hn => ?_
  rw [has_fold hn _ ha]
  have := hm n hn
  cases hh : hasB s n with
  | true => rw [hh] at this; simpa using this
  | false => rw [hh] at this; simpa using this
/-- A component's value among parts. -/
def valAt (l : List (Int × List WI)) (i : Int) : List WI := match l.find? (fun p => decide (p.1 = i)) with | some p => p.2 | none => []
/-- A row's parts. -/
def cvOf (s : Int) (r : List (List WI)) : List (Int × List WI) := (idsTo s 24).zip r
/-- Parts as a set's row. -/
def rowOfC (l : List (Int × List WI)) (s : Int) : List (List WI) := (idsTo s 24).map (valAt l)
theorem valsOf_cv (ps : List PW) (s : Int) : valsOf ps s = rowOfC (cv ps) s := by
  unfold valsOf rowOfC
  apply List.map_congr_left
  intro i _
  unfold valAt partOf cv
  rw [List.find?_map]
  have : ((fun p : Int × List WI => decide (p.1 = i)) ∘ fun p : PW => (p.comp, p.val)) = fun c => decide (c.comp = i) := rfl
  rw [this]
  cases ps.find? (fun c => decide (c.comp = i)) <;> rfl
theorem valAt_zip {ids : List Int} (hn : ids.Nodup) : ∀ (r : List (List WI)), r.length = ids.length → ids.map (valAt (ids.zip r)) = r := by
  induction ids with
  | nil => intro r h; simp at h; subst h; rfl
  | cons x l ih =>
    intro r h
    cases r with
    | nil => simp at h
    | cons v m =>
      rw [List.nodup_cons] at hn
      rw [List.map_cons, List.zip_cons_cons]
      have h1 : valAt ((x, v) :: l.zip m) x = v := by simp [valAt]
      rw [h1]
      congr 1
      refine Eq.trans (List.map_congr_left fun i hi => ?_) (ih hn.2 m (by simpa using h))
      have hne : ¬ x = i := fun e => hn.1 (e ▸ hi)
      unfold valAt
      rw [List.find?_cons]
      simp only [hne, decide_false]
theorem row_back {s : Int} {r : List (List WI)} (h : r.length = (idsTo s 24).length) : rowOfC (cvOf s r) s = r := valAt_zip (idsTo_nodup _ _) r h
end Go.Proofs.YtnhlnnehpmjeiaaGreatDoor
namespace Go.Proofs.YtnhlnnehpmjeiaaGreatDoor
open Go.RowKit
set_option linter.unusedVariables false
/-- A world, told without its memory. -/
structure WS where
  caps : CapsD
  ver : Int
  cs : List Cmp
  ix : IX
  sets : List Int
  who : Int → Option Who
def WD.S (d : WD) : WS := ⟨d.caps, d.g.ver, d.g.cs, d.x.ix, d.g.sigs, d.P.who⟩
def updW (f : Int → Option Who) (e : Int) (x : Option Who) : Int → Option Who := fun y => if y = e then x else f y
theorem updW_same (f : Int → Option Who) (e : Int) (p : Option Who) : updW f e p e = p := if_pos rfl
theorem updW_ne {f : Int → Option Who} {e x : Int} {p : Option Who} (h : x ≠ e) : updW f e p x = f x := if_neg h
structure CapsOk (c : CapsD) : Prop where
  ents : 1 ≤ c.ents ∧ c.ents ≤ 256
  rows : 1 ≤ c.rows ∧ c.rows ≤ 256
  archs : 1 ≤ c.archs ∧ c.archs ≤ 64
  cmds : 0 ≤ c.cmds ∧ c.cmds ≤ 64
  fuel : 0 ≤ c.fuel ∧ c.fuel ≤ 4096
  gens : 1 ≤ c.gens ∧ c.gens ≤ 65535
/-- A world in which those of L have places. -/
structure WMid (w : World) (d : WD) (L : List Int) (N : Nat) : Prop where
  raw : WRaw w d L.length
  ok : d.P.Ok L
  inv : Inv d.g
  nw : d.g.nw ≤ N
  archs : d.g.archs = d.caps.archs
  rows : d.g.rows = d.caps.rows
  gens : d.x.ix.most = d.caps.gens
  ents : (d.x.ix.gens.length : Int) = d.caps.ents + 1
  sch : schemaCheck d.g.ver d.g.cs = 0
  caps : CapsOk d.caps
  lbd : L.length ≤ 257
/-- A world between two deeds. -/
def WIn (w : World) (d : WD) (N : Nat) : Prop := WMid w d d.x.ix.liveL N
section
variable {w w' : World} {d : WD} {L : List Int} {N : Nat}
theorem WMid.out {F : Nat → Prop} (h : WMid w d L N) (ho : Out F w w') (hF : ∀ b, d.foot b → ¬ F b) (hM : ∀ b, F b → Mut w b) : WMid w' d L N := { h with raw := h.raw.out ho hF hM }
theorem WMid.below (h : WMid w d L N) (hb : Below w.heap.size w w') : WMid w' d L N := { h with raw := h.raw.below hb }
theorem WIn.below (h : WIn w d N) (hb : Below w.heap.size w w') : WIn w' d N := WMid.below h hb
theorem WMid.mono {M : Nat} (h : WMid w d L N) (hm : N ≤ M) : WMid w d L M := { h with nw := Nat.le_trans h.nw hm }
theorem tabs_at {d : WD} {i : Nat} {t : TD} {v : List (List (List WI))} (ht : d.T[i]? = some t) (hv : d.V[i]? = some v) : d.P.tabs[i]? = some (PTof t v) := by
  show (List.zipWith PTof d.T d.V)[i]? = _
  rw [List.getElem?_zipWith, ht, hv]
theorem tabs_of {d : WD} {i : Nat} {u : PT} (h : d.P.tabs[i]? = some u) : ∃ t v, d.T[i]? = some t ∧ d.V[i]? = some v ∧ u = PTof t v := by
  have h : (List.zipWith PTof d.T d.V)[i]? = some u := h
  rw [List.getElem?_zipWith] at h
  cases ht : d.T[i]? with
  | none => rw [ht] at h; simp at h
  | some t =>
    cases hv : d.V[i]? with
    | none => rw [ht, hv] at h; simp at h
    | some v =>
      rw [ht, hv] at h
      exact ⟨t, v, rfl, rfl, by simpa using h.symm⟩
theorem zip_set {T : List TD} {V : List (List (List (List WI)))} (i : Nat) (t : TD) (v : List (List (List WI))) : List.zipWith PTof (T.set i t) (V.set i v) = (List.zipWith PTof T V).set i (PTof t v) := by
  apply List.ext_getElem?
  intro j
  rw [List.getElem?_zipWith, List.getElem?_set, List.getElem?_set, List.getElem?_set, List.getElem?_zipWith, List.length_zipWith]
  by_cases e : i = j
  · subst e
    rw [if_pos rfl, if_pos rfl, if_pos rfl]
    by_cases h1 : i < T.length <;> by_cases h2 : i < V.length <;> simp [h1, h2] <;> omega
  · rw [if_neg e, if_neg e, if_neg e]
theorem WMid.tabv (h : WMid w d L N) {i : Nat} {t : TD} (ht : d.T[i]? = some t) : ∃ v, d.V[i]? = some v ∧ Vals t v ∧ d.P.tabs[i]? = some (PTof t v) := by
  have hl := (List.getElem?_eq_some_iff.1 ht).1
  have hv : d.V[i]? = some (d.V[i]'(by rw [h.raw.vlen]; exact hl)) := List.getElem?_eq_getElem _
  exact ⟨_, hv, h.raw.vals i t _ ht hv, tabs_at ht hv⟩
theorem WMid.tlen (h : WMid w d L N) : d.P.tabs.length = d.T.length ∧ d.T.length = d.g.ts.length ∧ d.g.sigs.length = d.T.length := by
  refine ⟨?_, h.raw.tabs.len, ?_⟩
  · show (List.zipWith PTof d.T d.V).length = _
    rw [List.length_zipWith, h.raw.vlen, Nat.min_self]
  · rw [sigs_len, h.raw.tabs.len]
/-- Where somebody is. -/
theorem WMid.at (h : WMid w d L N) {e : Int} (he : e ∈ L) : ∃ p t v, d.pl e = some p ∧ d.T[p.tab]? = some t ∧ d.V[p.tab]? = some v ∧ Vals t v := by
  obtain ⟨p, u, hp, hu⟩ := h.ok.at he
  obtain ⟨t, v, ht, hv, _⟩ := tabs_of hu
  exact ⟨p, t, v, hp, ht, hv, h.raw.vals _ t v ht hv⟩
theorem WMid.sig_at (h : WMid w d L N) {i : Nat} {t : TD} (ht : d.T[i]? = some t) : d.g.sigs[i]? = some t.set := sigs_get (h.raw.tabs.at ht)
theorem WMid.pos (h : WMid w d L N) {i : Nat} {t : TD} (ht : d.T[i]? = some t) : posOf t.set d.g.sigs = some i := h.inv.nd i _ (h.sig_at ht)
theorem posOf_at : ∀ {l : List Int} {s : Int} {i : Nat}, posOf s l = some i → l[i]? = some s
  | [], _, _, h => by cases h
  | x :: r, s, i, h => by
    unfold posOf at h
    split at h
    · rename_i e
      cases h
      subst e; rfl
    · cases hp : posOf s r with
      | none => rw [hp] at h; cases h
      | some j =>
        rw [hp] at h
        cases h
        have := posOf_at hp
        simpa using this
theorem WMid.of_pos (h : WMid w d L N) {s : Int} {i : Nat} (hp : posOf s d.g.sigs = some i) : ∃ t, d.T[i]? = some t ∧ t.set = s := by
  have h1 := posOf_at hp
  have h2 := (List.getElem?_eq_some_iff.1 h1).1
  rw [h.tlen.2.2] at h2
  refine ⟨_, List.getElem?_eq_getElem h2, ?_⟩
  have h3 := h.sig_at (List.getElem?_eq_getElem h2)
  rw [h1] at h3
  exact (Option.some.inj h3).symm
theorem WMid.sets_eq (h : WMid w d L N) : d.P.tabs.map (·.set) = d.g.sigs := by
  apply List.ext_getElem?
  intro i
  rw [List.getElem?_map]
  rcases Nat.lt_or_ge i d.T.length with hl | hl
  · have ht : d.T[i]? = some d.T[i] := List.getElem?_eq_getElem hl
    obtain ⟨v, _, _, hp⟩ := h.tabv ht
    rw [hp, h.sig_at ht]; rfl
  · rw [List.getElem?_eq_none (by rw [h.tlen.1]; exact hl), List.getElem?_eq_none (by rw [h.tlen.2.2]; exact hl)]; rfl
end
/-- How many have just a set. -/
def WS.cnt (S : WS) (set : Int) : Nat := S.ix.liveL.countP fun e => match S.who e with | some x => decide (x.set = set) | none => false
def WS.openE (S : WS) (set : Int) : Int := match posOf set S.sets with
  | some _ => if S.caps.rows ≤ (S.cnt set : Int) then 5 else 0
  | none => if tableOk S.ver S.cs set S.caps.rows then (if S.caps.archs ≤ (S.sets.length : Int) then 5 else 0) else 6
def WS.openS (S : WS) (set : Int) : List Int := match posOf set S.sets with
  | some _ => S.sets
  | none => S.sets ++ [set]
section
variable {w : World} {d : WD} {L : List Int} {N : Nat}
theorem WMid.count (h : WMid w d L N) {i : Nat} {t : TD} (ht : d.T[i]? = some t) : L.countP (hasSet d.P t.set) = t.ents.length + t.kept := by
  obtain ⟨v, _, _, hp⟩ := h.tabv ht
  exact h.ok.count hp
theorem WIn.cnt (h : WIn w d N) {i : Nat} {t : TD} (ht : d.T[i]? = some t) : d.S.cnt t.set = t.ents.length + t.kept := WMid.count h ht
theorem WMid.like (h : WMid w d L N) {i : Nat} {t : TD} (ht : d.T[i]? = some t) : (t.most : Int) = d.caps.rows ∧ (idsTo t.set 24).map (findC · d.g.cs) = t.cs.map some := by
  obtain ⟨_, h2, h3⟩ := h.raw.tabs.like t (List.mem_of_getElem? ht)
  exact ⟨h2.trans h.rows, h3⟩
theorem WMid.tab (h : WMid w d L N) {i : Nat} {t : TD} (ht : d.T[i]? = some t) : TabIn 0 w t := h.raw.tabs.tab t (List.mem_of_getElem? ht)
theorem WMid.ptr (h : WMid w d L N) {i : Nat} {t : TD} (ht : d.T[i]? = some t) : tabPtr d.g i = some ⟨t.tb, 0, none⟩ := tabPtr_some (h.raw.tabs.at ht)
theorem WMid.bd (h : WMid w d L N) {i : Nat} {t : TD} (ht : d.T[i]? = some t) : 0 ≤ t.set ∧ t.set ≤ 4294967295 := ⟨(h.tab ht).set0, (h.tab ht).set1⟩
end
theorem alive_in {w : World} {d : WD} {N : Nat} (h : WIn w d N) {e : Int} (h0 : 0 ≤ e) : d.x.ix.alive e = true ↔ e ∈ d.x.ix.liveL := h.raw.ix.ok.alive_iff e h0
end Go.Proofs.YtnhlnnehpmjeiaaGreatDoor
