/- As D0, over K9: bits of a set; the ways of a graph lead there and back. · Plain: a heap of numbers: what a step down and a step up keep. · Plain: who lives: ids, their generations. -/
import Derived.Test.YtgebbmfoamkfnaaGreatDoorP18
import Derived.Laws.BitsAllLaws
import Derived.Test.YtgebbmfoamkfnaaGreatDoorRows
namespace Go.Proofs.YtgebbmfoamkfnaaGreatDoor
open Go.RowKit
set_option linter.unusedVariables false
theorem hasB_bit {s n : Nat} (hs : s < 4294967296) (h1 : 1 ≤ n) (h2 : n ≤ 24) : hasB (s : Int) (n : Int) = s.testBit n := by
  have hd : s / 2 ^ n < 4294967296 := by
    have := Nat.div_le_self s (2 ^ n)
    omega
  unfold hasB
  rw [idB_true (by omega) (by omega), Bool.true_and, Int.toNat_natCast]
  have e : ((s : Int) / 2 ^ n) = ((s / 2 ^ n : Nat) : Int) := by simp
  rw [e, show (1 : Int) = ((1 : Nat) : Int) from rfl, u32_and_nat _ _ hd (by omega)]
  rw [Nat.testBit_eq_decide_div_mod_eq, Nat.and_one_is_mod]
  by_cases hh : s / 2 ^ n % 2 = 1
  · rw [hh]; simp
  · simp [hh]; omega
theorem pow_small {n : Nat} (h2 : n ≤ 24) : 2 ^ n < 4294967296 := by
  have : 2 ^ n ≤ 2 ^ 24 := Nat.pow_le_pow_right (by omega) h2
  omega
theorem sWith_nat {s n : Nat} (hs : s < 4294967296) (h1 : 1 ≤ n) (h2 : n ≤ 24) : sWith (s : Int) (n : Int) = ((s ||| 2 ^ n : Nat) : Int) := by
  have hp := pow_small h2
  unfold sWith
  rw [idB_true (by omega) (by omega), Int.toNat_natCast]
  have e : ((2 : Int) ^ n % 4294967296) = ((2 ^ n : Nat) : Int) := by
    have : ((2 : Int) ^ n) = ((2 ^ n : Nat) : Int) := by simp
    have hq : ((2 ^ n : Nat) : Int) < 4294967296 := by have := Int.ofNat_lt.2 hp; exact this
    rw [this]; exact Int.emod_eq_of_lt (Int.natCast_nonneg _) hq
  rw [e]
  simp only [if_true]
  exact u32_or_nat _ _ hs hp
theorem sWithout_nat {s n : Nat} (hs : s < 4294967296) (h1 : 1 ≤ n) (h2 : n ≤ 24) : sWithout (s : Int) (n : Int) = ((s &&& (4294967295 - 2 ^ n) : Nat) : Int) := by
  have hp := pow_small h2
  unfold sWithout
  rw [idB_true (by omega) (by omega), Int.toNat_natCast]
  have e : ((2 : Int) ^ n % 4294967296) = ((2 ^ n : Nat) : Int) := by
    have : ((2 : Int) ^ n) = ((2 ^ n : Nat) : Int) := by simp
    have hq : ((2 ^ n : Nat) : Int) < 4294967296 := by have := Int.ofNat_lt.2 hp; exact this
    rw [this]; exact Int.emod_eq_of_lt (Int.natCast_nonneg _) hq
  rw [e]
  simp only [if_true]
  exact u32_andNot_nat _ _ hs hp
theorem bit_or {s n : Nat} : (s ||| 2 ^ n).testBit n = true := by simp [Nat.testBit_or]
theorem bit_not (n i : Nat) (h2 : n ≤ 24) : (4294967295 - 2 ^ n).testBit i = (decide (i < 32) && !decide (n = i)) := by
  have := Nat.testBit_two_pow_sub_succ (x := 2 ^ n) (n := 32) (pow_small h2) i
  rw [show 2 ^ 32 - (2 ^ n + 1) = 4294967295 - 2 ^ n by omega] at this
  rw [this, Nat.testBit_two_pow]
theorem bit_high {s i : Nat} (hs : s < 4294967296) (hi : 32 ≤ i) : s.testBit i = false :=
  Nat.testBit_lt_two_pow (Nat.lt_of_lt_of_le hs (by have := Nat.pow_le_pow_right (n := 2) (by omega) hi; omega))
/-- The set with the component, or without it. -/
def upd (s c : Int) (b : Bool) : Int := if b then sWith s c else sWithout s c
theorem upd_bd {s c : Int} {b : Bool} (h0 : 0 ≤ s) (h1 : s ≤ 4294967295) : 0 ≤ upd s c b ∧ upd s c b ≤ 4294967295 := by
  unfold upd; split
  · exact sWith_bd h0 h1
  · exact sWithout_bd h0 h1
theorem id_nat {c : Int} (h : idB c = true) : ∃ n : Nat, c = n ∧ 1 ≤ n ∧ n ≤ 24 := by
  simp [idB] at h
  exact ⟨c.toNat, by omega, by omega, by omega⟩
theorem hasB_upd {s c : Int} (b : Bool) (h0 : 0 ≤ s) (h1 : s ≤ 4294967295) (hc : idB c = true) : hasB (upd s c b) c = b := by
  obtain ⟨n, rfl, g1, g2⟩ := id_nat hc
  obtain ⟨s, rfl⟩ := Int.eq_ofNat_of_zero_le h0
  have hs : s < 4294967296 := by omega
  have hp := pow_small g2
  cases b
  · simp only [upd, Bool.false_eq_true, if_false]
    rw [sWithout_nat hs g1 g2, hasB_bit (Nat.lt_of_le_of_lt Nat.and_le_left hs) g1 g2, Nat.testBit_and, bit_not n n g2]
    simp
  · simp only [upd, if_true]
    rw [sWith_nat hs g1 g2, hasB_bit (by have := Nat.or_lt_two_pow (n := 32) hs hp; omega) g1 g2]
    exact bit_or
theorem upd_back {s c : Int} {b : Bool} (h0 : 0 ≤ s) (h1 : s ≤ 4294967295) (hc : idB c = true) (hh : hasB s c = !b) : upd (upd s c b) c (!b) = s := by
  obtain ⟨n, rfl, g1, g2⟩ := id_nat hc
  obtain ⟨s, rfl⟩ := Int.eq_ofNat_of_zero_le h0
  have hs : s < 4294967296 := by omega
  have hp := pow_small g2
  rw [hasB_bit hs g1 g2] at hh
  cases b
  · simp only [upd, Bool.false_eq_true, if_false, Bool.not_false, if_true]
    rw [sWithout_nat hs g1 g2, sWith_nat (Nat.lt_of_le_of_lt Nat.and_le_left hs) g1 g2]
    congr 1
    apply Nat.eq_of_testBit_eq
    intro i
    rw [Nat.testBit_or, Nat.testBit_and, bit_not n i g2, Nat.testBit_two_pow]
    by_cases e : n = i
    · subst e; simp [hh]
    · by_cases hi : i < 32
      · simp [e, hi]
      · have hbh := bit_high hs (Nat.le_of_not_lt hi)
        simp [e, hi, hbh]
  · simp only [upd, Bool.not_true, Bool.false_eq_true, if_false, if_true]
    rw [sWith_nat hs g1 g2, sWithout_nat (by have := Nat.or_lt_two_pow (n := 32) hs hp; omega) g1 g2]
    congr 1
    apply Nat.eq_of_testBit_eq
    intro i
    rw [Nat.testBit_and, Nat.testBit_or, bit_not n i g2, Nat.testBit_two_pow]
    by_cases e : n = i
    · subst e; simp [hh]
    · by_cases hi : i < 32
      · simp [e, hi]
      · have hbh := bit_high hs (Nat.le_of_not_lt hi)
        simp [e, hi, hbh]
theorem upd_set {s c : Int} {b : Bool} (h0 : 0 ≤ s) (h1 : s ≤ 4294967295) (hc : idB c = true) (hh : hasB s c = !b) : (if b then sWith (sWithout s c) c else sWithout s c) = upd s c b := by
  cases b
  · rfl
  · simp only [if_true, upd]
    have hw : sWithout s c = s := by
      obtain ⟨n, rfl, g1, g2⟩ := id_nat hc
      obtain ⟨s, rfl⟩ := Int.eq_ofNat_of_zero_le h0
      have hs : s < 4294967296 := by omega
      rw [hasB_bit hs g1 g2] at hh
      rw [sWithout_nat hs g1 g2]
      congr 1
      apply Nat.eq_of_testBit_eq
      intro i
      rw [Nat.testBit_and, bit_not n i g2]
      by_cases e : n = i
      · subst e; simp [hh]
      · by_cases hi : i < 32
        · simp [e, hi]
        · have hbh := bit_high hs (Nat.le_of_not_lt hi)
          simp [e, hi, hbh]
    rw [hw]
/-- What holds of a graph behind every deed. -/
structure Inv (g : GS) : Prop where
  nd : ∀ (i : Nat) (s : Int), g.sigs[i]? = some s → posOf s g.sigs = some i
  ids : ∀ c, (findC c g.cs).isSome = true → idB c = true
  bd : ∀ (i : Nat) (s : Int), g.sigs[i]? = some s → 0 ≤ s ∧ s ≤ 4294967295
  wy : ∀ (i c : Int) (b : Bool) (n : Nat), g.ways (i, c, b) = some n → 0 ≤ i ∧ (findC c g.cs).isSome = true ∧ (∃ s, g.sigs[i.toNat]? = some s ∧ hasB s c = (!b) ∧ g.sigs[n]? = some (upd s c b)) ∧ g.ways (n, c, !b) = some i.toNat
theorem sigs_len (g : GS) : g.sigs.length = g.ts.length := by simp [GS.sigs]
theorem Inv.made {g : GS} (h : Inv g) {set : Int} (h0 : 0 ≤ set) (h1 : set ≤ 4294967295) (tb : Nat) : Inv (makeG g set tb).1 ∧ ∀ (i : Nat) (s : Int), g.sigs[i]? = some s → (makeG g set tb).1.sigs[i]? = some s := by
  cases hp : posOf set g.sigs with
  | some i => rw [makeG_has hp]; exact ⟨h, fun _ _ h => h⟩
  | none =>
    by_cases hk : tableOk g.ver g.cs set g.rows = true
    · by_cases hf : g.archs = g.ts.length
      · rw [makeG_full hp hk hf]; exact ⟨h, fun _ _ h => h⟩
      · rw [makeG_new hp hk hf]
        have hs : ({ g with ts := g.ts ++ [(tb, set)] } : GS).sigs = g.sigs ++ [set] := by simp [GS.sigs]
        have pre : ∀ (i : Nat) (s : Int), g.sigs[i]? = some s → (g.sigs ++ [set])[i]? = some s := by
          intro i s hi
          rw [List.getElem?_append_left (List.getElem?_eq_some_iff.1 hi).1]; exact hi
        have cas : ∀ (i : Nat) (s : Int), (g.sigs ++ [set])[i]? = some s → g.sigs[i]? = some s ∨ (i = g.sigs.length ∧ s = set) := by
          intro i s hi
          by_cases hl : i < g.sigs.length
          · rw [List.getElem?_append_left hl] at hi; exact .inl hi
          · have := (List.getElem?_eq_some_iff.1 hi).1
            simp at this
            obtain rfl : i = g.sigs.length := by omega
            simp at hi
            exact .inr ⟨rfl, hi.symm⟩
        refine ⟨⟨?_, h.ids, ?_, ?_⟩, ?_⟩
        · intro i s hi
          rw [hs] at hi ⊢
          rw [posOf_snoc]
          rcases cas i s hi with h2 | ⟨rfl, rfl⟩
          · rw [h.nd i s h2]
          · rw [hp]; simp
        · intro i s hi
          rw [hs] at hi
          rcases cas i s hi with h2 | ⟨rfl, rfl⟩
          · exact h.bd i s h2
          · exact ⟨h0, h1⟩
        · intro i c b n hw
          obtain ⟨a1, a2, ⟨s, a3, a4, a5⟩, a6⟩ := h.wy i c b n hw
          exact ⟨a1, a2, ⟨s, by rw [hs]; exact pre _ _ a3, a4, by rw [hs]; exact pre _ _ a5⟩, a6⟩
        · intro i s hi
          show ({ g with ts := g.ts ++ [(tb, set)] } : GS).sigs[i]? = some s
          rw [hs]; exact pre i s hi
    · rw [makeG_no hp (by simpa using hk)]; exact ⟨h, fun _ _ h => h⟩
theorem chk_ok {g : GS} {i c : Int} {b : Bool} (h : chkF g i c b = 0) : 0 ≤ i ∧ (∃ s, g.sigs[i.toNat]? = some s ∧ g.sigs.getD i.toNat 0 = s ∧ hasB s c = !b) ∧ (findC c g.cs).isSome = true := by
  unfold chkF at h
  split at h
  · simp at h
  · rename_i h1
    split at h
    · simp at h
    · rename_i h2
      split at h
      · simp at h
      · rename_i h3
        have hl : i.toNat < g.sigs.length := by rw [sigs_len]; omega
        refine ⟨by omega, ⟨g.sigs[i.toNat], List.getElem?_eq_getElem hl, by simp [List.getD, List.getElem?_eq_getElem hl], ?_⟩, by cases hf : (findC c g.cs).isSome <;> simp_all⟩
        simp [List.getD, List.getElem?_eq_getElem hl] at h3
        cases b <;> simp_all
/-- What a step with no error brings. -/
structure Gone (g g' : GS) (i c : Int) (b : Bool) (n : Nat) : Prop where
  known : g'.ways (i, c, b) = some n
  frm : ∃ s, g.sigs[i.toNat]? = some s ∧ g'.sigs[n]? = some (upd s c b)
  lo : 0 ≤ i
theorem Inv.step {g : GS} (h : Inv g) (i c : Int) (b : Bool) (tb : Nat) :
    Inv (stepG g i c b tb).1 ∧ ((stepG g i c b tb).2.2 = 0 → ∃ n : Nat, (stepG g i c b tb).2.1 = n ∧ Gone g (stepG g i c b tb).1 i c b n) := by
  by_cases hck : chkF g i c b = 0
  · obtain ⟨c1, ⟨s, c2, c3, c4⟩, c5⟩ := chk_ok hck
    have hid := h.ids c c5
    have hsb := h.bd _ _ c2
    cases hw : g.ways (i, c, b) with
    | some n =>
      rw [stepG_has hck hw]
      refine ⟨h, fun _ => ⟨n, rfl, hw, ?_, c1⟩⟩
      obtain ⟨a1, a2, ⟨s', a3, a4, a5⟩, a6⟩ := h.wy i c b n hw
      exact ⟨s', a3, a5⟩
    | none =>
      have hset : stepSet g i c b = upd s c b := by
        unfold stepSet; rw [c3]; exact upd_set hsb.1 hsb.2 hid c4
      have hub := upd_bd (c := c) (b := b) hsb.1 hsb.2
      by_cases he : (makeG g (stepSet g i c b) tb).2.2 = 0
      · rw [stepG_new hck hw tb he]
        obtain ⟨n, m1, m2, m3, m4, m5, m6, m7⟩ := makeG_ok he
        rw [hset] at m1 m2 m3 m4 m5 m6 m7 ⊢
        obtain ⟨hM, hpre⟩ := h.made hub.1 hub.2 tb
        generalize makeG g (upd s c b) tb = M at m1 m2 m3 m4 m5 m6 m7 hM hpre ⊢
        rw [m1]
        simp only [Int.toNat_natCast]
        have hhu := hasB_upd b hsb.1 hsb.2 hid
        have hbk := upd_back hsb.1 hsb.2 hid c4
        have hne : ((i, c, b) : Int × Int × Bool) ≠ ((n : Int), c, !b) := by
          intro e
          simp at e
        have hi2 : M.1.sigs[i.toNat]? = some s := hpre _ _ c2
        refine ⟨⟨hM.nd, hM.ids, hM.bd, ?_⟩, fun _ => ⟨n, rfl, ?_, ⟨s, c2, m6⟩, c1⟩⟩
        · intro i' c' b' n' hy
          simp only [putW] at hy ⊢
          by_cases e1 : ((i', c', b') : Int × Int × Bool) = ((n : Int), c, !b)
          · rw [if_pos e1] at hy
            simp only [Prod.mk.injEq] at e1
            obtain ⟨rfl, rfl, rfl⟩ := e1
            cases hy
            refine ⟨by omega, by show (findC c' M.1.cs).isSome = true; rw [m5]; exact c5, ⟨upd s c' b, by rw [Int.toNat_natCast]; exact m6, by rw [hhu]; simp, by rw [hbk]; exact hi2⟩, ?_⟩
            have e2 : ((i.toNat : Int), c', !!b) = (i, c', b) := by simp; omega
            rw [e2, if_neg hne, if_pos rfl]
            simp
          · rw [if_neg e1] at hy
            by_cases e2 : ((i', c', b') : Int × Int × Bool) = (i, c, b)
            · rw [if_pos e2] at hy
              simp only [Prod.mk.injEq] at e2
              obtain ⟨rfl, rfl, rfl⟩ := e2
              cases hy
              refine ⟨c1, by show (findC c' M.1.cs).isSome = true; rw [m5]; exact c5, ⟨s, hi2, c4, m6⟩, ?_⟩
              rw [if_pos rfl]
            · rw [if_neg e2] at hy
              obtain ⟨a1, a2, ⟨s', a3, a4, a5⟩, a6⟩ := h.wy i' c' b' n' hy
              refine ⟨a1, by show (findC c' M.1.cs).isSome = true; rw [m5]; exact a2, ⟨s', hpre _ _ a3, a4, hpre _ _ a5⟩, ?_⟩
              by_cases e3 : (((n' : Int), c', !b') : Int × Int × Bool) = ((n : Int), c, !b)
              · simp only [Prod.mk.injEq] at e3
                obtain ⟨f1, rfl, f3⟩ := e3
                obtain rfl : n' = n := by omega
                obtain rfl : b' = b := by cases b <;> cases b' <;> simp_all
                have hs' := hpre _ _ a5
                rw [m6] at hs'
                have hbd' := h.bd _ _ a3
                have hbk' := upd_back hbd'.1 hbd'.2 hid a4
                rw [← Option.some.inj hs', hbk] at hbk'
                subst hbk'
                have q1 := h.nd _ _ a3
                have q2 := h.nd _ _ c2
                rw [q1] at q2
                have := Option.some.inj q2
                exact absurd (show (i', c', b') = (i, c', b') by simp; omega) e2
              · rw [if_neg e3]
                by_cases e4 : (((n' : Int), c', !b') : Int × Int × Bool) = (i, c, b)
                · rw [e4] at a6; rw [hw] at a6; cases a6
                · rw [if_neg e4]; exact a6
        · show putW _ _ _ _ = _
          unfold putW
          rw [if_neg hne, if_pos rfl]
      · rw [stepG_err hck hw tb he]
        exact ⟨h, fun e => absurd e he⟩
  · rw [stepG_chk hck]
    exact ⟨h, fun e => absurd e hck⟩
theorem compsGo_ids : ∀ (cs : List Cmp) (last : Int) (seen : List (List UInt8)), 0 ≤ last → compsGo last seen cs = 0 → ∀ c ∈ cs, 1 ≤ c.id ∧ c.id ≤ 24
  | [], _, _, _, _, c, hc => by cases hc
  | x :: r, last, seen, hl, h, c, hc => by
    unfold compsGo at h
    split at h
    · simp at h
    · split at h
      · simp at h
      · split at h
        · contradiction
        · rcases List.mem_cons.1 hc with rfl | hc
          · omega
          · exact compsGo_ids r _ _ (by omega) h c hc
theorem inv_new {ver archs rows : Int} {cs : List Cmp} (h : newOk ver cs archs rows = true) : Inv (GS0 ver cs archs rows) := by
  refine ⟨fun i s hs => by simp [GS0, GS.sigs] at hs, fun c hc => ?_, fun i s hs => by simp [GS0, GS.sigs] at hs, fun i c b n hw => by simp [GS0] at hw⟩
  have hk : schemaCheck ver cs = 0 := by
    unfold newOk at h
    simp at h
    exact h.1.1.1.1
  unfold schemaCheck at hk
  split at hk
  · simp at hk
  · obtain ⟨x, hx⟩ := Option.isSome_iff_exists.1 hc
    have hm : x ∈ cs := List.mem_of_find?_eq_some hx
    have he := List.find?_some hx
    simp at he
    have := compsGo_ids cs 0 [] (by omega) hk x hm
    exact idB_true (by omega) (by omega)
end Go.Proofs.YtgebbmfoamkfnaaGreatDoor
namespace Go.Proofs.YtgebbmfoamkfnaaGreatDoor
set_option linter.unusedVariables false
/-- The k-th number; 0 behind the end. -/
def at0 (l : List Int) (k : Nat) : Int := l.getD k 0
theorem at0_some {l : List Int} {k : Nat} {x : Int} (h : l[k]? = some x) : at0 l k = x := by
  unfold at0; rw [List.getD_eq_getElem?_getD, h]; rfl
theorem at0_get {l : List Int} {k : Nat} (h : k < l.length) : l[k]? = some (at0 l k) := by
  unfold at0; rw [List.getD_eq_getElem?_getD, List.getElem?_eq_getElem h]; rfl
/-- Two places are swapped. -/
def swapL (l : List Int) (i j : Nat) : List Int := (l.set i (at0 l j)).set j (at0 l i)
theorem swapL_len (l : List Int) (i j : Nat) : (swapL l i j).length = l.length := by unfold swapL; simp
theorem swapL_at {l : List Int} {i j : Nat} (hi : i < l.length) (hj : j < l.length) (k : Nat) : at0 (swapL l i j) k = if k = j then at0 l i else if k = i then at0 l j else at0 l k := by
  unfold swapL at0
  simp only [List.getD_eq_getElem?_getD, List.getElem?_set, List.length_set]
  by_cases h1 : k = j
  · subst h1; simp [hj]
  · rw [if_neg (fun e => h1 e.symm), if_neg h1]
    by_cases h2 : k = i
    · subst h2; simp [hi]
    · rw [if_neg (fun e => h2 e.symm), if_neg h2]
theorem swapL_perm {l : List Int} {i j : Nat} (hi : i < l.length) (hj : j < l.length) : (swapL l i j).Perm l := by
  unfold swapL
  have h1 : at0 l j = l[j] := by unfold at0; rw [List.getD_eq_getElem?_getD, List.getElem?_eq_getElem hj]; rfl
  have h2 : at0 l i = l[i] := by unfold at0; rw [List.getD_eq_getElem?_getD, List.getElem?_eq_getElem hi]; rfl
  rw [h1, h2]
  exact List.set_set_perm hi hj
/-- The first n numbers are a heap. -/
def HeapN (l : List Int) (n : Nat) : Prop := ∀ k, 1 ≤ k → k < n → at0 l ((k - 1) / 2) ≤ at0 l k
/-- .. but for the children of i. -/
structure DownN (l : List Int) (n i : Nat) : Prop where
  rest : ∀ k, 1 ≤ k → k < n → (k - 1) / 2 ≠ i → at0 l ((k - 1) / 2) ≤ at0 l k
  over : ∀ k, 1 ≤ k → k < n → (k - 1) / 2 = i → 1 ≤ i → at0 l ((i - 1) / 2) ≤ at0 l k
/-- .. but for j itself. -/
structure UpN (l : List Int) (n j : Nat) : Prop where
  rest : ∀ k, 1 ≤ k → k < n → k ≠ j → at0 l ((k - 1) / 2) ≤ at0 l k
  over : ∀ k, 1 ≤ k → k < n → (k - 1) / 2 = j → 1 ≤ j → at0 l ((j - 1) / 2) ≤ at0 l k
theorem HeapN.down {l : List Int} {n : Nat} (h : HeapN l n) (i : Nat) : DownN l n i :=
  ⟨fun k h1 h2 _ => h k h1 h2, fun k h1 h2 h3 h4 => by
    have a := h k h1 h2
    rw [h3] at a
    have b := h i h4 (by omega)
    omega⟩
/-- No child. -/
theorem DownN.leaf {l : List Int} {n i : Nat} (h : DownN l n i) (hi : n ≤ 2 * i + 1) : HeapN l n := fun k h1 h2 => h.rest k h1 h2 (by omega)
/-- The least child is not less. -/
theorem DownN.stop {l : List Int} {n i j : Nat} (h : DownN l n i) (hj : at0 l i ≤ at0 l j) (hm : ∀ k, 1 ≤ k → k < n → (k - 1) / 2 = i → at0 l j ≤ at0 l k) : HeapN l n := fun k h1 h2 => by
  by_cases e : (k - 1) / 2 = i
  · rw [e]; have := hm k h1 h2 e; omega
  · exact h.rest k h1 h2 e
/-- The least child is less: both change places. -/
theorem DownN.step {l : List Int} {n i j : Nat} (h : DownN l n i) (hn : n ≤ l.length) (hj1 : 1 ≤ j) (hjn : j < n) (hji : (j - 1) / 2 = i) (hlt : at0 l j < at0 l i) (hm : ∀ k, 1 ≤ k → k < n → (k - 1) / 2 = i → at0 l j ≤ at0 l k) : DownN (swapL l i j) n j := by
  have hi : i < l.length := by omega
  have hjl : j < l.length := by omega
  have hij : i ≠ j := by omega
  refine ⟨fun k h1 h2 h3 => ?_, fun k h1 h2 h3 h4 => ?_⟩
  · rw [swapL_at hi hjl, swapL_at hi hjl, if_neg h3]
    by_cases e1 : (k - 1) / 2 = i
    · rw [if_pos e1]
      by_cases e2 : k = j
      · rw [if_pos e2]; omega
      · rw [if_neg e2, if_neg (by omega)]
        exact hm k h1 h2 e1
    · rw [if_neg e1, if_neg (by intro e; subst e; exact e1 hji)]
      by_cases e2 : k = i
      · subst e2
        rw [if_pos rfl]
        exact h.over j hj1 hjn hji h1
      · rw [if_neg e2]
        exact h.rest k h1 h2 e1
  · rw [swapL_at hi hjl, swapL_at hi hjl, hji, if_neg hij, if_pos rfl, if_neg (by omega), if_neg (by omega)]
    have := h.rest k h1 h2 (by omega)
    rw [h3] at this
    exact this
theorem UpN.stop {l : List Int} {n j : Nat} (h : UpN l n j) (hj : j = 0 ∨ at0 l ((j - 1) / 2) ≤ at0 l j) : HeapN l n := fun k h1 h2 => by
  by_cases e : k = j
  · subst e
    rcases hj with hj | hj
    · omega
    · exact hj
  · exact h.rest k h1 h2 e
theorem UpN.step {l : List Int} {n i j : Nat} (h : UpN l n j) (hn : n ≤ l.length) (hj1 : 1 ≤ j) (hjn : j < n) (hij : i = (j - 1) / 2) (hlt : at0 l j < at0 l i) : UpN (swapL l i j) n i := by
  subst hij
  have hi : (j - 1) / 2 < l.length := by omega
  have hjl : j < l.length := by omega
  refine ⟨fun k h1 h2 h3 => ?_, fun k h1 h2 h3 h4 => ?_⟩
  · rw [swapL_at hi hjl, swapL_at hi hjl]
    by_cases e2 : k = j
    · subst e2
      rw [if_pos rfl, if_neg (by omega), if_pos rfl]; omega
    · rw [if_neg e2, if_neg h3]
      by_cases e1 : (k - 1) / 2 = j
      · rw [if_pos e1]
        exact h.over k h1 h2 e1 hj1
      · rw [if_neg e1]
        by_cases e3 : (k - 1) / 2 = (j - 1) / 2
        · rw [if_pos e3]
          have := h.rest k h1 h2 e2
          rw [e3] at this
          omega
        · rw [if_neg e3]; exact h.rest k h1 h2 e2
  · rw [swapL_at hi hjl, swapL_at hi hjl, if_neg (by omega), if_neg (by omega)]
    have hp := h.rest ((j - 1) / 2) h4 (by omega) (by omega)
    by_cases e : k = j
    · rw [if_pos e]; exact hp
    · rw [if_neg e, if_neg (by omega)]
      have := h.rest k h1 h2 e
      rw [h3] at this
      omega
theorem HeapN.least {l : List Int} {n : Nat} (h : HeapN l n) : ∀ k, k < n → at0 l 0 ≤ at0 l k := by
  intro k
  induction k using Nat.strongRecOn with
  | _ k ih =>
    intro hk
    rcases Nat.eq_zero_or_pos k with rfl | h0
    · exact Int.le_refl _
    · have a := ih ((k - 1) / 2) (by omega) (by omega)
      have b := h k h0 hk
      omega
theorem HeapN.of_take {l : List Int} {n m : Nat} (h : HeapN l n) (hm : m ≤ n) : HeapN (l.take m) m := fun k h1 h2 => by
  have := h k h1 (by omega)
  unfold at0 at *
  rw [List.getD_eq_getElem?_getD, List.getD_eq_getElem?_getD] at *
  rw [List.getElem?_take_of_lt (by omega), List.getElem?_take_of_lt h2]
  exact this
theorem HeapN.snoc {l : List Int} (h : HeapN l l.length) (x : Int) : UpN (l ++ [x]) (l.length + 1) l.length := by
  have e : ∀ k, k < l.length → at0 (l ++ [x]) k = at0 l k := fun k hk => by
    unfold at0
    rw [List.getD_eq_getElem?_getD, List.getD_eq_getElem?_getD, List.getElem?_append_left hk]
  exact ⟨fun k h1 h2 h3 => by rw [e _ (by omega), e _ (by omega)]; exact h k h1 (by omega), fun k h1 h2 h3 h4 => by omega⟩
/-- After the ends have changed places, all but the last are a heap but for the first one's children. -/
theorem HeapN.swapped {l : List Int} {m : Nat} (h : HeapN l (m + 1)) (hl : l.length = m + 1) : DownN (swapL l 0 m) m 0 := by
  refine ⟨fun k h1 h2 h3 => ?_, fun k h1 h2 h3 h4 => by omega⟩
  rw [swapL_at (by omega) (by omega), swapL_at (by omega) (by omega), if_neg (by omega), if_neg h3, if_neg (by omega), if_neg (by omega)]
  exact h k h1 (by omega)
end Go.Proofs.YtgebbmfoamkfnaaGreatDoor
namespace Go.Proofs.YtgebbmfoamkfnaaGreatDoor
set_option linter.unusedVariables false
/-- The handle of an id and a generation. -/
def hOf (id gen : Int) : Int := gen * 4294967296 + id
theorem hOf_id {id gen : Int} (h0 : 0 ≤ id) (h1 : id < 4294967296) : hOf id gen % 4294967296 = id := by unfold hOf; omega
theorem hOf_gen {id gen : Int} (h0 : 0 ≤ id) (h1 : id < 4294967296) : hOf id gen / 4294967296 = gen := by unfold hOf; omega
theorem hOf_back {e : Int} : hOf (e % 4294967296) (e / 4294967296) = e := by unfold hOf; omega
structure IX where
  most : Int
  gens : List Int
  lives : List Bool
def IX.gen (x : IX) (id : Nat) : Int := x.gens.getD id 0
def IX.live (x : IX) (id : Nat) : Bool := x.lives.getD id false
structure IX.Ok (x : IX) : Prop where
  len : x.lives.length = x.gens.length
  n1 : 2 ≤ x.gens.length
  n2 : x.gens.length ≤ 257
  most1 : 1 ≤ x.most
  most2 : x.most ≤ 65535
  gen1 : ∀ id, 1 ≤ id → id < x.gens.length → 1 ≤ x.gen id ∧ x.gen id ≤ x.most + 1
  live0 : x.live 0 = false
  liveg : ∀ id, x.live id = true → x.gen id ≤ x.most
def IX.freeB (x : IX) (id : Nat) : Bool := decide (1 ≤ id) && decide (id < x.gens.length) && !x.live id && decide (x.gen id ≤ x.most)
/-- The id that would be next. -/
def IX.next (x : IX) : Option Nat := (List.range x.gens.length).find? x.freeB
/-- Does somebody live? -/
def IX.alive (x : IX) (e : Int) : Bool := x.live (e % 4294967296).toNat && decide (x.gen (e % 4294967296).toNat = e / 4294967296)
def IX.liveH (x : IX) (id : Nat) : Option Int := if x.live id then some (hOf id (x.gen id)) else none
/-- All who live. -/
def IX.liveL (x : IX) : List Int := (List.range x.gens.length).filterMap x.liveH
theorem nd_perm {l m : List Int} (hl : l.Nodup) (hm : m.Nodup) (h : ∀ x, x ∈ l ↔ x ∈ m) : l.Perm m := by
  induction l generalizing m with
  | nil =>
    cases m with
    | nil => exact .refl _
    | cons y r => exact absurd ((h y).2 (List.mem_cons_self)) (by simp)
  | cons x r ih =>
    have hx : x ∈ m := (h x).1 List.mem_cons_self
    have hnd := List.nodup_cons.1 hl
    refine ((ih hnd.2 (hm.erase x) fun y => ?_).cons x).trans (List.perm_cons_erase hx).symm
    rw [hm.mem_erase_iff]
    constructor
    · intro hy
      exact ⟨fun e => hnd.1 (e ▸ hy), (h y).1 (List.mem_cons_of_mem _ hy)⟩
    · rintro ⟨h1, h2⟩
      rcases List.mem_cons.1 ((h y).2 h2) with e | h3
      · exact absurd e h1
      · exact h3
theorem IX.live_lt {x : IX} (hl : x.lives.length = x.gens.length) {id : Nat} (h : x.live id = true) : id < x.gens.length := by
  refine Classical.byContradiction fun hn => ?_
  unfold IX.live at h
  rw [List.getD_eq_getElem?_getD, List.getElem?_eq_none (by omega)] at h
  cases h
theorem IX.mem_liveL {x : IX} (hl : x.lives.length = x.gens.length) (e : Int) : e ∈ x.liveL ↔ ∃ id : Nat, x.live id = true ∧ e = hOf id (x.gen id) := by
  unfold IX.liveL
  rw [List.mem_filterMap]
  constructor
  · rintro ⟨id, h1, h2⟩
    unfold IX.liveH at h2
    split at h2
    · rename_i h3; cases h2; exact ⟨id, h3, rfl⟩
    · cases h2
  · rintro ⟨id, h1, rfl⟩
    exact ⟨id, List.mem_range.2 (IX.live_lt hl h1), by unfold IX.liveH; rw [if_pos h1]⟩
section
variable {x : IX} (h : x.Ok)
include h
theorem IX.Ok.alive_iff (e : Int) (h0 : 0 ≤ e) : x.alive e = true ↔ e ∈ x.liveL := by
  have hlen := h.len
  have hn2 := h.n2
  rw [IX.mem_liveL h.len]
  unfold IX.alive
  rw [Bool.and_eq_true, decide_eq_true_iff]
  constructor
  · rintro ⟨h1, h2⟩
    refine ⟨_, h1, ?_⟩
    rw [h2]
    have : ((e % 4294967296).toNat : Int) = e % 4294967296 := by omega
    rw [this, hOf_back]
  · rintro ⟨id, h1, rfl⟩
    have := IX.live_lt hlen h1
    rw [hOf_id (by omega) (by omega), hOf_gen (by omega) (by omega), Int.toNat_natCast]
    exact ⟨h1, rfl⟩
theorem IX.Ok.pos {id : Nat} (hid : x.live id = true) : 1 ≤ id := by
  refine Classical.byContradiction fun hn => ?_
  obtain rfl : id = 0 := by omega
  rw [h.live0] at hid; cases hid
theorem IX.Ok.live_bd {e : Int} (he : e ∈ x.liveL) : 4294967297 ≤ e ∧ e < 281474976710656 ∧ e % 4294967296 < 257 ∧ 1 ≤ e % 4294967296 := by
  obtain ⟨id, h1, rfl⟩ := (IX.mem_liveL h.len e).1 he
  have hp := h.pos h1
  have hlt := IX.live_lt h.len h1
  have hn2 := h.n2
  have hg := h.gen1 id hp hlt
  have hg2 := h.liveg id h1
  have hm := h.most2
  rw [hOf_id (by omega) (by omega)]
  unfold hOf
  omega
theorem IX.Ok.liveL_nd : x.liveL.Nodup := by
  unfold IX.liveL
  rw [List.Nodup, List.pairwise_filterMap]
  refine List.nodup_range.imp_of_mem ?_
  intro a b ha hb hab u hu v hv huv
  have ha' := List.mem_range.1 ha
  have hb' := List.mem_range.1 hb
  have hn2 := h.n2
  unfold IX.liveH at hu hv
  split at hu
  · split at hv
    · cases hu; cases hv
      have := congrArg (fun z : Int => z % 4294967296) huv
      have this : hOf (a : Int) (x.gen a) % 4294967296 = hOf (b : Int) (x.gen b) % 4294967296 := this
      rw [hOf_id (by omega) (by omega), hOf_id (by omega) (by omega)] at this
      omega
    · cases hv
  · cases hu
theorem IX.Ok.live_id {e : Int} (he : e ∈ x.liveL) : ∃ id : Nat, x.live id = true ∧ e = hOf id (x.gen id) ∧ (e % 4294967296).toNat = id ∧ 1 ≤ id ∧ id < x.gens.length := by
  obtain ⟨id, h1, rfl⟩ := (IX.mem_liveL h.len e).1 he
  have hlt := IX.live_lt h.len h1
  have hn2 := h.n2
  exact ⟨id, h1, rfl, by rw [hOf_id (by omega) (by omega), Int.toNat_natCast], h.pos h1, hlt⟩
theorem IX.Ok.liveL_len : x.liveL.length + 1 ≤ x.gens.length := by
  unfold IX.liveL
  obtain ⟨m, hm⟩ : ∃ m, x.gens.length = m + 1 := ⟨x.gens.length - 1, by have := h.n1; omega⟩
  rw [hm, List.range_succ_eq_map, List.filterMap_cons]
  have : x.liveH 0 = none := by unfold IX.liveH; rw [h.live0]; rfl
  rw [this]
  have := List.length_filterMap_le x.liveH (List.map Nat.succ (List.range m))
  simp at this ⊢
  omega
end
def IX.spawn (x : IX) (id : Nat) : IX := { x with lives := x.lives.set id true }
def IX.kill (x : IX) (id : Nat) : IX := { x with lives := x.lives.set id false, gens := x.gens.set id (x.gen id + 1) }
theorem getD_set {α : Type} {l : List α} {i : Nat} (hi : i < l.length) (a d : α) (j : Nat) : (l.set i a).getD j d = if j = i then a else l.getD j d := by
  rw [List.getD_eq_getElem?_getD, List.getD_eq_getElem?_getD, List.getElem?_set]
  by_cases h : j = i
  · subst h; simp [hi]
  · rw [if_neg (fun e => h e.symm), if_neg h]
theorem IX.next_some {x : IX} {id : Nat} (h : x.next = some id) : 1 ≤ id ∧ id < x.gens.length ∧ x.live id = false ∧ x.gen id ≤ x.most := by
  have := List.find?_some h
  unfold IX.freeB at this
  simp at this
  exact ⟨this.1.1.1, this.1.1.2, this.1.2, this.2⟩
theorem IX.Ok.spawn {x : IX} (h : x.Ok) {id : Nat} (hn : x.next = some id) : (x.spawn id).Ok ∧ hOf id (x.gen id) ∉ x.liveL ∧ (x.spawn id).liveL.Perm (hOf id (x.gen id) :: x.liveL) := by
  obtain ⟨h1, h2, h3, h4⟩ := IX.next_some hn
  have hlen := h.len
  have hl : ∀ j, (x.spawn id).live j = if j = id then true else x.live j := fun j => getD_set (by omega) _ _ _
  have hok : (x.spawn id).Ok := by
    refine ⟨by simp [IX.spawn, h.len], h.n1, h.n2, h.most1, h.most2, h.gen1, ?_, fun j hj => ?_⟩
    · rw [hl, if_neg (by omega)]; exact h.live0
    · rw [hl] at hj
      split at hj
      · rename_i e; subst e; exact h4
      · exact h.liveg j hj
  have hno : hOf id (x.gen id) ∉ x.liveL := by
    intro he
    obtain ⟨j, k1, k2, k3, k4, k5⟩ := h.live_id he
    have hn2 := h.n2
    rw [hOf_id (by omega) (by omega), Int.toNat_natCast] at k3
    subst k3
    rw [h3] at k1; cases k1
  refine ⟨hok, hno, nd_perm hok.liveL_nd (List.nodup_cons.2 ⟨hno, h.liveL_nd⟩) fun e => ?_⟩
  rw [IX.mem_liveL hok.len, List.mem_cons, IX.mem_liveL h.len]
  constructor
  · rintro ⟨j, k1, rfl⟩
    rw [hl] at k1
    split at k1
    · rename_i e; subst e; exact .inl rfl
    · exact .inr ⟨j, k1, rfl⟩
  · rintro (rfl | ⟨j, k1, rfl⟩)
    · exact ⟨id, by rw [hl, if_pos rfl], rfl⟩
    · exact ⟨j, by rw [hl]; split <;> first | rfl | exact k1, rfl⟩
theorem IX.Ok.kill {x : IX} (h : x.Ok) {id : Nat} (hi : x.live id = true) : (x.kill id).Ok ∧ x.liveL.Perm (hOf id (x.gen id) :: (x.kill id).liveL) := by
  have hlen := h.len
  have hlt := IX.live_lt hlen hi
  have hp := h.pos hi
  have hl : ∀ j, (x.kill id).live j = if j = id then false else x.live j := fun j => getD_set (by omega) _ _ _
  have hg : ∀ j, (x.kill id).gen j = if j = id then x.gen id + 1 else x.gen j := fun j => getD_set (by omega) _ _ _
  have hgl : (x.kill id).gens.length = x.gens.length := by simp [IX.kill]
  have hok : (x.kill id).Ok := by
    refine ⟨by simp [IX.kill, h.len], by rw [hgl]; exact h.n1, by rw [hgl]; exact h.n2, h.most1, h.most2, fun j j1 j2 => ?_, ?_, fun j hj => ?_⟩
    · rw [hgl] at j2
      rw [hg]
      show _ ∧ _ ≤ x.most + 1
      split
      · have a := h.gen1 id hp hlt
        have b := h.liveg id hi
        omega
      · exact h.gen1 j j1 j2
    · rw [hl, if_neg (by omega)]; exact h.live0
    · rw [hl] at hj
      split at hj
      · cases hj
      · rename_i hj2
        rw [hg, if_neg hj2]
        exact h.liveg j hj
  have hn2 := h.n2
  have hno : hOf id (x.gen id) ∉ (x.kill id).liveL := by
    intro he
    obtain ⟨j, k1, k2, k3, k4, k5⟩ := hok.live_id he
    rw [hOf_id (by omega) (by omega), Int.toNat_natCast] at k3
    subst k3
    rw [hl, if_pos rfl] at k1; cases k1
  refine ⟨hok, nd_perm h.liveL_nd (List.nodup_cons.2 ⟨hno, hok.liveL_nd⟩) fun e => ?_⟩
  rw [IX.mem_liveL h.len, List.mem_cons, IX.mem_liveL hok.len]
  constructor
  · rintro ⟨j, k1, rfl⟩
    by_cases e : j = id
    · subst e; exact .inl rfl
    · exact .inr ⟨j, by rw [hl, if_neg e]; exact k1, by rw [hg, if_neg e]⟩
  · rintro (rfl | ⟨j, k1, rfl⟩)
    · exact ⟨id, hi, rfl⟩
    · rw [hl] at k1
      split at k1
      · cases k1
      · rename_i e
        exact ⟨j, k1, by rw [hg, if_neg e]⟩
/-- A heap of the ids that are free. -/
structure FreeOk (x : IX) (fr : List Int) : Prop where
  heap : HeapN fr fr.length
  nd : fr.Nodup
  mem : ∀ y, y ∈ fr ↔ ∃ id : Nat, y = id ∧ x.freeB id = true
theorem IX.freeB_lt {x : IX} {id : Nat} (h : x.freeB id = true) : id < x.gens.length ∧ 1 ≤ id := by
  unfold IX.freeB at h
  simp at h
  exact ⟨h.1.1.2, h.1.1.1⟩
theorem FreeOk.next {x : IX} {fr : List Int} (h : FreeOk x fr) (h0 : fr ≠ []) : ∃ id : Nat, x.next = some id ∧ at0 fr 0 = id := by
  have hl : 0 < fr.length := List.length_pos_iff.2 h0
  have hm : at0 fr 0 ∈ fr := List.mem_of_getElem? (at0_get hl)
  obtain ⟨id, hid, hf⟩ := (h.mem _).1 hm
  refine ⟨id, ?_, hid⟩
  unfold IX.next
  rw [List.find?_range_eq_some]
  refine ⟨hf, List.mem_range.2 (IX.freeB_lt hf).1, fun j hj => ?_⟩
  cases hb : x.freeB j with
  | false => rfl
  | true =>
    have hjm : (j : Int) ∈ fr := (h.mem _).2 ⟨j, rfl, hb⟩
    obtain ⟨k, hk⟩ := List.getElem?_of_mem hjm
    have := h.heap.least k (List.getElem?_eq_some_iff.1 hk).1
    rw [at0_some hk] at this
    omega
theorem FreeOk.next_none {x : IX} (h : FreeOk x []) : x.next = none := by
  unfold IX.next
  rw [List.find?_eq_none]
  intro j _ hb
  have := (h.mem j).2 ⟨j, rfl, hb⟩
  simp at this
theorem FreeOk.len {x : IX} {fr : List Int} (h : FreeOk x fr) (hx : x.Ok) : fr.length ≤ 257 := by
  have hn2 := hx.n2
  have h1 : ∀ y ∈ fr, y ∈ (List.range x.gens.length).map (fun (j : Nat) => (j : Int)) := fun y hy => by
    obtain ⟨id, rfl, hf⟩ := (h.mem y).1 hy
    exact List.mem_map.2 ⟨id, List.mem_range.2 (IX.freeB_lt hf).1, rfl⟩
  have := h.nd.length_le_of_subset h1
  simp at this
  omega
theorem FreeOk.pop {x : IX} {fr fr' : List Int} (h : FreeOk x fr) {id : Nat} (hn : x.next = some id) (hx : x.Ok) (hh : HeapN fr' fr'.length) (hp : fr.Perm ((id : Int) :: fr')) : FreeOk (x.spawn id) fr' := by
  have hlen := hx.len
  obtain ⟨h1, h2, h3, h4⟩ := IX.next_some hn
  have hnd := List.nodup_cons.1 (hp.nodup h.nd)
  refine ⟨hh, hnd.2, fun y => ?_⟩
  have hm : y ∈ fr' ↔ y ∈ fr ∧ y ≠ id := by
    rw [hp.mem_iff, List.mem_cons]
    constructor
    · intro hy; exact ⟨.inr hy, fun e => hnd.1 (e ▸ hy)⟩
    · rintro ⟨k1 | k1, k2⟩
      · exact absurd k1 k2
      · exact k1
  have hb : ∀ j, (x.spawn id).freeB j = (x.freeB j && decide (j ≠ id)) := fun j => by
    have hl : (x.spawn id).live j = if j = id then true else x.live j := getD_set (by omega) _ _ _
    unfold IX.freeB
    rw [hl]
    have hg : (x.spawn id).gen j = x.gen j := rfl
    have hl2 : (x.spawn id).gens.length = x.gens.length := rfl
    have hl3 : (x.spawn id).most = x.most := rfl
    rw [hg, hl2, hl3]
    by_cases e : j = id
    · simp [e]
    · simp [e]
  rw [hm, h.mem]
  constructor
  · rintro ⟨⟨j, rfl, hj⟩, hne⟩
    exact ⟨j, rfl, by rw [hb, hj]; simp; omega⟩
  · rintro ⟨j, rfl, hj⟩
    rw [hb, Bool.and_eq_true, decide_eq_true_iff] at hj
    exact ⟨⟨j, rfl, hj.1⟩, by have := hj.2; omega⟩
theorem FreeOk.push {x : IX} {fr fr' : List Int} (h : FreeOk x fr) {id : Nat} (hi : x.live id = true) (hx : x.Ok) (hh : HeapN fr' fr'.length) (hp : fr'.Perm (if x.gen id + 1 ≤ x.most then (id : Int) :: fr else fr)) : FreeOk (x.kill id) fr' := by
  have hlen := hx.len
  have hlt := IX.live_lt hlen hi
  have h1 := hx.pos hi
  have hb : ∀ j, (x.kill id).freeB j = if j = id then decide (x.gen id + 1 ≤ x.most) else x.freeB j := fun j => by
    have hl : (x.kill id).live j = if j = id then false else x.live j := getD_set (by omega) _ _ _
    have hg : (x.kill id).gen j = if j = id then x.gen id + 1 else x.gen j := getD_set (by omega) _ _ _
    unfold IX.freeB
    rw [hl, hg]
    by_cases e : j = id
    · subst e; simp [IX.kill, h1, hlt]
    · simp [e, IX.kill]
  have hidn : (id : Int) ∉ fr := fun hm => by
    obtain ⟨j, hj, hf⟩ := (h.mem _).1 hm
    obtain rfl : id = j := by omega
    unfold IX.freeB at hf
    rw [hi] at hf
    simp at hf
  by_cases hg : x.gen id + 1 ≤ x.most
  · rw [if_pos hg] at hp
    refine ⟨hh, hp.symm.nodup (List.nodup_cons.2 ⟨hidn, h.nd⟩), fun y => ?_⟩
    rw [hp.mem_iff, List.mem_cons, h.mem]
    constructor
    · rintro (rfl | ⟨j, rfl, hj⟩)
      · exact ⟨id, rfl, by rw [hb, if_pos rfl]; simpa using hg⟩
      · refine ⟨j, rfl, ?_⟩
        rw [hb]
        split
        · simpa using hg
        · exact hj
    · rintro ⟨j, rfl, hj⟩
      rw [hb] at hj
      split at hj
      · rename_i e; subst e; exact .inl rfl
      · exact .inr ⟨j, rfl, hj⟩
  · rw [if_neg hg] at hp
    refine ⟨hh, hp.symm.nodup h.nd, fun y => ?_⟩
    rw [hp.mem_iff, h.mem]
    constructor
    · rintro ⟨j, rfl, hj⟩
      refine ⟨j, rfl, ?_⟩
      rw [hb, if_neg]
      · exact hj
      · rintro rfl
        exact hidn ((h.mem _).2 ⟨j, rfl, hj⟩)
    · rintro ⟨j, rfl, hj⟩
      rw [hb] at hj
      split at hj
      · simp at hj; omega
      · exact ⟨j, rfl, hj⟩
end Go.Proofs.YtgebbmfoamkfnaaGreatDoor
