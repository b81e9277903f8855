/- A world's memory: the map of places; deeds of the graph. · As D0, over K9: bits of a set; the ways of a graph lead there and back. · Plain: parts that can be: their set, their values; they may be added to the table of their set. -/
import Derived.Test.YthmpknlgkflhiabGreatQ29
import Derived.Test.YthmpknlgkflhiabGreatQ23
import Derived.Laws.BitsAllLaws
import Derived.Test.YthmpknlgkflhiabGreatQ28
namespace Go.Proofs.YthmpknlgkflhiabGreat
open Go.RowKit
open Go.Maps (Keyed IsMap Tidy int_keyed keyOf_int_mk)
set_option linter.unusedVariables false
theorem Tryz.lawE : Keyed Tryz.prog 38 := int_keyed Tryz.underlying38
theorem Tryz.zeroPl (w : World) : (zeroValue 102).run Tryz.prog w = .ok (.agg #[.int .i64 0, .int .i64 0]) w := by kernel_rfl
theorem key_e {e : Int} (h0 : 0 ≤ e) (h1 : e < 18446744073709551616) : keyOf Tryz.prog 38 (.int .u64 e) = some (.int .u64 e) :=
 keyOf_int_mk Tryz.underlying38 (by simp [Lit.wf, IntKind.min, IntKind.max, IntKind.signed, IntKind.bits]; omega)
def atV (pl : Int → Option Pl) (e : Int) : Value := match pl e with | some p => plV p | none => .agg #[.int .i64 0, .int .i64 0]
section
variable {w : World} {ab n : Nat} {pl : Int → Option Pl} {e : Int}
theorem AtM.look (h : AtM w ab pl n) (h0 : 0 ≤ e) (h1 : e < 18446744073709551616) : (Instr.lookup 86 (.map (some ab)) (.int .u64 e) false).run Tryz.prog w = .ok (atV pl e) w := by
 obtain ⟨f, hM, hf⟩ := h
 rw [hM.look Tryz.lawE Tryz.underlying86 Tryz.zeroPl (key_e h0 h1), hf e h0 h1]
 unfold atV
 cases pl e <;> rfl
theorem AtM.store (h : AtM w ab pl n) (hn : n < 1000000) (h0 : 0 ≤ e) (h1 : e < 18446744073709551616) (p : Pl) :
  ∃ w', (Instr.mapUpdate 86 (.map (some ab)) (.int .u64 e) (plV p)).run Tryz.prog w = .ok () w' ∧ AtM w' ab (updP pl e (some p)) (if (pl e).isSome then n else n + 1) ∧ w.grownBy w' (some ab) ∧ w'.heap.size = w.heap.size := by
 obtain ⟨f, hM, hf⟩ := h
 obtain ⟨w', hrun, hM', hg, hz⟩ := hM.store (val := plV p) Tryz.lawE Tryz.underlying86 (by unfold maxLen; omega) (key_e h0 h1)
 refine ⟨w', hrun, ⟨putV f (.int .u64 e) (plV p), ?_, fun x x0 x1 => ?_⟩, hg, hz⟩
 ·rw [hf e h0 h1, Option.isSome_map] at hM'
  exact hM'
 ·by_cases hx : x = e
  ·subst hx; rw [putV_same, updP_same]; rfl
  ·rw [putV_ne (by simpa using hx), updP_ne hx]; exact hf x x0 x1
theorem AtM.drop (h : AtM w ab pl n) (h0 : 0 ≤ e) (h1 : e < 18446744073709551616) (ty : TypeId) :
  ∃ w', (Builtin.delete_ #[86, 38] ty #[.map (some ab), .int .u64 e]).run Tryz.prog w = .ok (.tuple #[]) w' ∧ AtM w' ab (updP pl e none) (if (pl e).isSome then n - 1 else n) ∧ w.grownBy w' (some ab) ∧ w'.heap.size = w.heap.size := by
 obtain ⟨f, hM, hf⟩ := h
 obtain ⟨w', hrun, hM', hg, hz⟩ := hM.drop (key := .int .u64 e) Tryz.lawE Tryz.underlying86 (key_e h0 h1) ty
 refine ⟨w', hrun, ⟨delV f (.int .u64 e), ?_, fun x x0 x1 => ?_⟩, hg, hz⟩
 ·rw [hf e h0 h1, Option.isSome_map] at hM'
  exact hM'
 ·by_cases hx : x = e
  ·subst hx; rw [delV_same, updP_same]; rfl
  ·rw [delV_ne (by simpa using hx), updP_ne hx]; exact hf x x0 x1
end
theorem Tabs.congr {B : Nat} {g g' : GS} {T : List TD} {w : World} (h : Tabs B g T w) (hts : g'.ts = g.ts) (hg : g'.ver = g.ver ∧ g'.rows = g.rows ∧ g'.cs = g.cs) : Tabs B g' T w :=
 ⟨h.ts.trans hts.symm, h.tab, fun t ht => by rw [hg.1, hg.2.1, hg.2.2]; exact h.like t ht, h.apart⟩
section
variable {w w' : World} {d : WD} {n : Nat}
theorem WRaw.gmut (h : WRaw w d n) {b : Nat} (hb : gfoot d.gb d.mb d.wmb d.ta b) : Mut w b := h.mut (.inr (.inr (.inr (.inl hb))))
theorem WRaw.gold (h : WRaw w d n) {g' : GS} {ta' : Option Addr} {tc' : Nat} (hg : Graph 0 d.gb g' d.mb d.wmb ta' tc' w') (ho : GOut d.gb d.mb d.wmb d.ta ta' w w') (hs : g'.ver = d.g.ver ∧ g'.rows = d.g.rows ∧ g'.cs = d.g.cs) (hts : g'.ts = d.g.ts) :
  WRaw w' { d with g := g', ta := ta', tc := tc' } n ∧ WFr d { d with g := g', ta := ta', tc := tc' } w w' := by
 have hT := h.tabs.out ho.1 (fun b hb t ht => h.g_t hb ht) (fun b hb => h.gmut hb)
 refine ⟨{ h with
  blk := ho.1.keep h.blk h.wb_g
  ix := h.ix.out ho.1 (fun b hb => h.x_g hb)
  gr := hg
  tabs := hT.congr hts hs
  atm := h.atm.out ho.1 h.ab_g }, rfl, ho.1.mono (fun b hb => .inl (.inr (.inr (.inr (.inl hb))))), ?_⟩
 rintro b (hb | hb | hb | hb | hb)
 ·exact .inl (.inl hb)
 ·exact .inl (.inr (.inl hb))
 ·exact .inl (.inr (.inr (.inl hb)))
 ·exact (ho.2 b hb).imp (fun hb => .inr (.inr (.inr (.inl hb)))) id
 ·exact .inl (.inr (.inr (.inr (.inr hb))))
theorem WRaw.gnew (h : WRaw w d n) {g' : GS} {ta' : Option Addr} {tc' : Nat} (hg : Graph 0 d.gb g' d.mb d.wmb ta' tc' w') (ho : GOut d.gb d.mb d.wmb d.ta ta' w w') (hs : g'.ver = d.g.ver ∧ g'.rows = d.g.rows ∧ g'.cs = d.g.cs) {tb : Nat} {set : Int} (hts : g'.ts = d.g.ts ++ [(tb, set)])
  (hN : TableNew w' tb d.g.ver d.g.cs set d.g.rows) (hlo : w.heap.size ≤ tb) (hok : tableOk d.g.ver d.g.cs set d.g.rows = true) (h0 : 0 ≤ set) (h1 : set ≤ 4294967295) {most : Nat} (hm : d.g.rows = (most : Int)) :
  ∃ t, WRaw w' { d with g := g', ta := ta', tc := tc', T := d.T ++ [t], V := d.V ++ [[]] } n ∧ WFr d { d with g := g', ta := ta', tc := tc', T := d.T ++ [t], V := d.V ++ [[]] } w w' ∧ t.tb = tb ∧ t.set = set ∧ t.kept = 0 ∧ t.ents = [] ∧ t.most = most := by
 have hT := h.tabs.out ho.1 (fun b hb t ht => h.g_t hb ht) (fun b hb => h.gmut hb)
 obtain ⟨t, hT', e1, e2, e3, e4, e5, hge⟩ := h.tabs.snoc hm hN hok h0 h1 (Nat.zero_le _) hlo hT ⟨hts, hs⟩
 refine ⟨t, { h with
  blk := ho.1.keep h.blk h.wb_g
  ix := h.ix.out ho.1 (fun b hb => h.x_g hb)
  gr := hg
  tabs := hT'
  vlen := by simp [h.vlen]
  vals := ?_
  atm := h.atm.out ho.1 h.ab_g }, ⟨rfl, ho.1.mono (fun b hb => .inl (.inr (.inr (.inr (.inl hb))))), ?_⟩, e1, e2, e3, e4, e5⟩
 ·intro i u v hu hv
  have hvl := h.vlen
  rcases Nat.lt_or_ge i d.T.length with hlt | hge
  ·rw [List.getElem?_append_left hlt] at hu
   rw [List.getElem?_append_left (by omega)] at hv
   exact h.vals i u v hu hv
  ·have hul := (List.getElem?_eq_some_iff.1 hu).1
   rw [List.length_append] at hul
   have hul2 : i < d.T.length + 1 := hul
   obtain rfl : i = d.T.length := by omega
   rw [List.getElem?_append_right (Nat.le_refl _), Nat.sub_self] at hu
   rw [List.getElem?_append_right (by omega), show d.T.length - d.V.length = 0 by omega] at hv
   simp at hu hv
   subst hu; subst hv
   exact Vals.new e4
 ·rintro b (hb | hb | hb | hb | ⟨u, hu, hb⟩)
  ·exact .inl (.inl hb)
  ·exact .inl (.inr (.inl hb))
  ·exact .inl (.inr (.inr (.inl hb)))
  ·exact (ho.2 b hb).imp (fun hb => .inr (.inr (.inr (.inl hb)))) id
  ·rcases List.mem_append.1 hu with hu | hu
   ·exact .inl (.inr (.inr (.inr (.inr ⟨u, hu, hb⟩))))
   ·obtain rfl : u = t := by simpa using hu
    exact .inr (hge b hb)
end
end Go.Proofs.YthmpknlgkflhiabGreat
namespace Go.Proofs.YthmpknlgkflhiabGreat
open Go.RowKit
set_option linter.unusedVariables false
theorem hasB_bit {s n : Nat} (hs : s < 4294967296) (h1 : 1 ≤ n) (h2 : n ≤ 24) : hasB (s : Int) (n : Int) = s.testBit n := by
 have hd : s / 2 ^ n < 4294967296 := by
  have := Nat.div_le_self s (2 ^ n)
  omega
 unfold hasB
 rw [idB_true (by omega) (by omega), Bool.true_and, Int.toNat_natCast]
 have e : ((s : Int) / 2 ^ n) = ((s / 2 ^ n : Nat) : Int) := by simp
 rw [e, show (1 : Int) = ((1 : Nat) : Int) from rfl, u32_and_nat _ _ hd (by omega)]
 rw [Nat.testBit_eq_decide_div_mod_eq, Nat.and_one_is_mod]
 by_cases hh : s / 2 ^ n % 2 = 1
 ·rw [hh]; simp
 ·simp [hh]; omega
theorem pow_small {n : Nat} (h2 : n ≤ 24) : 2 ^ n < 4294967296 := by
 have : 2 ^ n ≤ 2 ^ 24 := Nat.pow_le_pow_right (by omega) h2
 omega
theorem sWith_nat {s n : Nat} (hs : s < 4294967296) (h1 : 1 ≤ n) (h2 : n ≤ 24) : sWith (s : Int) (n : Int) = ((s ||| 2 ^ n : Nat) : Int) := by
 have hp := pow_small h2
 unfold sWith
 rw [idB_true (by omega) (by omega), Int.toNat_natCast]
 have e : ((2 : Int) ^ n % 4294967296) = ((2 ^ n : Nat) : Int) := by
  have : ((2 : Int) ^ n) = ((2 ^ n : Nat) : Int) := by simp
  have hq : ((2 ^ n : Nat) : Int) < 4294967296 := by have := Int.ofNat_lt.2 hp; exact this
  rw [this]; exact Int.emod_eq_of_lt (Int.natCast_nonneg _) hq
 rw [e]
 simp only [if_true]
 exact u32_or_nat _ _ hs hp
theorem sWithout_nat {s n : Nat} (hs : s < 4294967296) (h1 : 1 ≤ n) (h2 : n ≤ 24) : sWithout (s : Int) (n : Int) = ((s &&& (4294967295 - 2 ^ n) : Nat) : Int) := by
 have hp := pow_small h2
 unfold sWithout
 rw [idB_true (by omega) (by omega), Int.toNat_natCast]
 have e : ((2 : Int) ^ n % 4294967296) = ((2 ^ n : Nat) : Int) := by
  have : ((2 : Int) ^ n) = ((2 ^ n : Nat) : Int) := by simp
  have hq : ((2 ^ n : Nat) : Int) < 4294967296 := by have := Int.ofNat_lt.2 hp; exact this
  rw [this]; exact Int.emod_eq_of_lt (Int.natCast_nonneg _) hq
 rw [e]
 simp only [if_true]
 exact u32_andNot_nat _ _ hs hp
theorem bit_or {s n : Nat} : (s ||| 2 ^ n).testBit n = true := by simp [Nat.testBit_or]
theorem bit_not (n i : Nat) (h2 : n ≤ 24) : (4294967295 - 2 ^ n).testBit i = (decide (i < 32) && !decide (n = i)) := by
 have := Nat.testBit_two_pow_sub_succ (x := 2 ^ n) (n := 32) (pow_small h2) i
 rw [show 2 ^ 32 - (2 ^ n + 1) = 4294967295 - 2 ^ n by omega] at this
 rw [this, Nat.testBit_two_pow]
theorem bit_high {s i : Nat} (hs : s < 4294967296) (hi : 32 ≤ i) : s.testBit i = false :=
 Nat.testBit_lt_two_pow (Nat.lt_of_lt_of_le hs (by have := Nat.pow_le_pow_right (n := 2) (by omega) hi; omega))
def upd (s c : Int) (b : Bool) : Int := if b then sWith s c else sWithout s c
theorem upd_bd {s c : Int} {b : Bool} (h0 : 0 ≤ s) (h1 : s ≤ 4294967295) : 0 ≤ upd s c b ∧ upd s c b ≤ 4294967295 := by
 unfold upd; split
 ·exact sWith_bd h0 h1
 ·exact sWithout_bd h0 h1
theorem id_nat {c : Int} (h : idB c = true) : ∃ n : Nat, c = n ∧ 1 ≤ n ∧ n ≤ 24 := by
 simp [idB] at h
 exact ⟨c.toNat, by omega, by omega, by omega⟩
theorem hasB_upd {s c : Int} (b : Bool) (h0 : 0 ≤ s) (h1 : s ≤ 4294967295) (hc : idB c = true) : hasB (upd s c b) c = b := by
 obtain ⟨n, rfl, g1, g2⟩ := id_nat hc
 obtain ⟨s, rfl⟩ := Int.eq_ofNat_of_zero_le h0
 have hs : s < 4294967296 := by omega
 have hp := pow_small g2
 cases b
 ·simp only [upd, Bool.false_eq_true, if_false]
  rw [sWithout_nat hs g1 g2, hasB_bit (Nat.lt_of_le_of_lt Nat.and_le_left hs) g1 g2, Nat.testBit_and, bit_not n n g2]
  simp
 ·simp only [upd, if_true]
  rw [sWith_nat hs g1 g2, hasB_bit (by have := Nat.or_lt_two_pow (n := 32) hs hp; omega) g1 g2]
  exact bit_or
theorem upd_back {s c : Int} {b : Bool} (h0 : 0 ≤ s) (h1 : s ≤ 4294967295) (hc : idB c = true) (hh : hasB s c = !b) : upd (upd s c b) c (!b) = s := by
 obtain ⟨n, rfl, g1, g2⟩ := id_nat hc
 obtain ⟨s, rfl⟩ := Int.eq_ofNat_of_zero_le h0
 have hs : s < 4294967296 := by omega
 have hp := pow_small g2
 rw [hasB_bit hs g1 g2] at hh
 cases b
 ·simp only [upd, Bool.false_eq_true, if_false, Bool.not_false, if_true]
  rw [sWithout_nat hs g1 g2, sWith_nat (Nat.lt_of_le_of_lt Nat.and_le_left hs) g1 g2]
  congr 1
  apply Nat.eq_of_testBit_eq
  intro i
  rw [Nat.testBit_or, Nat.testBit_and, bit_not n i g2, Nat.testBit_two_pow]
  by_cases e : n = i
  ·subst e; simp [hh]
  ·by_cases hi : i < 32
   ·simp [e, hi]
   ·have hbh := bit_high hs (Nat.le_of_not_lt hi)
    simp [e, hi, hbh]
 ·simp only [upd, Bool.not_true, Bool.false_eq_true, if_false, if_true]
  rw [sWith_nat hs g1 g2, sWithout_nat (by have := Nat.or_lt_two_pow (n := 32) hs hp; omega) g1 g2]
  congr 1
  apply Nat.eq_of_testBit_eq
  intro i
  rw [Nat.testBit_and, Nat.testBit_or, bit_not n i g2, Nat.testBit_two_pow]
  by_cases e : n = i
  ·subst e; simp [hh]
  ·by_cases hi : i < 32
   ·simp [e, hi]
   ·have hbh := bit_high hs (Nat.le_of_not_lt hi)
    simp [e, hi, hbh]
theorem upd_set {s c : Int} {b : Bool} (h0 : 0 ≤ s) (h1 : s ≤ 4294967295) (hc : idB c = true) (hh : hasB s c = !b) : (if b then sWith (sWithout s c) c else sWithout s c) = upd s c b := by
 cases b
 ·rfl
 ·simp only [if_true, upd]
  have hw : sWithout s c = s := by
   obtain ⟨n, rfl, g1, g2⟩ := id_nat hc
   obtain ⟨s, rfl⟩ := Int.eq_ofNat_of_zero_le h0
   have hs : s < 4294967296 := by omega
   rw [hasB_bit hs g1 g2] at hh
   rw [sWithout_nat hs g1 g2]
   congr 1
   apply Nat.eq_of_testBit_eq
   intro i
   rw [Nat.testBit_and, bit_not n i g2]
   by_cases e : n = i
   ·subst e; simp [hh]
   ·by_cases hi : i < 32
    ·simp [e, hi]
    ·have hbh := bit_high hs (Nat.le_of_not_lt hi)
     simp [e, hi, hbh]
  rw [hw]
structure Inv (g : GS) : Prop where
 nd : ∀ (i : Nat) (s : Int), g.sigs[i]? = some s → posOf s g.sigs = some i
 ids : ∀ c, (findC c g.cs).isSome = true → idB c = true
 bd : ∀ (i : Nat) (s : Int), g.sigs[i]? = some s → 0 ≤ s ∧ s ≤ 4294967295
 wy : ∀ (i c : Int) (b : Bool) (n : Nat), g.ways (i, c, b) = some n → 0 ≤ i ∧ (findC c g.cs).isSome = true ∧ (∃ s, g.sigs[i.toNat]? = some s ∧ hasB s c = (!b) ∧ g.sigs[n]? = some (upd s c b)) ∧ g.ways (n, c, !b) = some i.toNat
theorem sigs_len (g : GS) : g.sigs.length = g.ts.length := by simp [GS.sigs]
theorem Inv.made {g : GS} (h : Inv g) {set : Int} (h0 : 0 ≤ set) (h1 : set ≤ 4294967295) (tb : Nat) : Inv (makeG g set tb).1 ∧ ∀ (i : Nat) (s : Int), g.sigs[i]? = some s → (makeG g set tb).1.sigs[i]? = some s := by
 cases hp : posOf set g.sigs with
 | some i => rw [makeG_has hp]; exact ⟨h, fun _ _ h => h⟩
 | none =>
  by_cases hk : tableOk g.ver g.cs set g.rows = true
  ·by_cases hf : g.archs = g.ts.length
   ·rw [makeG_full hp hk hf]; exact ⟨h, fun _ _ h => h⟩
   ·rw [makeG_new hp hk hf]
    have hs : ({ g with ts := g.ts ++ [(tb, set)] } : GS).sigs = g.sigs ++ [set] := by simp [GS.sigs]
    have pre : ∀ (i : Nat) (s : Int), g.sigs[i]? = some s → (g.sigs ++ [set])[i]? = some s := by
     intro i s hi
     rw [List.getElem?_append_left (List.getElem?_eq_some_iff.1 hi).1]; exact hi
    have cas : ∀ (i : Nat) (s : Int), (g.sigs ++ [set])[i]? = some s → g.sigs[i]? = some s ∨ (i = g.sigs.length ∧ s = set) := by
     intro i s hi
     by_cases hl : i < g.sigs.length
     ·rw [List.getElem?_append_left hl] at hi; exact .inl hi
     ·have := (List.getElem?_eq_some_iff.1 hi).1
      simp at this
      obtain rfl : i = g.sigs.length := by omega
      simp at hi
      exact .inr ⟨rfl, hi.symm⟩
    refine ⟨⟨?_, h.ids, ?_, ?_⟩, ?_⟩
    ·intro i s hi
     rw [hs] at hi ⊢
     rw [posOf_snoc]
     rcases cas i s hi with h2 | ⟨rfl, rfl⟩
     ·rw [h.nd i s h2]
     ·rw [hp]; simp
    ·intro i s hi
     rw [hs] at hi
     rcases cas i s hi with h2 | ⟨rfl, rfl⟩
     ·exact h.bd i s h2
     ·exact ⟨h0, h1⟩
    ·intro i c b n hw
     obtain ⟨a1, a2, ⟨s, a3, a4, a5⟩, a6⟩ := h.wy i c b n hw
     exact ⟨a1, a2, ⟨s, by rw [hs]; exact pre _ _ a3, a4, by rw [hs]; exact pre _ _ a5⟩, a6⟩
    ·intro i s hi
     show ({ g with ts := g.ts ++ [(tb, set)] } : GS).sigs[i]? = some s
     rw [hs]; exact pre i s hi
  ·rw [makeG_no hp (by simpa using hk)]; exact ⟨h, fun _ _ h => h⟩
theorem chk_ok {g : GS} {i c : Int} {b : Bool} (h : chkF g i c b = 0) : 0 ≤ i ∧ (∃ s, g.sigs[i.toNat]? = some s ∧ g.sigs.getD i.toNat 0 = s ∧ hasB s c = !b) ∧ (findC c g.cs).isSome = true := by
 unfold chkF at h
 split at h
 ·simp at h
 ·rename_i h1
  split at h
  ·simp at h
  ·rename_i h2
   split at h
   ·simp at h
   ·rename_i h3
    have hl : i.toNat < g.sigs.length := by rw [sigs_len]; omega
    refine ⟨by omega, ⟨g.sigs[i.toNat], List.getElem?_eq_getElem hl, by simp [List.getD, List.getElem?_eq_getElem hl], ?_⟩, by cases hf : (findC c g.cs).isSome <;> simp_all⟩
    simp [List.getD, List.getElem?_eq_getElem hl] at h3
    cases b <;> simp_all
structure Gone (g g' : GS) (i c : Int) (b : Bool) (n : Nat) : Prop where
 known : g'.ways (i, c, b) = some n
 frm : ∃ s, g.sigs[i.toNat]? = some s ∧ g'.sigs[n]? = some (upd s c b)
 lo : 0 ≤ i
theorem Inv.step {g : GS} (h : Inv g) (i c : Int) (b : Bool) (tb : Nat) :
  Inv (stepG g i c b tb).1 ∧ ((stepG g i c b tb).2.2 = 0 → ∃ n : Nat, (stepG g i c b tb).2.1 = n ∧ Gone g (stepG g i c b tb).1 i c b n) := by
 by_cases hck : chkF g i c b = 0
 ·obtain ⟨c1, ⟨s, c2, c3, c4⟩, c5⟩ := chk_ok hck
  have hid := h.ids c c5
  have hsb := h.bd _ _ c2
  cases hw : g.ways (i, c, b) with
  | some n =>
   rw [stepG_has hck hw]
   refine ⟨h, fun _ => ⟨n, rfl, hw, ?_, c1⟩⟩
   obtain ⟨a1, a2, ⟨s', a3, a4, a5⟩, a6⟩ := h.wy i c b n hw
   exact ⟨s', a3, a5⟩
  | none =>
   have hset : stepSet g i c b = upd s c b := by
    unfold stepSet; rw [c3]; exact upd_set hsb.1 hsb.2 hid c4
   have hub := upd_bd (c := c) (b := b) hsb.1 hsb.2
   by_cases he : (makeG g (stepSet g i c b) tb).2.2 = 0
   ·rw [stepG_new hck hw tb he]
    obtain ⟨n, m1, m2, m3, m4, m5, m6, m7⟩ := makeG_ok he
    rw [hset] at m1 m2 m3 m4 m5 m6 m7 ⊢
    obtain ⟨hM, hpre⟩ := h.made hub.1 hub.2 tb
    generalize makeG g (upd s c b) tb = M at m1 m2 m3 m4 m5 m6 m7 hM hpre ⊢
    rw [m1]
    simp only [Int.toNat_natCast]
    have hhu := hasB_upd b hsb.1 hsb.2 hid
    have hbk := upd_back hsb.1 hsb.2 hid c4
    have hne : ((i, c, b) : Int × Int × Bool) ≠ ((n : Int), c, !b) := by
     intro e
     simp at e
    have hi2 : M.1.sigs[i.toNat]? = some s := hpre _ _ c2
    refine ⟨⟨hM.nd, hM.ids, hM.bd, ?_⟩, fun _ => ⟨n, rfl, ?_, ⟨s, c2, m6⟩, c1⟩⟩
    ·intro i' c' b' n' hy
     simp only [putW] at hy ⊢
     by_cases e1 : ((i', c', b') : Int × Int × Bool) = ((n : Int), c, !b)
     ·rw [if_pos e1] at hy
      simp only [Prod.mk.injEq] at e1
      obtain ⟨rfl, rfl, rfl⟩ := e1
      cases hy
      refine ⟨by omega, by show (findC c' M.1.cs).isSome = true; rw [m5]; exact c5, ⟨upd s c' b, by rw [Int.toNat_natCast]; exact m6, by rw [hhu]; simp, by rw [hbk]; exact hi2⟩, ?_⟩
      have e2 : ((i.toNat : Int), c', !!b) = (i, c', b) := by simp; omega
      rw [e2, if_neg hne, if_pos rfl]
      simp
     ·rw [if_neg e1] at hy
      by_cases e2 : ((i', c', b') : Int × Int × Bool) = (i, c, b)
      ·rw [if_pos e2] at hy
       simp only [Prod.mk.injEq] at e2
       obtain ⟨rfl, rfl, rfl⟩ := e2
       cases hy
       refine ⟨c1, by show (findC c' M.1.cs).isSome = true; rw [m5]; exact c5, ⟨s, hi2, c4, m6⟩, ?_⟩
       rw [if_pos rfl]
      ·rw [if_neg e2] at hy
       obtain ⟨a1, a2, ⟨s', a3, a4, a5⟩, a6⟩ := h.wy i' c' b' n' hy
       refine ⟨a1, by show (findC c' M.1.cs).isSome = true; rw [m5]; exact a2, ⟨s', hpre _ _ a3, a4, hpre _ _ a5⟩, ?_⟩
       by_cases e3 : (((n' : Int), c', !b') : Int × Int × Bool) = ((n : Int), c, !b)
       ·simp only [Prod.mk.injEq] at e3
        obtain ⟨f1, rfl, f3⟩ := e3
        obtain rfl : n' = n := by omega
        obtain rfl : b' = b := by cases b <;> cases b' <;> simp_all
        have hs' := hpre _ _ a5
        rw [m6] at hs'
        have hbd' := h.bd _ _ a3
        have hbk' := upd_back hbd'.1 hbd'.2 hid a4
        rw [← Option.some.inj hs', hbk] at hbk'
        subst hbk'
        have q1 := h.nd _ _ a3
        have q2 := h.nd _ _ c2
        rw [q1] at q2
        have := Option.some.inj q2
        exact absurd (show (i', c', b') = (i, c', b') by simp; omega) e2
       ·rw [if_neg e3]
        by_cases e4 : (((n' : Int), c', !b') : Int × Int × Bool) = (i, c, b)
        ·rw [e4] at a6; rw [hw] at a6; cases a6
        ·rw [if_neg e4]; exact a6
    ·show putW _ _ _ _ = _
     unfold putW
     rw [if_neg hne, if_pos rfl]
   ·rw [stepG_err hck hw tb he]
    exact ⟨h, fun e => absurd e he⟩
 ·rw [stepG_chk hck]
  exact ⟨h, fun e => absurd e hck⟩
theorem compsGo_ids : ∀ (cs : List Cmp) (last : Int) (seen : List (List UInt8)), 0 ≤ last → compsGo last seen cs = 0 → ∀ c ∈ cs, 1 ≤ c.id ∧ c.id ≤ 24
 | [], _, _, _, _, c, hc => by cases hc
 | x :: r, last, seen, hl, h, c, hc => by
  unfold compsGo at h
  split at h
  ·simp at h
  ·split at h
   ·simp at h
   ·split at h
    ·contradiction
    ·rcases List.mem_cons.1 hc with rfl | hc
     ·omega
     ·exact compsGo_ids r _ _ (by omega) h c hc
theorem inv_new {ver archs rows : Int} {cs : List Cmp} (h : newOk ver cs archs rows = true) : Inv (GS0 ver cs archs rows) := by
 refine ⟨fun i s hs => by simp [GS0, GS.sigs] at hs, fun c hc => ?_, fun i s hs => by simp [GS0, GS.sigs] at hs, fun i c b n hw => by simp [GS0] at hw⟩
 have hk : schemaCheck ver cs = 0 := by
  unfold newOk at h
  simp at h
  exact h.1.1.1.1
 unfold schemaCheck at hk
 split at hk
 ·simp at hk
 ·obtain ⟨x, hx⟩ := Option.isSome_iff_exists.1 hc
  have hm : x ∈ cs := List.mem_of_find?_eq_some hx
  have he := List.find?_some hx
  simp at he
  have := compsGo_ids cs 0 [] (by omega) hk x hm
  exact idB_true (by omega) (by omega)
end Go.Proofs.YthmpknlgkflhiabGreat
namespace Go.Proofs.YthmpknlgkflhiabGreat
open Go.RowKit
set_option linter.unusedVariables false
theorem pow_mask : ∀ n, n < 25 → 1 ≤ n → ((2 : Nat) ^ n &&& 4261412865) = 0 := by decide
theorem sIs_w {s : Nat} (hs : s < 4294967296) : sIs (s : Int) = (s &&& 4261412865 == 0) := by
 unfold sIs
 rw [show (33554430 : Int) = ((33554430 : Nat) : Int) from rfl, u32_andNot_nat _ _ hs (by omega)]
 show (((s &&& 4261412865 : Nat) : Int) == 0) = _
 by_cases h : s &&& 4261412865 = 0
 ·rw [h]; rfl
 ·rw [beq_false_of_ne h, beq_false_of_ne (by omega)]
theorem sIs_with {s c : Int} (h0 : 0 ≤ s) (h1 : s ≤ 4294967295) (hc : idB c = true) (h : sIs s = true) : sIs (sWith s c) = true := by
 obtain ⟨s, rfl⟩ := Int.eq_ofNat_of_zero_le h0
 obtain ⟨n, rfl, n1, n2⟩ := idNat hc
 have hs : s < 4294967296 := by omega
 have hp : 2 ^ n < 4294967296 := by
  have : 2 ^ n ≤ 2 ^ 24 := Nat.pow_le_pow_right (by omega) n2
  omega
 rw [withNat hs n1 n2, sIs_w (Nat.or_lt_two_pow (n := 32) hs hp)]
 rw [sIs_w hs] at h
 rw [Nat.and_or_distrib_right, pow_mask n (by omega) n1, Nat.or_zero]
 exact h
theorem sIs_without {s c : Int} (h0 : 0 ≤ s) (h1 : s ≤ 4294967295) (hc : idB c = true) (h : sIs s = true) : sIs (sWithout s c) = true := by
 obtain ⟨s, rfl⟩ := Int.eq_ofNat_of_zero_le h0
 obtain ⟨n, rfl, n1, n2⟩ := idNat hc
 have hs : s < 4294967296 := by omega
 rw [sWithout_nat hs n1 n2]
 rw [sIs_w hs] at h
 rw [sIs_w (Nat.lt_of_le_of_lt Nat.and_le_left hs)]
 rw [beq_iff_eq] at *
 rw [Nat.and_assoc, Nat.and_comm (4294967295 - 2 ^ n), ← Nat.and_assoc, h, Nat.zero_and]
theorem sIs_fold (ids : List Int) (h : ids.all idB = true) : sIs (foldS ids) = true := by
 have : ∀ (l : List Int) (s : Int), l.all idB = true → 0 ≤ s → s ≤ 4294967295 → sIs s = true → sIs (l.foldl sWith s) = true := by
  intro l
  induction l with
  | nil => intro s _ _ _ hs; exact hs
  | cons x r ih =>
   intro s hl h0 h1 hs
   rw [List.all_cons, Bool.and_eq_true] at hl
   obtain ⟨a, b⟩ := withBd (n := x) h0 h1
   exact ih _ hl.2 a b (sIs_with h0 h1 hl.1 hs)
 exact this ids 0 h (by omega) (by omega) (by kernel_rfl)
theorem nd_len {l m : List Int} (hl : l.Nodup) (hm : m.Nodup) (h : ∀ x, x ∈ l ↔ x ∈ m) : l.length = m.length := (nd_perm hl hm h).length_eq
theorem cpsGo_seen (cs : List Cmp) : ∀ (ps seen : List PW), cpsGo cs seen ps = 0 → (ps.map (·.comp)).Nodup ∧ ∀ p ∈ ps, ∀ q ∈ seen, q.comp ≠ p.comp
 | [], _, _ => ⟨List.nodup_nil, fun p hp => by cases hp⟩
 | p :: r, seen, h => by
  unfold cpsGo at h
  split at h
  ·cases h
  ·rename_i h0
   split at h
   ·rename_i h1; exact absurd h h1
   ·obtain ⟨h2, h3⟩ := cpsGo_seen cs r _ h
    refine ⟨?_, fun x hx q hq => ?_⟩
    ·rw [List.map_cons, List.nodup_cons]
     refine ⟨fun hm => ?_, h2⟩
     obtain ⟨x, hx, he⟩ := List.mem_map.1 hm
     exact h3 x hx p (by simp) he.symm
    ·rcases List.mem_cons.1 hx with rfl | hx
     ·intro he
      apply h0
      rw [List.any_eq_true]
      exact ⟨q, hq, by simpa using he⟩
     ·exact h3 x hx q (List.mem_append_left _ hq)
theorem cpsGo_mk (cs : List Cmp) : ∀ (ps seen : List PW), (ps.map (·.comp)).Nodup → (∀ p ∈ ps, ∀ q ∈ seen, q.comp ≠ p.comp) → (∀ p ∈ ps, cpF cs p = 0) → cpsGo cs seen ps = 0
 | [], _, _, _, _ => by unfold cpsGo; rfl
 | p :: r, seen, h1, h2, h3 => by
  rw [List.map_cons, List.nodup_cons] at h1
  unfold cpsGo
  rw [if_neg, if_neg (by rw [h3 p (by simp)]; simp)]
  ·refine cpsGo_mk cs r _ h1.2 (fun x hx q hq => ?_) (fun x hx => h3 x (by simp [hx]))
   rcases List.mem_append.1 hq with hq | hq
   ·exact h2 x (by simp [hx]) q hq
   ·obtain rfl : q = p := by simpa using hq
    intro he
    exact h1.1 (by rw [he]; exact List.mem_map_of_mem (f := (·.comp)) hx)
  ·rw [List.any_eq_true]
   rintro ⟨q, hq, he⟩
   exact h2 p (by simp) q hq (by simpa using he)
structure PartsOk (cs : List Cmp) (ps : List PW) : Prop where
 nd : (comps ps).Nodup
 fit : ∀ p ∈ ps, cpF cs p = 0
 ids : (comps ps).all idB = true
theorem cpF_find {cs : List Cmp} {p : PW} (h : cpF cs p = 0) : ∃ c, findC p.comp cs = some c ∧ fitF c.fields p.val = 0 := by
 unfold cpF at h
 cases hf : findC p.comp cs with
 | none => rw [hf] at h; cases h
 | some c => rw [hf] at h; exact ⟨c, rfl, h⟩
theorem PartsOk.of {ver : Int} {cs : List Cmp} {ps : List PW} (hs : schemaCheck ver cs = 0) (h : cpsGo cs [] ps = 0) : PartsOk cs ps := by
 have hfit := cpsGo_zero cs ps [] h
 refine ⟨(cpsGo_seen cs ps [] h).1, hfit, ?_⟩
 have hids : ∀ c ∈ cs, 1 ≤ c.id ∧ c.id ≤ 24 := by
  unfold schemaCheck at hs
  split at hs
  ·cases hs
  ·exact compsGo_ids cs 0 [] (by omega) hs
 rw [List.all_eq_true]
 intro x hx
 obtain ⟨p, hp, rfl⟩ := List.mem_map.1 hx
 obtain ⟨c, hc, _⟩ := cpF_find (hfit p hp)
 have h1 := hids c (findC_mem hc)
 have h2 := findC_id hc
 exact idB_true (by omega) (by omega)
section
variable {cs : List Cmp} {ps : List PW} (h : PartsOk cs ps)
include h
theorem PartsOk.mem (i : Int) : i ∈ idsTo (foldS (comps ps)) 24 ↔ i ∈ comps ps := by
 constructor
 ·intro hi
  obtain ⟨h1, h2⟩ := idsTo_mem hi
  rw [has_fold h2 _ h.ids] at h1
  simpa using h1
 ·intro hi
  have h2 : idB i = true := by have := h.ids; rw [List.all_eq_true] at this; exact this i hi
  obtain ⟨n, rfl, n1, n2⟩ := idNat h2
  unfold idsTo
  rw [List.mem_filter]
  refine ⟨List.mem_map.2 ⟨n - 1, List.mem_range.2 (by omega), by omega⟩, ?_⟩
  rw [has_fold h2 _ h.ids]
  simpa using hi
theorem PartsOk.parts : partsF ps = (foldS (comps ps), 0) := by
 unfold partsF
 rw [if_pos h.ids, if_pos]
 rw [nd_len (idsTo_nodup _ _) h.nd (fun x => h.mem x)]
 simp [comps]
theorem PartsOk.tableOk {ver most : Int} (hs : schemaCheck ver cs = 0) (m1 : 1 ≤ most) (m2 : most ≤ 256) : tableOk ver cs (foldS (comps ps)) most = true := by
 unfold Go.Proofs.YthmpknlgkflhiabGreat.tableOk
 rw [hs, sIs_fold _ h.ids]
 simp only [m1, m2, decide_true, Bool.and_true, beq_self_eq_true, Bool.true_and]
 rw [List.all_eq_true]
 intro i hi
 obtain ⟨p, hp, rfl⟩ := List.mem_map.1 ((h.mem i).1 hi)
 obtain ⟨c, hc, _⟩ := cpF_find (h.fit p hp)
 rw [hc]; rfl
end
theorem findC_like {cs tcs : List Cmp} {ids : List Int} (hl : ids.map (findC · cs) = tcs.map some) (hn : ids.Nodup) {i : Int} (hi : i ∈ ids) : findC i tcs = findC i cs := by
 induction ids generalizing tcs with
 | nil => cases hi
 | cons x r ih =>
  cases tcs with
  | nil => simp at hl
  | cons c rest =>
   rw [List.map_cons, List.map_cons] at hl
   obtain ⟨h1, h2⟩ := List.cons.inj hl
   rw [List.nodup_cons] at hn
   have hcid := findC_id h1
   by_cases e : i = x
   ·subst e
    rw [h1]
    unfold findC
    rw [List.find?_cons]
    simp [hcid]
   ·rw [← ih h2 hn.2 ((List.mem_cons.1 hi).resolve_left e)]
    unfold findC
    rw [List.find?_cons]
    have : ¬ c.id = i := fun e' => e (by rw [← e', hcid])
    simp [this]
theorem PartsOk.addErr {cs : List Cmp} {ps : List PW} (h : PartsOk cs ps) {t : TD} (hset : t.set = foldS (comps ps)) (hlike : (idsTo t.set 24).map (findC · cs) = t.cs.map some) {e : Int} (he : e ≠ 0) (hf : t.free ≠ 0) : addErr t e ps = 0 := by
 unfold Go.Proofs.YthmpknlgkflhiabGreat.addErr
 rw [if_neg he, h.parts, if_neg (by rw [hset]; simp)]
 have hc : cpsGo t.cs [] ps = 0 := by
  refine cpsGo_mk t.cs ps [] h.nd (fun _ _ q hq => by cases hq) fun p hp => ?_
  have hin : p.comp ∈ idsTo t.set 24 := by rw [hset, h.mem]; exact List.mem_map_of_mem (f := (·.comp)) hp
  have := h.fit p hp
  unfold cpF at *
  rw [findC_like hlike (idsTo_nodup _ _) hin]
  exact this
 rw [if_neg (by rw [hc]; simp), if_neg hf]
def valsOf (ps : List PW) (set : Int) : List (List WI) := (idsTo set 24).map fun i => match partOf ps i with | some p => p.val | none => []
theorem addRow_vals {t : TD} (hids : t.cps.map (·.c.id) = idsTo t.set 24) (ps : List PW) : addRow ps t = valsOf ps t.set := by
 unfold addRow valsOf
 rw [← hids, List.map_map]
 rfl
theorem partOf_mem {ps : List PW} (hn : (comps ps).Nodup) {p : PW} (hp : p ∈ ps) : partOf ps p.comp = some p := by
 unfold partOf
 induction ps with
 | nil => cases hp
 | cons q r ih =>
  unfold comps at hn ih
  rw [List.map_cons, List.nodup_cons] at hn
  rw [List.find?_cons]
  rcases List.mem_cons.1 hp with rfl | hp
  ·simp
  ·have : ¬ q.comp = p.comp := fun e => hn.1 (by rw [e]; exact List.mem_map_of_mem (f := (·.comp)) hp)
   simp only [this, decide_false]
   exact ih hn.2 hp
theorem PartsOk.hfit {cs : List Cmp} {ps : List PW} (h : PartsOk cs ps) {B : Nat} {w : World} {t : TD} (ht : TabIn B w t) (hset : t.set = foldS (comps ps)) (hlike : (idsTo t.set 24).map (findC · cs) = t.cs.map some) (hwf : ∀ p ∈ ps, ∀ y ∈ p.val, y.wf) :
  ∀ x ∈ t.cps, ∃ p, partOf ps x.c.id = some p ∧ fitF x.c.fields p.val = 0 ∧ ∀ y ∈ p.val, y.wf := by
 intro x hx
 have hmem : x.c.id ∈ idsTo t.set 24 := by rw [← ht.ids]; exact List.mem_map_of_mem (f := (·.c.id)) hx
 have hin : x.c.id ∈ comps ps := by rw [← h.mem, ← hset]; exact hmem
 obtain ⟨p, hp, hpc⟩ := List.mem_map.1 hin
 refine ⟨p, by rw [← hpc]; exact partOf_mem h.nd hp, ?_, hwf p hp⟩
 obtain ⟨c, hc, hfit⟩ := cpF_find (h.fit p hp)
 have h1 := find_id (by rw [ht.ids]; exact idsTo_nodup _ _) hx
 have h2 := findC_like hlike (idsTo_nodup _ _) hmem
 unfold TD.cs at h2
 rw [h1, ← hpc, hc] at h2
 cases h2
 exact hfit
end Go.Proofs.YthmpknlgkflhiabGreat
