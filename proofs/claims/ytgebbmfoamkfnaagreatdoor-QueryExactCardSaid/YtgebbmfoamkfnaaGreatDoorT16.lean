/- Plain: sets within one another, that meet; the places of those that match. · What table.Add keeps, round by round. · Contract of table.Add. · Contract of table.Drop. -/
import Derived.Test.YtgebbmfoamkfnaaGreatDoorT7
import Derived.Laws.BitsAllLaws
import Derived.Test.YtgebbmfoamkfnaaGreatDoorT14
import Derived.Test.YtgebbmfoamkfnaaGreatDoorT4
namespace Go.Proofs.YtgebbmfoamkfnaaGreatDoor
open Go.RowKit
set_option linter.unusedVariables false
def setOk (s : Int) : Prop := 0 ≤ s ∧ s < 4294967296
def within (s t : Int) : Bool := bits BinOp.andNot .u32 (bits BinOp.and .u32 s 33554430) t == 0
def meets (s t : Int) : Bool := bits BinOp.and .u32 (bits BinOp.and .u32 s t) 33554430 != 0
theorem test_div (x i : Nat) : x.testBit i = decide (x / 2 ^ i % 2 = 1) := Nat.testBit_eq_decide_div_mod_eq
theorem hasB_test {s : Int} (h : setOk s) {i : Int} (hi : idB i = true) : hasB s i = s.toNat.testBit i.toNat := by
  obtain ⟨x, rfl⟩ := Int.eq_ofNat_of_zero_le h.1
  have hx := h.2
  unfold hasB
  rw [hi, Bool.true_and]
  have e : ((x : Int) / 2 ^ i.toNat) = ((x / 2 ^ i.toNat : Nat) : Int) := by push_cast; rfl
  have hl : x / 2 ^ i.toNat ≤ x := Nat.div_le_self _ _
  rw [e, Int.toNat_natCast, test_div]
  generalize x / 2 ^ i.toNat = y at hl
  rw [u32_and _ _ (by omega) (by omega) (by omega) (by omega)]
  rw [Int.toNat_natCast, show (1 : Int).toNat = 1 from rfl, Nat.and_one_is_mod]
  by_cases hm : y % 2 = 1
  · rw [hm]; simp
  · have : y % 2 = 0 := by omega
    rw [this]; simp
theorem all_test (i : Nat) : (33554430 : Nat).testBit i = decide (1 ≤ i ∧ i ≤ 24) := by
  by_cases h : i < 25
  · have : ∀ j < 25, (33554430 : Nat).testBit j = decide (1 ≤ j ∧ j ≤ 24) := by decide
    exact this i h
  · have h2 : (33554430 : Nat) < 2 ^ i := Nat.lt_of_lt_of_le (show 33554430 < 2 ^ 25 by decide) (Nat.pow_le_pow_right (by decide) (by omega))
    rw [Nat.testBit_lt_two_pow h2]
    simp
    omega
theorem not_test {t : Nat} (ht : t < 4294967296) {i : Nat} (hi : i < 32) : (4294967295 - t).testBit i = !t.testBit i := by
  have := Nat.testBit_two_pow_sub_succ (x := t) (n := 32) (by omega) i
  rw [show 2 ^ 32 - (t + 1) = 4294967295 - t by omega] at this
  rw [this]
  simp [hi]
theorem idB_nat {i : Int} (h : idB i = true) : 1 ≤ i.toNat ∧ i.toNat ≤ 24 ∧ ((i.toNat : Nat) : Int) = i := by
  unfold idB at h
  simp at h
  omega
theorem nat_idB {j : Nat} (h1 : 1 ≤ j) (h2 : j ≤ 24) : idB (j : Int) = true := by
  unfold idB
  simp
  omega
theorem within_nat {s t : Int} (hs : setOk s) (ht : setOk t) : within s t = ((s.toNat &&& 33554430) &&& (4294967295 - t.toNat) == 0) := by
  unfold within
  have h1 : s.toNat &&& 33554430 ≤ 33554430 := Nat.and_le_right
  rw [u32_and _ _ hs.1 hs.2 (by omega) (by omega), u32_andNot _ _ (by omega) (by rw [show (33554430 : Int).toNat = 33554430 from rfl]; omega) ht.1 ht.2, Int.toNat_natCast, show (33554430 : Int).toNat = 33554430 from rfl]
  rw [Bool.eq_iff_iff, beq_iff_eq, beq_iff_eq]
  omega
theorem meets_nat {s t : Int} (hs : setOk s) (ht : setOk t) : meets s t = (s.toNat &&& t.toNat &&& 33554430 != 0) := by
  unfold meets
  have h1 : s.toNat &&& t.toNat ≤ s.toNat := Nat.and_le_left
  have hs2 := hs.2
  rw [u32_and _ _ hs.1 hs.2 ht.1 ht.2, u32_and _ _ (by omega) (by omega) (by omega) (by omega), Int.toNat_natCast, show (33554430 : Int).toNat = 33554430 from rfl]
  rw [Bool.eq_iff_iff, bne_iff_ne, bne_iff_ne]
  omega
theorem within_iff {s t : Int} (hs : setOk s) (ht : setOk t) : within s t = true ↔ ∀ i, idB i = true → hasB s i = true → hasB t i = true := by
  have ht2 := ht.2
  rw [within_nat hs ht, beq_iff_eq]
  constructor
  · intro h i hi hb
    rw [hasB_test hs hi] at hb
    rw [hasB_test ht hi]
    obtain ⟨n1, n2, n3⟩ := idB_nat hi
    have h1 := congrArg (·.testBit i.toNat) h
    simp only [Nat.testBit_and, Nat.zero_testBit, all_test, hb] at h1
    rw [not_test (by omega) (by omega)] at h1
    simpa [n1, n2] using h1
  · intro h
    apply Nat.eq_of_testBit_eq
    intro j
    rw [Nat.testBit_and, Nat.testBit_and, Nat.zero_testBit, all_test]
    by_cases hj : 1 ≤ j ∧ j ≤ 24
    · have hi := nat_idB hj.1 hj.2
      have h1 := h j hi
      rw [hasB_test hs hi, hasB_test ht hi, Int.toNat_natCast] at h1
      rw [not_test (by omega) (by omega)]
      cases hb : s.toNat.testBit j
      · simp
      · rw [h1 hb]; simp
    · simp only [decide_eq_false hj, Bool.and_false, Bool.false_and]
theorem meets_iff {s t : Int} (hs : setOk s) (ht : setOk t) : meets s t = true ↔ ∃ i, idB i = true ∧ hasB s i = true ∧ hasB t i = true := by
  rw [meets_nat hs ht, bne_iff_ne]
  constructor
  · intro h
    apply Classical.byContradiction
    intro hn
    apply h
    apply Nat.eq_of_testBit_eq
    intro j
    rw [Nat.testBit_and, Nat.testBit_and, Nat.zero_testBit, all_test]
    by_cases hj : 1 ≤ j ∧ j ≤ 24
    · have hi := nat_idB hj.1 hj.2
      cases hb : s.toNat.testBit j
      · simp
      · cases hc : t.toNat.testBit j
        · simp
        · exact absurd ⟨(j : Int), hi, by rw [hasB_test hs hi, Int.toNat_natCast]; exact hb, by rw [hasB_test ht hi, Int.toNat_natCast]; exact hc⟩ hn
    · simp only [decide_eq_false hj, Bool.and_false]
  · rintro ⟨i, hi, h1, h2⟩ h
    rw [hasB_test hs hi] at h1
    rw [hasB_test ht hi] at h2
    obtain ⟨n1, n2, n3⟩ := idB_nat hi
    have h3 := congrArg (·.testBit i.toNat) h
    simp only [Nat.testBit_and, Nat.zero_testBit, all_test, h1, h2] at h3
    simp [n1, n2] at h3
/-- Whether a set matches. -/
def matchB (al no set : Int) : Bool := within al set && !meets no set
/-- The places of those that do, from a place on. -/
def tabsGo (al no : Int) : Nat → List Int → List Int
  | _, [] => []
  | i, s :: r => if matchB al no s then (i : Int) :: tabsGo al no (i + 1) r else tabsGo al no (i + 1) r
theorem tabsGo_append (al no : Int) : ∀ (i : Nat) (l r : List Int), tabsGo al no i (l ++ r) = tabsGo al no i l ++ tabsGo al no (i + l.length) r
  | i, [], r => by simp [tabsGo]
  | i, s :: l, r => by
    have ih := tabsGo_append al no (i + 1) l r
    rw [show i + 1 + l.length = i + (s :: l).length by rw [List.length_cons]; omega] at ih
    show (if matchB al no s then (i : Int) :: tabsGo al no (i + 1) (l ++ r) else tabsGo al no (i + 1) (l ++ r)) = (if matchB al no s then (i : Int) :: tabsGo al no (i + 1) l else tabsGo al no (i + 1) l) ++ tabsGo al no (i + (s :: l).length) r
    rw [ih]
    split <;> rfl
theorem tabsGo_snoc (al no : Int) (l : List Int) (s : Int) : tabsGo al no 0 (l ++ [s]) = if matchB al no s then tabsGo al no 0 l ++ [(l.length : Int)] else tabsGo al no 0 l := by
  rw [tabsGo_append, Nat.zero_add]
  show tabsGo al no 0 l ++ (if matchB al no s then [(l.length : Int)] else []) = _
  split
  · rfl
  · rw [List.append_nil]
/-- Whether a row begins with another one. -/
def frontB (a b : List Int) : Bool := decide (a.length ≤ b.length) && (a == b.take a.length)
theorem frontB_eq {a b : List Int} (h : frontB a b = true) : ∃ r, b = a ++ r := by
  unfold frontB at h
  simp at h
  have h2 := List.take_append_drop a.length b
  rw [← h.2] at h2
  exact ⟨b.drop a.length, h2.symm⟩
end Go.Proofs.YtgebbmfoamkfnaaGreatDoor
namespace Go.Proofs.YtgebbmfoamkfnaaGreatDoor
open Go.RowKit
set_option linter.unusedVariables false
theorem colL_at (l : List CV) {k : Nat} {y : CV} (h : l[k]? = some y) : (l.flatMap colL)[k * 4]? = some (.int .i64 y.c.id) ∧ (l.flatMap colL)[k * 4 + 1]? = some (.string y.c.name) ∧ (l.flatMap colL)[k * 4 + 2]? = some (.slice y.fa y.fl y.fc) ∧ (l.flatMap colL)[k * 4 + 3]? = some (.pointer (some ⟨y.cb, 0, none⟩)) := by
 induction l generalizing k with
 | nil => cases h
 | cons x r ih =>
  cases k with
  | zero => cases h; simp [colL]
  | succ k =>
   have hr := ih (k := k) (by simpa using h)
   have e : ((x :: r).flatMap colL) = colL x ++ r.flatMap colL := by simp
   have hl : (colL x).length = 4 := rfl
   rw [e]
   refine ⟨?_, ?_, ?_, ?_⟩
   ·rw [List.getElem?_append_right (by omega), hl, show (k + 1) * 4 - 4 = k * 4 by omega]; exact hr.1
   ·rw [List.getElem?_append_right (by omega), hl, show (k + 1) * 4 + 1 - 4 = k * 4 + 1 by omega]; exact hr.2.1
   ·rw [List.getElem?_append_right (by omega), hl, show (k + 1) * 4 + 2 - 4 = k * 4 + 2 by omega]; exact hr.2.2.1
   ·rw [List.getElem?_append_right (by omega), hl, show (k + 1) * 4 + 3 - 4 = k * 4 + 3 by omega]; exact hr.2.2.2
def TD.cfoot (t : TD) (b : Nat) : Prop := ∃ d ∈ t.cols, d.foot b
structure ColsS (B : Nat) (w0 : World) (t : TD) (G : Nat → CD → CD → Prop) (k : Nat) (D : List CD) (w : World) : Prop where
 len : D.length = t.cols.length
 done : ∀ (i : Nat) (d : CD), i < k → t.cols[i]? = some d → ∃ d', D[i]? = some d' ∧ G i d d'
 rest : ∀ i, k ≤ i → D[i]? = t.cols[i]?
 colsA : ∀ (i : Nat) (d : CD), D[i]? = some d → ColAt B w d
 apart : ∀ (i j : Nat) (d e : CD), i ≠ j → D[i]? = some d → D[j]? = some e → ∀ b, d.foot b → ¬ e.foot b
 foot : ∀ (i : Nat) (d : CD), D[i]? = some d → ∀ b, d.foot b → t.cfoot b ∨ w0.heap.size ≤ b
 out : Out t.cfoot w0 w
theorem ColsS.start {B : Nat} {w : World} {t : TD} (h : TabIn B w t) (G : Nat → CD → CD → Prop) : ColsS B w t G 0 t.cols w :=
 ⟨rfl, fun i d hi => absurd hi (Nat.not_lt_zero _), fun i _ => rfl, fun i d hd => h.colsA d (List.mem_of_getElem? hd), h.apart, fun i d hd b hb => .inl ⟨d, List.mem_of_getElem? hd, hb⟩, Out.refl _ _⟩
theorem ColsS.below {B : Nat} {w0 w w1 : World} {t : TD} {G : Nat → CD → CD → Prop} {k : Nat} {D : List CD} (h : ColsS B w0 t G k D w) (hb : Below w.heap.size w w1) : ColsS B w0 t G k D w1 :=
 ⟨h.len, h.done, h.rest, fun i d hd => (h.colsA i d hd).out (F := fun _ => False) (Out.of hb) (fun _ _ => id), h.apart, h.foot, h.out.trans (Out.of (F := fun _ => False) hb) (fun _ => False.elim)⟩
theorem ColsS.step {B : Nat} {w0 w w2 : World} {t : TD} {G : Nat → CD → CD → Prop} {k : Nat} {D : List CD} (h : ColsS B w0 t G k D w) {d d' : CD} (hk : t.cols[k]? = some d) (hc : ColAt B w2 d') (ho : Out d.foot w w2) (hf : ∀ b, d'.foot b → d.foot b ∨ w.heap.size ≤ b) (hG : G k d d') : ColsS B w0 t G (k + 1) (D.set k d') w2 := by
 have hDk : D[k]? = some d := (h.rest k (Nat.le_refl _)).trans hk
 have hkl : k < D.length := (List.getElem?_eq_some_iff.1 hDk).1
 have hself : (D.set k d')[k]? = some d' := by rw [List.getElem?_set_self hkl]
 have hne : ∀ j, j ≠ k → (D.set k d')[j]? = D[j]? := fun j hj => List.getElem?_set_ne (Ne.symm hj)
 have hdc : ∀ b, d.foot b → t.cfoot b := fun b hb => ⟨d, List.mem_of_getElem? hk, hb⟩
 refine ⟨by rw [List.length_set]; exact h.len, fun i x hi hx => ?_, fun i hi => ?_, fun i x hx => ?_, fun i j x y hij hx hy b hb hb' => ?_, fun i x hx b hb => ?_, ?_⟩
 ·by_cases e : i = k
  ·subst e
   rw [hk] at hx; cases hx
   exact ⟨d', hself, hG⟩
  ·rw [hne i e]
   exact h.done i x (by omega) hx
 ·rw [hne i (by omega)]; exact h.rest i (by omega)
 ·by_cases e : i = k
  ·subst e
   rw [hself] at hx; cases hx
   exact hc
  ·rw [hne i e] at hx
   exact (h.colsA i x hx).out ho (h.apart i k x d e hx hDk)
 ·by_cases e1 : i = k
  ·subst e1
   rw [hself] at hx; cases hx
   rw [hne j (Ne.symm hij)] at hy
   rcases hf b hb with h1 | h1
   ·exact h.apart i j d y hij hDk hy b h1 hb'
   ·have := ((h.colsA j y hy).foot_ge hb').2; omega
  ·rw [hne i e1] at hx
   by_cases e2 : j = k
   ·subst e2
    rw [hself] at hy; cases hy
    rcases hf b hb' with h1 | h1
    ·exact h.apart i j x d hij hx hDk b hb h1
    ·have := ((h.colsA i x hx).foot_ge hb).2; omega
   ·rw [hne j e2] at hy
    exact h.apart i j x y hij hx hy b hb hb'
 ·by_cases e : i = k
  ·subst e
   rw [hself] at hx; cases hx
   rcases hf b hb with h1 | h1
   ·exact .inl (hdc b h1)
   ·exact .inr (by have := h.out.size; omega)
  ·rw [hne i e] at hx
   exact h.foot i x hx b hb
 ·exact h.out.trans ho (fun b hb => .inl (hdc b hb))
theorem TabIn.cfoot_ne {B : Nat} {w : World} {t : TD} (h : TabIn B w t) : ¬ t.cfoot t.tb ∧ ∀ x, (Value.slice t.ea t.ents.length t.ec).ownBlock = some x → ¬ t.cfoot x := by
 refine ⟨?_, fun x hx => ?_⟩
 ·rintro ⟨d, hd, hb⟩
  obtain ⟨cs, ty, fr, hh, ht⟩ := (h.colsA d hd).foot_ty hb
  rw [h.blk] at hh; cases hh
  rcases ht with ht | ht | ht <;> cases ht
 ·rintro ⟨d, hd, hb⟩
  obtain ⟨cs, ty, fr, hh, ht⟩ := (h.colsA d hd).foot_ty hb
  obtain ⟨cur, h2⟩ := row_type h.entsR hx
  rw [h2] at hh; cases hh
  rcases ht with ht | ht | ht <;> cases ht
theorem TabIn.cfoot_foot {t : TD} {b : Nat} (h : t.cfoot b) : t.foot b := .inr (.inr h)
theorem ColsS.fin {B : Nat} {w0 w w2 : World} {t : TD} {G : Nat → CD → CD → Prop} {k : Nat} {D : List CD} (h : ColsS B w0 t G k D w) (ht : TabIn B w0 t) (hk : k = t.cols.length) (ents : List Int) (ea : Option Addr) (ec : Nat)
  (hb : w2.heap[t.tb]? = some (.cells #[.int .i64 t.ver, .slice t.ca t.cps.length t.cc, .int .u32 t.set, .int .i64 (t.most : Int), .int .i64 (t.kept : Int), .slice ea ents.length ec, .slice t.la t.cps.length t.lc] 178 (0, 0)))
  (he : w2.ownsRow B 50 1 (.slice ea ents.length ec) ents.length (ents.map (.int .u64)))
  (ho : Out (fun b => b = t.tb ∨ (Value.slice t.ea t.ents.length t.ec).ownBlock = some b) w w2) (hea : ∀ b, (Value.slice ea ents.length ec).ownBlock = some b → (Value.slice t.ea t.ents.length t.ec).ownBlock = some b ∨ w0.heap.size ≤ b)
  (hG : ∀ (i : Nat) (d d' : CD), t.cols[i]? = some d → G i d d' → d'.cb = d.cb ∧ d'.size = d.size ∧ d'.cap = d.cap ∧ d'.rows.length = ents.length) (hroom : ents.length + t.kept ≤ t.most) :
  TabIn B w2 { t with ents := ents, ea := ea, ec := ec, cols := D } ∧ Out t.foot w0 w2 ∧ ∀ b, TD.foot { t with ents := ents, ea := ea, ec := ec, cols := D } b → t.foot b ∨ w0.heap.size ≤ b := by
 have hF : Out t.foot w0 w2 := (h.out.mono (fun x hx => .inl (TabIn.cfoot_foot hx))).trans ho (fun b hb => by
  rcases hb with hb | hb
  ·exact .inl (.inl hb)
  ·exact .inl (.inr (.inl hb)))
 have hM : ∀ b, t.foot b → Mut w0 b := fun b hb => ht.foot_mut hb
 have hw1 : w.heap[t.tb]? = _ := h.out.keep ht.blk ht.cfoot_ne.1
 have hw2 : w.ownsRow B 50 1 (.slice t.ea t.ents.length t.ec) t.ents.length (t.ents.map (.int .u64)) := ownsRow_out ht.entsR h.out ht.cfoot_ne.2
 refine ⟨⟨hb, ownsRow_out ht.comps hF (row_mut ht.comps (.inl rfl) hM), ownsRow_out ht.colsR hF (row_mut ht.colsR (.inr (.inl rfl)) hM), fun x hx => (ht.fields x hx).out hF hM, he, ht.hB, h.len.trans ht.len, fun i x d' hx hd' => ?_, fun d hd => ?_, h.apart, ht.lay, ht.n24, ht.most1, ht.most2, hroom, ht.set0, ht.set1, ht.ids⟩, hF, fun b hb => ?_⟩
 ·have hd3 : D[i]? = some d' := hd'
  have hi : i < t.cols.length := by have := (List.getElem?_eq_some_iff.1 hd3).1; have := h.len; omega
  obtain ⟨d0, hd0⟩ : ∃ d, t.cols[i]? = some d := ⟨_, List.getElem?_eq_getElem hi⟩
  obtain ⟨d'', h1, h2⟩ := h.done i d0 (by omega) hd0
  have hd2 : D[i]? = some d' := hd'
  rw [h1] at hd2
  cases hd2
  obtain ⟨g1, g2, g3, g4⟩ := hG i d0 d' hd0 h2
  obtain ⟨k1, k2, k3, k4⟩ := ht.col i x d0 hx hd0
  exact ⟨g1.trans k1, g2.trans k2, g3.trans k3, g4⟩
 ·obtain ⟨i, hi⟩ := List.getElem?_of_mem hd
  have hc := h.colsA i d hi
  refine hc.out ho (fun b hb hb' => ?_)
  obtain ⟨cs, ty, fr, hh, hty⟩ := hc.foot_ty hb
  rcases hb' with rfl | hb'
  ·rw [hw1] at hh; cases hh
   rcases hty with ht | ht | ht <;> cases ht
  ·obtain ⟨cur, h2⟩ := row_type hw2 hb'
   rw [h2] at hh; cases hh
   rcases hty with ht | ht | ht <;> cases ht
 ·rcases hb with rfl | hb | ⟨d, hd, hb⟩
  ·exact .inl (.inl rfl)
  ·rcases hea b hb with h1 | h1
   ·exact .inl (.inr (.inl h1))
   ·exact .inr h1
  ·obtain ⟨i, hi⟩ := List.getElem?_of_mem hd
   rcases h.foot i d hi b hb with h1 | h1
   ·exact .inl (.inr (.inr h1))
   ·exact .inr h1
end Go.Proofs.YtgebbmfoamkfnaaGreatDoor
namespace Go.Proofs.YtgebbmfoamkfnaaGreatDoor
open Go.RowKit
set_option linter.unusedVariables false
theorem ret_ii {a b c d : Int} (h1 : a = c) (h2 : b = d) : Ending.returned (.tuple #[.int .i64 a, .int .i64 b]) = .returned (.tuple #[.int .i64 c, .int .i64 d]) := by rw [h1, h2]
theorem Tryz.info50 : (Tryz.prog.info? 50).map (fun i => (i.zero, i.size, i.bytes)) = some (some (.int .u64 0), 1, 8) := by kernel_rfl
def PutG (ps : List PW) (cps : List CV) (i : Nat) (d d' : CD) : Prop := ∀ x, cps[i]? = some x → d'.rows = d.rows ++ [rowOf ps x] ∧ d'.cb = d.cb ∧ d'.size = d.size ∧ d'.cap = d.cap
def Added (B : Nat) (t : TD) (e : Int) (ps : List PW) (w w' : World) : Prop :=
 ∃ ea ec D, TabIn B w' { t with ents := t.ents ++ [e], ea := ea, ec := ec, cols := D } ∧ (∀ (i : Nat) (d d' : CD), t.cols[i]? = some d → D[i]? = some d' → PutG ps t.cps i d d') ∧ Out t.foot w w' ∧
  ∀ b, TD.foot { t with ents := t.ents ++ [e], ea := ea, ec := ec, cols := D } b → t.foot b ∨ w.heap.size ≤ b
def add_list (PB : Nat) (fa : Option Addr) (fl fc : Nat) (pa : Option Addr) (pl pc : Nat) (id : Int) (va : Option Addr) (vl vc : Nat) (row : ByteArray) : List (Value → World → Prop) :=
 [IsV (.pointer (some ⟨PB, 0, none⟩)),
  IsV (.pointer (some ⟨PB, 2, none⟩)),
  IsV (.slice fa fl fc),
  IsV (.slice pa pl pc),
  IsV (.pointer (some ⟨PB, 0, none⟩)),
  IsV (.pointer (some ⟨PB, 0, none⟩)),
  IsV (.int .i64 id),
  IsV (.slice va vl vc),
  IsV (.tuple #[.string row, .int .i64 0]),
  IsV (.tuple #[.string row, .int .i64 0]),
  IsV (.string row),
  IsV (.int .i64 0),
  IsV (.string row),
  IsV (.int .i64 0)]
theorem add_list_lasts (PB : Nat) (fa : Option Addr) (fl fc : Nat) (pa : Option Addr) (pl pc : Nat) (id : Int) (va : Option Addr) (vl vc : Nat) (row : ByteArray) : ∀ p ∈ add_list PB  fa  fl fc  pa  pl pc  id  va  vl vc  row , Lasts p := by
 simp only [add_list, List.mem_cons, List.not_mem_nil, or_false]
 rintro p hp
 repeat (rcases hp with rfl | hp; exact lasts_v _)
section
variable {B : Nat} {w : World} {t : TD}
set_option maxRecDepth 100000 in
set_option maxHeartbeats 4000000 in
theorem tabAdd_ok (h : TabIn B w t) (e : Int) (ps : List PW) (pa : Option Addr) (pl pc : Nat) (hps : ∀ w', Out t.cfoot w w' → PartsAt w'.heap.size w' pa pl pc ps) (hl : pl ≤ 100000) (herr : addErr t e ps = 0) :
  Calls Tryz.prog 53 #[.pointer (some ⟨t.tb, 0, none⟩), .int .u64 e, .slice pa pl pc] w fun en w' => en = .returned (.tuple #[.int .i64 (t.ents.length : Int), .int .i64 0]) ∧ Added B t e ps w w' := by
 obtain ⟨i0, hi, hz0, hz1, hz2⟩ := info_parts Tryz.info50
 have hB : B ≤ w.heap.size := by have := h.hB; have := lt_some h.blk; omega
 have hc := tabCheck_in h e ps pa pl pc (hps w (Out.refl _ _)) hl
 rw [herr] at hc
 obtain ⟨hfree, hok⟩ := add_ok h.ids herr
 have hroom := h.room
 have hm2 := h.most2
 have hn24 := h.n24
 have hlen := h.len
 have HC := Lib.hid hc
 have HH := Lib.hid h
 have HPS := Lib.hid hps
 have HOK := Lib.hid hok
 have HFREE := Lib.hid hfree
 have HLEN := Lib.hid hlen
 clear h hc hok hps hfree hlen herr
 go_enter Tryz.func53, Tryz.ntmps53
 go_wp2_with fail
 refine HC.out.mono ?_
 rintro en w1 ⟨rfl, hb1⟩
 have H1 := Lib.hid (HH.out.below hb1)
 have HB1 := Lib.hid hb1
 obtain ⟨c0, c1, c2, c3, c4, c5, c6, fz⟩ := H1.out.cells
 clear HC hb1 fz
 go_wp2_with fail
 clear c0 c1 c2 c3 c4 c5 c6
 obtain ⟨n, hn⟩ : ∃ n, t.cps.length = n := ⟨_, rfl⟩
 rw [hn] at hn24 ⊢
 have HN := Lib.hid hn
 clear hn
 go_loopw [25] (fun i wr => ∃ (k : Nat) (D : List CD), k ≤ n ∧ i = .int .i64 (k : Int) ∧ ColsS B w t (PutG ps t.cps) k D wr) (fun i _ => n - (intOf i).toNat)
 case atStart => exact ⟨0, t.cols, Nat.zero_le _, rfl, (ColsS.start HH.out _).below HB1.out⟩
 case round =>
  obtain ⟨k, D, hk, rfl, hst⟩ := hrel
  have HST := Lib.hid hst
  clear hst
  by_cases hlt : k < n
  ·obtain ⟨x, hx⟩ : ∃ x, t.cps[k]? = some x := ⟨_, List.getElem?_eq_getElem (by have := HN.out; omega)⟩
   obtain ⟨d, hd⟩ : ∃ d, t.cols[k]? = some d := ⟨_, List.getElem?_eq_getElem (by have := HN.out; have := HLEN.out; omega)⟩
   obtain ⟨p, hpo, hpm, hpc, hpf, hrow⟩ := HOK.out x (List.mem_of_getElem? hx)
   obtain ⟨k1, k2, k3, k4⟩ := HH.out.col k x d hx hd
   have hM : ∀ b, t.cfoot b → Mut w b := fun b hb => HH.out.foot_mut (TabIn.cfoot_foot hb)
   have hcr := ownsRow_out HH.out.colsR HST.out.out (row_mut HH.out.colsR (.inr (.inl rfl)) hM)
   have hfx := (HH.out.fields x (List.mem_of_getElem? hx)).out HST.out.out hM
   rw [HN.out] at hcr
   obtain ⟨q, hq, _, hql, hqc⟩ := row_block hcr (by omega)
   obtain ⟨g0, g1, g2, g3⟩ := colL_at t.cps hx
   have z0 := hqc _ _ g0
   have z1 := hqc _ _ g1
   have z2 := hqc _ _ g2
   have z3 := hqc _ _ g3
   rw [hq]
   have i1 : (0 : Int) ≤ (k : Int) := by omega
   have i2 : (k : Int) < (n : Int) := by omega
   have hlay := HH.out.lay x (List.mem_of_getElem? hx)
   obtain ⟨row, hrw⟩ : ∃ row : ByteArray, row = ⟨(packF x.c.fields p.val).toArray⟩ := ⟨_, rfl⟩
   have hrs : row.size = d.size := by
    rw [hrw, k2]
    show (packF x.c.fields p.val).toArray.size = _
    rw [List.size_toArray, packF_len hlay (by have := (fit_zero hpf).2.1; omega)]
   have hrl : row.data.toList = rowOf ps x := by rw [hrw, hrow]
   have HX := Lib.hid hx
   have HD := Lib.hid hd
   have HK := Lib.hid (And.intro k1 (And.intro k3 k4))
   have HPP := Lib.hid (And.intro hpo (And.intro hpm hpf))
   have HRW := Lib.hid (And.intro hrw (And.intro hrs hrl))
   have hzr := HST.out.out.size
   have HFA := Lib.hid (And.intro (fieldsAt_row hfx.row hfx.len hfx.max) (row_cap hfx.row))
   clear hx hd hpo hpm hpc hpf hrow k1 k2 k3 k4 hM hcr hfx hqc g0 g1 g2 g3 hlay hrw hrs hrl hq
   go_wp2_with fail
   have hA := heap_alloc_new wr (.cells #[.int .i64 x.c.id, .string x.c.name, .slice x.fa x.fl x.fc, .pointer (some ⟨x.cb, 0, none⟩)] 181)
   have hAb : Below wr.heap.size wr (wr.alloc (.cells #[.int .i64 x.c.id, .string x.c.name, .slice x.fa x.fl x.fc, .pointer (some ⟨x.cb, 0, none⟩)] 181)) := (Below.refl _ _).alloc (Nat.le_refl _) _
   clear z0 z1 z2 z3
   generalize wr.alloc (.cells #[.int .i64 x.c.id, .string x.c.name, .slice x.fa x.fl x.fc, .pointer (some ⟨x.cb, 0, none⟩)] 181) = wA at *
   obtain ⟨PB, hPB⟩ : ∃ PB, wr.heap.size = PB := ⟨_, rfl⟩
   have hA' : wA.heap[PB]? = some (.cells #[.int .i64 x.c.id, .string x.c.name, .slice x.fa x.fl x.fc, .pointer (some ⟨x.cb, 0, none⟩)] 181 (0, 0)) := by rw [← hPB]; exact hA
   rw [hPB]
   have HA := Lib.hid hA'
   have HAB := Lib.hid hAb
   have HPB := Lib.hid hPB
   clear hA hAb hPB hA'
   refine wp_region_frame (by kernel_rfl) (by kernel_rfl) (by kernel_rfl) (byList (add_list PB x.fa x.fl x.fc pa pl pc x.c.id p.va p.vl p.vc row)) (lasts_list (add_list_lasts PB x.fa x.fl x.fc pa pl pc x.c.id p.va p.vl p.vc row)) ?_ ?_
   ·intro vs w' iq o A F hb ho hd
    have m10 : A.tmps[10]?.getD undef = (.pointer (some ⟨PB, 0, none⟩)) := F.m (by kernel_rfl) rfl
    have m2 : A.tmps[2]?.getD undef = (.slice pa pl pc) := F.m (by kernel_rfl) rfl
    have G := F.light (n := 62) (by kernel_rfl)
    clear F
    have h7 := keep hb HA.out
    have c0 := cell_at h7 0
    have c2 := cell_at h7 2
    simp at c0 c2
    have hbw := HAB.out.trans (hb.mono HAB.out.size)
    revert ho hd
    match iq with
    | 0 =>
     intro ho hd
     obtain rfl := (Option.some.inj ho).symm
     clear hd ho
     refine step_open rfl ?_
     clear G
     exact step_run (v := (.pointer (some ⟨PB, 0, none⟩))) (by go_simp) rfl
    | 1 =>
     intro ho hd
     obtain rfl := (Option.some.inj ho).symm
     have d0 : vs 0 = (.pointer (some ⟨PB, 0, none⟩)) := hd ⟨0, .data⟩ (by simp) rfl
     clear hd ho
     have h30 := G.h (j := 0) (d := 30) rfl (by decide) d0
     refine step_open rfl ?_
     clear G
     exact step_run (v := (.pointer (some ⟨PB, 2, none⟩))) (by go_simp) rfl
    | 2 =>
     intro ho hd
     obtain rfl := (Option.some.inj ho).symm
     have d1 : vs 1 = (.pointer (some ⟨PB, 2, none⟩)) := hd ⟨1, .data⟩ (by simp) rfl
     clear hd ho
     have h31 := G.h (j := 1) (d := 31) rfl (by decide) d1
     refine step_open rfl ?_
     clear G
     exact step_run (v := (.slice x.fa x.fl x.fc)) (by go_simp) rfl
    | 3 =>
     intro ho hd
     obtain rfl := (Option.some.inj ho).symm
     clear hd ho
     refine step_open rfl ?_
     clear G
     exact step_run (v := (.slice pa pl pc)) (by go_simp) rfl
    | 4 =>
     intro ho hd
     obtain rfl := (Option.some.inj ho).symm
     clear hd ho
     refine step_open rfl ?_
     clear G
     exact step_run (v := (.pointer (some ⟨PB, 0, none⟩))) (by go_simp) rfl
    | 5 =>
     intro ho hd
     obtain rfl := (Option.some.inj ho).symm
     have d4 : vs 4 = (.pointer (some ⟨PB, 0, none⟩)) := hd ⟨4, .data⟩ (by simp) rfl
     clear hd ho
     have h34 := G.h (j := 4) (d := 34) rfl (by decide) d4
     refine step_open rfl ?_
     clear G
     exact step_run (v := (.pointer (some ⟨PB, 0, none⟩))) (by go_simp) rfl
    | 6 =>
     intro ho hd
     obtain rfl := (Option.some.inj ho).symm
     have d5 : vs 5 = (.pointer (some ⟨PB, 0, none⟩)) := hd ⟨5, .data⟩ (by simp) rfl
     clear hd ho
     have h35 := G.h (j := 5) (d := 35) rfl (by decide) d5
     refine step_open rfl ?_
     clear G
     exact step_run (v := (.int .i64 x.c.id)) (by go_simp) rfl
    | 7 =>
     intro ho hd
     obtain rfl := (Option.some.inj ho).symm
     have d3 : vs 3 = (.slice pa pl pc) := hd ⟨3, .data⟩ (by simp) rfl
     have d6 : vs 6 = (.int .i64 x.c.id) := hd ⟨6, .data⟩ (by simp) rfl
     clear hd ho
     have h33 := G.h (j := 3) (d := 33) rfl (by decide) d3
     have h36 := G.h (j := 6) (d := 36) rfl (by decide) d6
     refine step_open rfl ?_
     clear G
     go_simp
     refine (value_any x.c.id ps p _ _ _ _ (HPS.out _ (HST.out.out.trans (Out.of (F := fun _ => False) hbw) (fun _ => False.elim))) HPP.out.1).mono ?_
     rintro e w2 ⟨rfl, hb2⟩
     exact ⟨_, rfl, rfl, hb2⟩
    | 8 =>
     intro ho hd
     obtain rfl := (Option.some.inj ho).symm
     have d2 : vs 2 = (.slice x.fa x.fl x.fc) := hd ⟨2, .data⟩ (by simp) rfl
     have d7 : vs 7 = (.slice p.va p.vl p.vc) := hd ⟨7, .data⟩ (by simp) rfl
     clear hd ho
     have h32 := G.h (j := 2) (d := 32) rfl (by decide) d2
     have h37 := G.h (j := 7) (d := 37) rfl (by decide) d7
     refine step_open rfl ?_
     clear G
     go_simp
     refine (pack_ok x.c.fields _ _ _ _ _ _ p.val _ ((HFA.out.1.below hbw).mono (by have := hbw.size; omega)) HFA.out.2 ((HPS.out _ (HST.out.out.trans (Out.of (F := fun _ => False) hbw) (fun _ => False.elim))).2.2.2.1 p HPP.out.2.1) HPP.out.2.2).mono ?_
     rintro e w2 ⟨rfl, hb2⟩
     rw [← HRW.out.1]
     exact ⟨_, rfl, rfl, hb2⟩
    | 9 =>
     intro ho hd
     obtain rfl := (Option.some.inj ho).symm
     have d8 : vs 8 = (.tuple #[.string row, .int .i64 0]) := hd ⟨8, .data⟩ (by simp) rfl
     clear hd ho
     have h38 := G.h (j := 8) (d := 38) rfl (by decide) d8
     refine step_open rfl ?_
     clear G
     exact step_run (v := (.tuple #[.string row, .int .i64 0])) (by go_simp) rfl
    | 10 =>
     intro ho hd
     obtain rfl := (Option.some.inj ho).symm
     have d9 : vs 9 = (.tuple #[.string row, .int .i64 0]) := hd ⟨9, .data⟩ (by simp) rfl
     clear hd ho
     have h29 := G.h (j := 9) (d := 29) rfl (by decide) d9
     refine step_open rfl ?_
     clear G
     exact step_run (v := (.string row)) (by go_simp) rfl
    | 11 =>
     intro ho hd
     obtain rfl := (Option.some.inj ho).symm
     have d9 : vs 9 = (.tuple #[.string row, .int .i64 0]) := hd ⟨9, .data⟩ (by simp) rfl
     clear hd ho
     have h29 := G.h (j := 9) (d := 29) rfl (by decide) d9
     refine step_open rfl ?_
     clear G
     exact step_run (v := (.int .i64 0)) (by go_simp) rfl
    | 12 =>
     intro ho hd
     obtain rfl := (Option.some.inj ho).symm
     have d10 : vs 10 = (.string row) := hd ⟨10, .data⟩ (by simp) rfl
     clear hd ho
     have h39 := G.h (j := 10) (d := 39) rfl (by decide) d10
     refine step_open rfl ?_
     clear G
     exact step_run (v := (.string row)) (by go_simp) rfl
    | 13 =>
     intro ho hd
     obtain rfl := (Option.some.inj ho).symm
     have d11 : vs 11 = (.int .i64 0) := hd ⟨11, .data⟩ (by simp) rfl
     clear hd ho
     have h40 := G.h (j := 11) (d := 40) rfl (by decide) d11
     refine step_open rfl ?_
     clear G
     exact step_run (v := (.int .i64 0)) (by go_simp) rfl
    | n + 14 =>
     intro ho hd
     simp at ho
   ·intro vs w7 hb hR
    have hv : vs 12 = .string row := hR 12 (by simp)
    have h7 := keep hb HA.out
    have hb7 := HAB.out.trans (hb.mono HAB.out.size)
    have HB7 := Lib.hid hb7
    have q3 := cell_at h7 3
    simp at q3
    simp only [putAll, Act.put, List.setIfInBounds_toArray, List.set_cons_succ, List.set_cons_zero]
    rw [hv]
    generalize vs 0 = y0
    generalize vs (0 + 1) = y1
    generalize vs (0 + 1 + 1) = y2
    generalize vs (0 + 1 + 1 + 1) = y3
    clear hR hb hv hb7
    go_wp2_with fail
    have hs7 : ColsS B w t (PutG ps t.cps) k D w7 := HST.out.below HB7.out
    have hcd := hs7.colsA k d ((hs7.rest k (Nat.le_refl _)).trans HD.out)
    have hfr := HFREE.out
    have happ := colAppend_any B w7 d row hcd HRW.out.2.1 (by rw [HK.out.2.1, HK.out.2.2]; unfold TD.free at hfr; omega) (by have := hs7.out.size; omega)
    rw [HK.out.1] at happ
    have HAPP := Lib.hid happ
    have HS7 := Lib.hid hs7
    clear hs7 hcd happ hfr q3
    refine HAPP.out.mono ?_
    rintro en w8 ⟨rfl, va8, vc8, gs8, cf8, hcol, hout, hfoot⟩
    have hst8 := HS7.out.step HD.out hcol hout hfoot (show PutG ps t.cps k d _ from fun y hy => by
     rw [HX.out] at hy
     cases hy
     exact ⟨by rw [HRW.out.2.2], HK.out.1.symm, rfl, rfl⟩)
    have HST8 := Lib.hid hst8
    clear hcol hout hfoot hst8 HAPP
    go_wp2_with fail
    go_roundw
    case rel => exact ⟨k + 1, _, by omega, by go_num, HST8.out⟩
    case measure => simp [intOf]; omega
  ·obtain rfl : k = n := by omega
   have hb0 := HST.out.out.keep HH.out.blk HH.out.cfoot_ne.1
   have he0 := ownsRow_out HH.out.entsR HST.out.out HH.out.cfoot_ne.2
   have c5 := cell_at hb0 5
   have f5 := free_at hb0 5
   simp at c5
   have hzr := HST.out.out.size
   have hbt := lt_some hb0
   obtain ⟨L, hL⟩ : ∃ L, t.ents.length = L := ⟨_, rfl⟩
   rw [hL] at c5
   have hown : (wr.alloc (.cells #[.int .u64 e] 50)).ownsRow B 50 1 (.slice t.ea L t.ec) L (t.ents.map (.int .u64)) := by rw [← hL]; exact he0.alloc _
   have hLm : L ≤ 256 := by omega
   have hw1 : IntKind.i64.wrap ((L : Int) + 1 - 1) = (L : Int) := by rw [IntWalk.i64_in _ (by omega)]; omega
   have hw2 : IntKind.i64.wrap (L : Int) = (L : Int) := IntWalk.i64_in _ (by omega)
   have HL := Lib.hid hL
   have HOWN := Lib.hid hown
   have HB0 := Lib.hid hb0
   have HE0 := Lib.hid he0
   clear hL hown hb0 he0
   have hm1 : L + 1 ≤ maxLen := by unfold maxLen; omega
   go_wp2_with (at_builtin; go_loud (refine wpList_append_lies _ (by rfl) _ _ 57 (by rfl) B 50 i0 (.int .u64 0) 1 8 Tryz.underlying57 hi hz0 hz1 hz2 rfl (by omega) (.slice t.ea L t.ec) L _ (by rfl) HOWN.out ⟨wr.heap.size, 0, none⟩ 1 1 [.int .u64 e] (by rfl) (by rfl) ?c1 ?c2 (by omega) hm1 (by omega) ?c5 (wr.heap.size + 1) (by simp) ?_))
   case c1 =>
    intro j u hj
    match j, hj with
    | 0, hj => simp at hj; subst hj; simp [Addr.add]
   case c2 => intro u hu; simp at hu; subst hu; rfl
   case c5 => simp; omega
   intro g cap w6 hown6 hg6 hat6 hlt6
   have hne : some t.tb ≠ (Value.slice t.ea L t.ec).ownBlock := by
    have := ownsRow_ne_block3 HE0.out HB0.out (fun cur he => by cases he)
    rw [HL.out] at this
    exact this
   have hb6 := keepG hg6 (keepA (.cells #[.int .u64 e] 50) HB0.out) hne
   have d5 := cell_at hb6 5
   have g5 := free_at hb6 5
   rw [HL.out] at d5
   simp at d5
   have hout6 : Out (fun b => b = t.tb ∨ (Value.slice t.ea t.ents.length t.ec).ownBlock = some b) wr (w6.setCell ⟨t.tb, 5, none⟩ (.slice (some ⟨g, 0, none⟩) (L + 1) cap)) := by
    have h1 : Out (fun b => b = t.tb ∨ (Value.slice t.ea t.ents.length t.ec).ownBlock = some b) wr w6 := ⟨hg6.os, hg6.tape, hg6.output, by have := hg6.size; simp at this; omega, fun j hj hF => (hg6.block j (by simp; omega) (fun e => hF (.inr (by rw [HL.out]; exact e.symm)))).trans (by rw [halloc, if_neg (by omega)])⟩
    exact h1.trans (Out.only (Only.at w6 t.tb 5 _) (.inl rfl)) (fun x h => .inl h)
   have hblk6 := hset w6 t.tb 5 (.slice (some ⟨g, 0, none⟩) (L + 1) cap) _ _ _ hb6
   have hown7 := ownsRow_out hown6 (Out.only (F := fun b => b = t.tb) (Only.at w6 t.tb 5 (.slice (some ⟨g, 0, none⟩) (L + 1) cap)) rfl) (fun x hx he => by
    subst he
    exact ownsRow_ne_block3 hown6 hb6 (fun cur he => by cases he) hx.symm)
   have hlen : (t.ents ++ [e]).length = L + 1 := by rw [List.length_append, HL.out]; rfl
   have hfin := HST.out.fin HH.out (by rw [HLEN.out, HN.out]) (t.ents ++ [e]) (some ⟨g, 0, none⟩) cap (w2 := w6.setCell ⟨t.tb, 5, none⟩ (.slice (some ⟨g, 0, none⟩) (L + 1) cap)) (by rw [hlen]; simpa using hblk6) (by rw [hlen, List.map_append]; exact hown7) hout6 (fun b hb => by
    have hb' : g = b := by simpa [Value.ownBlock] using hb
    subst hb'
    rcases hat6 with h1 | h1
    ·exact .inl (by rw [HL.out]; exact h1)
    ·exact .inr (by omega)) (fun i d d' hd hG => by
    have hxi : i < t.cps.length := by rw [← HLEN.out]; exact (List.getElem?_eq_some_iff.1 hd).1
    obtain ⟨x, hx⟩ : ∃ x, t.cps[i]? = some x := ⟨_, List.getElem?_eq_getElem hxi⟩
    obtain ⟨k1, k2, k3, k4⟩ := HH.out.col i x d hx hd
    obtain ⟨g1, g2, g3, g4⟩ := hG x hx
    exact ⟨g2, g3, g4, by rw [g1, List.length_append, hlen, k4, HL.out]; rfl⟩) (by have h1 := HFREE.out; have h2 := HL.out; unfold TD.free at h1; omega)
   have hput : ∀ (i : Nat) (d d' : CD), t.cols[i]? = some d → D[i]? = some d' → PutG ps t.cps i d d' := by
    intro i d d' hd hd'
    obtain ⟨d'', h1, h2⟩ := HST.out.done i d (by have := (List.getElem?_eq_some_iff.1 hd).1; have := HLEN.out; have := HN.out; omega) hd
    rw [h1] at hd'
    cases hd'
    exact h2
   have HFIN := Lib.hid hfin
   have HPUT := Lib.hid hput
   clear hfin hput hout6 hblk6 hown7 hown6 hg6 hat6 hlt6 hb6 hne hlen c5 f5
   go_wp2_with fail
   go_ret2
   exact ⟨ret_ii (by rw [HL.out]) rfl, _, _, D, HFIN.out.1, HPUT.out, HFIN.out.2.1, HFIN.out.2.2⟩
end
end Go.Proofs.YtgebbmfoamkfnaaGreatDoor
namespace Go.Proofs.YtgebbmfoamkfnaaGreatDoor
open Go.RowKit
set_option linter.unusedVariables false
def DropG (r m : Nat) (i : Nat) (d d' : CD) : Prop := ∀ l, d.rows[m]? = some l → d'.rows = (d.rows.set r l).take m ∧ d'.cb = d.cb ∧ d'.size = d.size ∧ d'.cap = d.cap
end Go.Proofs.YtgebbmfoamkfnaaGreatDoor
