/- Plain: the texts of numbers, values, parts and commands, and that they tell them apart. · bits.Div64 by ten. · wide.Text: the digits of a number. · strings.Join of a row of texts. -/
import Derived.Test.YtnhlnnehpmjeiaaGreatDoorP4
import Derived.Lib.ItoaNum
import Derived.Lib.Join
import Derived.Test.YtnhlnnehpmjeiaaGreatDoorP35
import Derived.Test.YtnhlnnehpmjeiaaGreatDoorP1
import Derived.Lib.BitFns
import Derived.Test.YtnhlnnehpmjeiaaGreatDoorP34
import Derived.Test.YtnhlnnehpmjeiaaGreatDoorP10
import Derived.Test.YtnhlnnehpmjeiaaGreatDoorP17
import Derived.Test.YtnhlnnehpmjeiaaGreatDoorP26
namespace Go.Proofs.YtnhlnnehpmjeiaaGreatDoor
open Go.RowKit
set_option linter.unusedVariables false
open Go.Lib (decDigits join joinTail)
/-- What stands ahead of a byte that neither has is one. -/
theorem cut_eq {s : UInt8} : ∀ {x y p q : List UInt8}, s ∉ x → s ∉ y → (p = [] ∨ ∃ p', p = s :: p') → (q = [] ∨ ∃ q', q = s :: q') → x ++ p = y ++ q → x = y ∧ p = q
  | [], [], _, _, _, _, _, _, h => ⟨rfl, h⟩
  | [], c :: y, p, q, _, hy, hp, _, h => by
    rcases hp with rfl | ⟨p', rfl⟩
    · cases h
    · simp only [List.nil_append, List.cons_append, List.cons.injEq] at h
      exact absurd (by rw [h.1]; exact List.mem_cons_self) hy
  | c :: x, [], p, q, hx, _, _, hq, h => by
    rcases hq with rfl | ⟨q', rfl⟩
    · cases h
    · simp only [List.nil_append, List.cons_append, List.cons.injEq] at h
      exact absurd (by rw [← h.1]; exact List.mem_cons_self) hx
  | c :: x, d :: y, p, q, hx, hy, hp, hq, h => by
    simp only [List.cons_append, List.cons.injEq] at h
    obtain ⟨h1, h2⟩ := cut_eq (fun e => hx (List.mem_cons_of_mem _ e)) (fun e => hy (List.mem_cons_of_mem _ e)) hp hq h.2
    exact ⟨by rw [h.1, h1], h2⟩
theorem join_step (s : UInt8) (x : List UInt8) (r : List (List UInt8)) : join (x :: r) [s] = x ++ (match r with | [] => [] | y :: t => s :: join (y :: t) [s]) := by
  rw [Lib.join_cons]
  cases r with
  | nil => simp [joinTail]
  | cons y t =>
    show x ++ joinTail [s] (y :: t) = x ++ (s :: join (y :: t) [s])
    rw [Lib.join_cons]
    simp [joinTail]
theorem join_inj {s : UInt8} : ∀ {a b : List (List UInt8)}, a ≠ [] → b ≠ [] → (∀ x ∈ a, s ∉ x) → (∀ x ∈ b, s ∉ x) → join a [s] = join b [s] → a = b
  | [], _, h, _, _, _, _ => absurd rfl h
  | _ :: _, [], _, h, _, _, _ => absurd rfl h
  | x :: r, y :: t, _, _, ha, hb, h => by
    rw [join_step, join_step] at h
    obtain ⟨h1, h2⟩ := cut_eq (ha x (by simp)) (hb y (by simp)) (by cases r with | nil => exact .inl rfl | cons z u => exact .inr ⟨_, rfl⟩) (by cases t with | nil => exact .inl rfl | cons z u => exact .inr ⟨_, rfl⟩) h
    subst h1
    match r, t, h2, ha, hb with
    | [], [], _, _, _ => rfl
    | [], _ :: _, h2, _, _ => cases h2
    | _ :: _, [], h2, _, _ => cases h2
    | z :: u, z' :: u', h2, ha, hb =>
      simp only [List.cons.injEq, true_and] at h2
      rw [join_inj (by simp) (by simp) (fun w hw => ha w (List.mem_cons_of_mem _ hw)) (fun w hw => hb w (List.mem_cons_of_mem _ hw)) h2]
/-- Digits. -/
theorem dd_ge {u : Nat} (h : ¬ u < 10) : decDigits u = decDigits (u / 10) ++ [UInt8.ofNat (48 + u % 10)] := by rw [decDigits, dif_neg h]
theorem ofNat_small {n : Nat} (h : n < 256) : (UInt8.ofNat n).toNat = n := by simp; omega
theorem dd_digit : ∀ (u : Nat), ∀ c ∈ decDigits u, 48 ≤ c.toNat ∧ c.toNat ≤ 57
  | u => by
    intro c hc
    by_cases h : u < 10
    · rw [Lib.decDigits_one h] at hc
      obtain rfl := List.mem_singleton.1 hc
      rw [ofNat_small (by omega)]
      omega
    · rw [dd_ge h] at hc
      rcases List.mem_append.1 hc with hc | hc
      · exact dd_digit (u / 10) c hc
      · obtain rfl := List.mem_singleton.1 hc
        rw [ofNat_small (by omega)]
        omega
  termination_by u => u
  decreasing_by omega
theorem dd_ne (u : Nat) : decDigits u ≠ [] := by
  by_cases h : u < 10
  · rw [Lib.decDigits_one h]; simp
  · rw [dd_ge h]; simp
def dval (l : List UInt8) : Nat := l.foldl (fun a c => a * 10 + (c.toNat - 48)) 0
theorem dval_dd : ∀ (u : Nat), dval (decDigits u) = u
  | u => by
    by_cases h : u < 10
    · rw [Lib.decDigits_one h]
      show 0 * 10 + ((UInt8.ofNat (48 + u)).toNat - 48) = u
      rw [ofNat_small (by omega)]
      omega
    · rw [dd_ge h]
      have ih := dval_dd (u / 10)
      unfold dval at ih ⊢
      rw [List.foldl_append, ih]
      show u / 10 * 10 + ((UInt8.ofNat (48 + u % 10)).toNat - 48) = u
      rw [ofNat_small (by omega)]
      omega
  termination_by u => u
  decreasing_by omega
theorem dd_inj {a b : Nat} (h : decDigits a = decDigits b) : a = b := by rw [← dval_dd a, h, dval_dd]
theorem dd_no {u : Nat} {s : UInt8} (h : s.toNat < 48 ∨ 57 < s.toNat) : s ∉ decDigits u := fun hm => by
  have := dd_digit u s hm
  omega
/-- A number's text. -/
def WI.mag (x : WI) : Nat := (x.hi * 18446744073709551616 + x.lo).toNat
def wtext (x : WI) : List UInt8 := if x.neg then 45 :: decDigits x.mag else decDigits x.mag
theorem wtext_inj {x y : WI} (hx : x.wf) (hy : y.wf) (h : wtext x = wtext y) : x = y := by
  obtain ⟨n, a, b⟩ := x
  obtain ⟨m, c, d⟩ := y
  obtain ⟨⟨x1, x2⟩, x3, x4⟩ := hx
  obtain ⟨⟨y1, y2⟩, y3, y4⟩ := hy
  simp only at x1 x2 x3 x4 y1 y2 y3 y4
  have hmag : ∀ {u v : Nat}, u = v → u = (a * 18446744073709551616 + b).toNat → v = (c * 18446744073709551616 + d).toNat → a = c ∧ b = d := by
    intro u v h1 h2 h3
    omega
  have hneg : ∀ {u v : Nat}, 45 :: decDigits u ≠ decDigits v := fun {u v} e => dd_no (u := v) (s := 45) (.inl (by decide)) (by rw [← e]; exact List.mem_cons_self)
  unfold wtext WI.mag at h
  simp only at h
  cases n <;> cases m
  · obtain ⟨rfl, rfl⟩ := hmag (dd_inj (by simpa using h)) rfl rfl
    rfl
  · exact absurd (by simpa using h.symm) hneg
  · exact absurd (by simpa using h) hneg
  · obtain ⟨rfl, rfl⟩ := hmag (dd_inj (by simpa using h)) rfl rfl
    rfl
theorem wtext_no {x : WI} {s : UInt8} (h : s.toNat < 45 ∨ s.toNat = 46 ∨ s.toNat = 47 ∨ 57 < s.toNat) : s ∉ wtext x := by
  unfold wtext
  split
  · intro hm
    rcases List.mem_cons.1 hm with rfl | hm
    · rcases h with h | h | h | h <;> simp at h
    · exact dd_no (by omega) hm
  · exact dd_no (by omega)
theorem wtext_dash (x : WI) : wtext x ≠ [45] := by
  unfold wtext
  split
  · intro h
    simp only [List.cons.injEq, true_and] at h
    exact dd_ne _ h
  · intro h
    exact dd_no (u := x.mag) (s := 45) (.inl (by decide)) (by rw [h]; simp)
/-- A value's text. -/
def vtext (v : List WI) : List UInt8 := if v.isEmpty then [45] else join (v.map wtext) [44]
theorem map_inj_on {v u : List WI} (hv : ∀ x ∈ v, x.wf) (hu : ∀ x ∈ u, x.wf) (h : v.map wtext = u.map wtext) : v = u := by
  induction v generalizing u with
  | nil => cases u with | nil => rfl | cons y u => cases h
  | cons x v ih =>
    cases u with
    | nil => cases h
    | cons y u =>
      simp only [List.map_cons, List.cons.injEq] at h
      rw [wtext_inj (hv x (by simp)) (hu y (by simp)) h.1, ih (fun z hz => hv z (by simp [hz])) (fun z hz => hu z (by simp [hz])) h.2]
theorem join_mem {s c : UInt8} : ∀ {l : List (List UInt8)}, c ∈ join l [s] → c = s ∨ ∃ x ∈ l, c ∈ x
  | [], h => by simp [Lib.join_nil] at h
  | x :: r, h => by
    rw [join_step] at h
    rcases List.mem_append.1 h with h | h
    · exact .inr ⟨x, by simp, h⟩
    · cases r with
      | nil => cases h
      | cons y t =>
        rcases List.mem_cons.1 h with h | h
        · exact .inl h
        · rcases join_mem h with h | ⟨z, hz, hc⟩
          · exact .inl h
          · exact .inr ⟨z, List.mem_cons_of_mem _ hz, hc⟩
theorem vtext_no {v : List WI} {s : UInt8} (h : s.toNat < 44 ∨ s.toNat = 46 ∨ s.toNat = 47 ∨ 57 < s.toNat) : s ∉ vtext v := by
  unfold vtext
  split
  · intro hm
    obtain rfl : s = 45 := by simpa using hm
    rcases h with h | h | h | h <;> simp at h
  · intro hm
    rcases join_mem hm with rfl | ⟨x, hx, hc⟩
    · rcases h with h | h | h | h <;> simp at h
    · obtain ⟨y, _, rfl⟩ := List.mem_map.1 hx
      exact wtext_no (by omega) hc
theorem vtext_inj {v u : List WI} (hv : ∀ x ∈ v, x.wf) (hu : ∀ x ∈ u, x.wf) (h : vtext v = vtext u) : v = u := by
  have h44 : ∀ {t : List WI}, ∀ z ∈ t.map wtext, (44 : UInt8) ∉ z := fun {t} z hz => by
    obtain ⟨y, _, rfl⟩ := List.mem_map.1 hz
    exact wtext_no (.inl (by decide))
  have hd : ∀ {x : WI} {t : List WI}, [45] ≠ join ((x :: t).map wtext) [44] := fun {x t} e => by
    have e1 : join [[45]] [44] = join ((x :: t).map wtext) [44] := by rw [Lib.join_one]; exact e
    have := join_inj (by simp) (by simp) (fun z hz => by simp at hz; subst hz; decide) h44 e1
    simp only [List.map_cons, List.cons.injEq] at this
    exact wtext_dash x this.1.symm
  unfold vtext at h
  cases v with
  | nil =>
    cases u with
    | nil => rfl
    | cons y u => exact absurd (by simpa using h) hd
  | cons x v =>
    cases u with
    | nil => exact absurd (by simpa using h.symm) hd
    | cons y u => exact map_inj_on hv hu (join_inj (by simp) (by simp) h44 h44 (by simpa using h))
/-- A part's text. -/
def ptext (p : Int × List WI) : List UInt8 := decDigits p.1.toNat ++ 61 :: vtext p.2
def PGood (p : Int × List WI) : Prop := 0 ≤ p.1 ∧ ∀ x ∈ p.2, x.wf
theorem ptext_inj {p q : Int × List WI} (hp : PGood p) (hq : PGood q) (h : ptext p = ptext q) : p = q := by
  obtain ⟨h1, h2⟩ := cut_eq (s := 61) (dd_no (.inr (by decide))) (dd_no (.inr (by decide))) (.inr ⟨_, rfl⟩) (.inr ⟨_, rfl⟩) h
  simp only [List.cons.injEq, true_and] at h2
  have h3 := dd_inj h1
  have h4 := vtext_inj hp.2 hq.2 h2
  have := hp.1
  have := hq.1
  exact Prod.ext (by omega) h4
theorem ptext_no (p : Int × List WI) : (32 : UInt8) ∉ ptext p := by
  intro hm
  rcases List.mem_append.1 hm with hm | hm
  · exact dd_no (.inl (by decide)) hm
  · rcases List.mem_cons.1 hm with hm | hm
    · cases hm
    · exact vtext_no (.inl (by decide)) hm
theorem pmap_inj {v u : List (Int × List WI)} (hv : ∀ x ∈ v, PGood x) (hu : ∀ x ∈ u, PGood x) (h : v.map ptext = u.map ptext) : v = u := by
  induction v generalizing u with
  | nil => cases u with | nil => rfl | cons y u => cases h
  | cons x v ih =>
    cases u with
    | nil => cases h
    | cons y u =>
      simp only [List.map_cons, List.cons.injEq] at h
      rw [ptext_inj (hv x (by simp)) (hu y (by simp)) h.1, ih (fun z hz => hv z (by simp [hz])) (fun z hz => hu z (by simp [hz])) h.2]
/-- A command, told. -/
structure CM where
  kind : Int
  ent : Int
  comp : Int
  ps : List (Int × List WI)
/-- A command that can be. -/
structure CM.Good (c : CM) : Prop where
  kind : 1 ≤ c.kind ∧ c.kind ≤ 5
  ent : 0 ≤ c.ent ∧ c.ent < 18446744073709551616
  comp : 0 ≤ c.comp
  parts : ∀ p ∈ c.ps, PGood p
  k1 : c.kind = 1 → c.ent = 0 ∧ c.comp = 0
  k2 : c.kind = 2 → c.comp = 0 ∧ c.ps = []
  k34 : c.kind = 3 ∨ c.kind = 4 → c.comp = 0
  k5 : c.kind = 5 → c.ps = []
def wordF (k : Int) : List UInt8 := if k = 1 then [115, 112, 97, 119, 110] else if k = 2 then [100, 101, 115, 112, 97, 119, 110] else if k = 3 then [97, 100, 100] else if k = 4 then [115, 101, 116] else [114, 101, 109, 111, 118, 101]
/-- Its line, word by word. -/
def CM.toks (c : CM) : List (List UInt8) := wordF c.kind :: ((if c.kind = 1 then [] else [decDigits (c.ent % 4294967296).toNat, decDigits (c.ent / 4294967296).toNat]) ++ if c.kind = 5 then [decDigits c.comp.toNat] else if c.kind = 2 then [] else c.ps.map ptext)
def CM.line (c : CM) : List UInt8 := join c.toks [32]
theorem word_inj {k j : Int} (hk : 1 ≤ k ∧ k ≤ 5) (hj : 1 ≤ j ∧ j ≤ 5) (h : wordF k = wordF j) : k = j := by
  have h1 : k = 1 ∨ k = 2 ∨ k = 3 ∨ k = 4 ∨ k = 5 := by omega
  have h2 : j = 1 ∨ j = 2 ∨ j = 3 ∨ j = 4 ∨ j = 5 := by omega
  rcases h1 with rfl | rfl | rfl | rfl | rfl <;> rcases h2 with rfl | rfl | rfl | rfl | rfl <;> first | rfl | (exfalso; revert h; decide)
theorem word_no (k : Int) : (32 : UInt8) ∉ wordF k := by
  unfold wordF
  repeat' split
  all_goals decide
theorem CM.toks_no (c : CM) : ∀ x ∈ c.toks, (32 : UInt8) ∉ x := by
  intro x hx
  unfold CM.toks at hx
  rcases List.mem_cons.1 hx with rfl | hx
  · exact word_no _
  rcases List.mem_append.1 hx with hx | hx
  · split at hx
    · cases hx
    · simp only [List.mem_cons, List.not_mem_nil, or_false] at hx
      rcases hx with rfl | rfl <;> exact dd_no (.inl (by decide))
  · split at hx
    · obtain rfl : x = _ := by simpa using hx
      exact dd_no (.inl (by decide))
    · split at hx
      · cases hx
      · obtain ⟨p, _, rfl⟩ := List.mem_map.1 hx
        exact ptext_no p
theorem CM.line_inj {c d : CM} (hc : c.Good) (hd : d.Good) (h : c.line = d.line) : c = d := by
  have ht : c.toks = d.toks := join_inj (by unfold CM.toks; simp) (by unfold CM.toks; simp) c.toks_no d.toks_no h
  obtain ⟨k, e, m, ps⟩ := c
  obtain ⟨k', e', m', ps'⟩ := d
  unfold CM.toks at ht
  simp only [List.cons.injEq] at ht
  obtain ⟨h1, h2⟩ := ht
  obtain rfl := word_inj hc.kind hd.kind h1
  have hce := hc.ent
  have hde := hd.ent
  have hcm := hc.comp
  have hdm := hd.comp
  simp only at hce hde hcm hdm
  have hent : ∀ {a b : Nat}, decDigits (e % 4294967296).toNat = decDigits (e' % 4294967296).toNat → decDigits (e / 4294967296).toNat = decDigits (e' / 4294967296).toNat → e = e' := by
    intro a b q1 q2
    have q1 := dd_inj q1
    have q2 := dd_inj q2
    omega
  have hk := hc.kind
  simp only at hk
  have h5 : k = 1 ∨ k = 2 ∨ (k = 3 ∨ k = 4) ∨ k = 5 := by omega
  rcases h5 with h5 | h5 | h5 | h5
  · obtain ⟨a1, a2⟩ := hc.k1 h5
    obtain ⟨b1, b2⟩ := hd.k1 h5
    simp only at a1 a2 b1 b2
    subst h5
    subst a1; subst a2; subst b1; subst b2
    have h2 : ps.map ptext = ps'.map ptext := by simpa using h2
    rw [pmap_inj (v := ps) (u := ps') hc.parts hd.parts h2]
  · obtain ⟨a1, a2⟩ := hc.k2 h5
    obtain ⟨b1, b2⟩ := hd.k2 h5
    simp only at a1 a2 b1 b2
    subst h5
    subst a1; subst a2; subst b1; subst b2
    simp at h2
    rw [hent (a := 0) (b := 0) h2.1 h2.2]
  · have a1 := hc.k34 h5
    have b1 := hd.k34 h5
    simp only at a1 b1
    subst a1; subst b1
    have n1 : k ≠ 1 := by omega
    have n2 : k ≠ 2 := by omega
    have n5 : k ≠ 5 := by omega
    simp only [if_neg n1, if_neg n2, if_neg n5, List.cons_append, List.nil_append, List.cons.injEq] at h2
    rw [hent (a := 0) (b := 0) h2.1 h2.2.1, pmap_inj (v := ps) (u := ps') hc.parts hd.parts h2.2.2]
  · have a1 := hc.k5 h5
    have b1 := hd.k5 h5
    simp only at a1 b1
    subst h5
    subst a1; subst b1
    simp at h2
    have h3 := dd_inj h2.2.2
    rw [hent (a := 0) (b := 0) h2.1 h2.2.1, show m = m' by omega]
theorem CM.line_ne (c : CM) : c.line ≠ [] := by
  unfold CM.line CM.toks
  rw [join_step]
  have : wordF c.kind ≠ [] := by
    unfold wordF
    repeat' split
    all_goals decide
  intro h
  exact this (List.append_eq_nil_iff.1 h).1
end Go.Proofs.YtnhlnnehpmjeiaaGreatDoor
namespace Go.Proofs.YtnhlnnehpmjeiaaGreatDoor
open Go.RowKit
set_option linter.unusedVariables false
theorem lead10_any (w : World) : Calls Tryz.prog 97 #[.int .u64 10] w fun e w' => e = .returned (.int .i64 60) ∧ w = w' := by
  go_enter Tryz.func97, Tryz.ntmps97
  go_wp2_with fail
  refine (Tryz.bits_Len64 10 _ (by omega) (by omega)).mono ?_
  rintro e w2 ⟨rfl, rfl⟩
  have hb : ((Lib.bitLen (10 : Int).toNat : Nat) : Int) = 4 := by decide +kernel
  rw [hb]
  clear hb
  go_wp2_with fail
  go_returns
  exact ⟨rfl, rfl⟩
theorem u64_div {a : Int} (h0 : 0 ≤ a) (h1 : a ≤ 18446744073709551615) : IntKind.u64.wrap (a.tdiv 10) = a / 10 := by rw [Int.tdiv_eq_ediv_of_nonneg h0, IntKind.wrap_u64]; omega
set_option maxRecDepth 100000 in
theorem div10_lo (lo : Int) (w : World) (h0 : 0 ≤ lo) (h1 : lo ≤ 18446744073709551615) : Calls Tryz.prog 84 #[.int .u64 0, .int .u64 lo, .int .u64 10] w fun e w' => e = .returned (.tuple #[.int .u64 (lo / 10), .int .u64 (lo % 10)]) ∧ ∃ n, w' = w.drewN n := by
  go_enter Tryz.func84, Tryz.ntmps84
  go_wp2_with fail
  go_quiet (fail)
  go_wp2_with fail
  go_returns
  refine ⟨?_, _, rfl⟩
  first
  | rfl
  | (show Ending.returned (.tuple #[.int .u64 (IntKind.u64.wrap (lo.tdiv 10)), .int .u64 (lo.tmod 10)]) = _; rw [u64_div h0 h1, Int.tmod_eq_emod_of_nonneg h0])
theorem or_add {hi l : Int} (g0 : 0 ≤ hi) (g1 : hi ≤ 9) (h0 : 0 ≤ l) (h1 : l < 1152921504606846976) : bits BinOp.or .u64 (hi * 1152921504606846976) l = hi * 1152921504606846976 + l := by
  obtain ⟨a, rfl⟩ := Int.eq_ofNat_of_zero_le g0
  obtain ⟨b, rfl⟩ := Int.eq_ofNat_of_zero_le h0
  rw [u64_or _ _ (by omega) (by omega) (by omega) (by omega)]
  have h := Nat.two_pow_add_eq_or_of_lt (i := 60) (b := b) (by omega) a
  have e1 : ((a : Int) * 1152921504606846976).toNat = 2 ^ 60 * a := by omega
  rw [e1, Int.toNat_natCast, ← h, show (2 : Nat) ^ 60 = 1152921504606846976 by decide]
  omega
theorem and_maskD {a : Int} (h0 : 0 ≤ a) (h1 : a ≤ 18446744073709551615) : bits BinOp.and .u64 a 4294967295 = a % 4294967296 := by
  obtain ⟨n, rfl⟩ := Int.eq_ofNat_of_zero_le h0
  rw [u64_and _ _ (by omega) (by omega) (by omega) (by omega)]
  have h := Nat.and_two_pow_sub_one_eq_mod n 32
  rw [Int.toNat_natCast, show (4294967295 : Int).toNat = 2 ^ 32 - 1 by decide, h]
  omega
theorem mask_ten : bits BinOp.and .u64 11529215046068469760 4294967295 = 0 := by rw [and_maskD (by omega) (by omega)]; decide
/-- The number's places. -/
structure D10 (hi lo A P Q1 R1 V Q0 R0 : Int) : Prop where
  hA : A = hi * 1152921504606846976 + lo / 16
  hP : P = lo % 16 * 268435456
  hQ1 : Q1 = A / 2684354560
  hR1 : R1 = A - Q1 * 2684354560
  hV : V = R1 * 4294967296 + P
  hQ0 : Q0 = V / 2684354560
  hR0 : R0 = V - Q0 * 2684354560
section
variable {hi lo A P Q1 R1 V Q0 R0 : Int} (h : D10 hi lo A P Q1 R1 V Q0 R0) (h0 : 0 ≤ lo) (h1 : lo ≤ 18446744073709551615) (g0 : 1 ≤ hi) (g1 : hi ≤ 9)
include h h0 h1 g0 g1
theorem D10.b1 : 0 ≤ A ∧ A < 11529215046068469760 ∧ 0 ≤ P ∧ P < 4294967296 ∧ 0 ≤ Q1 ∧ Q1 < 4294967296 ∧ 0 ≤ R1 ∧ R1 < 2684354560 := by
  obtain ⟨a, p, q, r, _, _, _⟩ := h
  omega
theorem D10.b2 : 0 ≤ V ∧ V < 11529215046068469760 ∧ 0 ≤ Q0 ∧ Q0 < 4294967296 ∧ 0 ≤ R0 ∧ R0 < 2684354560 := by
  obtain ⟨b1, b2, b3, b4, b5, b6, b7, b8⟩ := h.b1 h0 h1 g0 g1
  obtain ⟨_, _, _, _, v, q, r⟩ := h
  omega
omit h0 h1 g0 g1 in
theorem D10.sum : 268435456 * (hi * 18446744073709551616 + lo) = (Q1 * 4294967296 + Q0) * 2684354560 + R0 := by
  obtain ⟨a, p, q, r, v, q', r'⟩ := h
  omega
theorem D10.quo : Q1 * 4294967296 + Q0 = (hi * 18446744073709551616 + lo) / 10 := by
  have hs := h.sum
  obtain ⟨_, _, _, _, b5, b6⟩ := h.b2 h0 h1 g0 g1
  omega
theorem D10.rem : R0 / 268435456 = (hi * 18446744073709551616 + lo) % 10 := by
  have hs := h.sum
  obtain ⟨_, _, _, _, b5, b6⟩ := h.b2 h0 h1 g0 g1
  omega
end
set_option maxRecDepth 100000 in
set_option maxHeartbeats 4000000 in
theorem div10_hi (hi lo : Int) (w : World) (h0 : 0 ≤ lo) (h1 : lo ≤ 18446744073709551615) (g0 : 1 ≤ hi) (g1 : hi ≤ 9) : Calls Tryz.prog 84 #[.int .u64 hi, .int .u64 lo, .int .u64 10] w fun e w' => e = .returned (.tuple #[.int .u64 ((hi * 18446744073709551616 + lo) / 10), .int .u64 ((hi * 18446744073709551616 + lo) % 10)]) ∧ w = w' := by
  obtain ⟨A, P, Q1, R1, V, Q0, R0, h⟩ : ∃ A P Q1 R1 V Q0 R0, D10 hi lo A P Q1 R1 V Q0 R0 := ⟨_, _, _, _, _, _, _, rfl, rfl, rfl, rfl, rfl, rfl, rfl⟩
  obtain ⟨b1, b2, b3, b4, b5, b6, b7, b8⟩ := h.b1 h0 h1 g0 g1
  obtain ⟨c1, c2, c3, c4, c5, c6⟩ := h.b2 h0 h1 g0 g1
  have e1 : (hi == 0) = false := by simp; omega
  have e2 : decide (10 ≤ hi) = false := by simp; omega
  have q1 : bits BinOp.or .u64 (hi * 1152921504606846976) (lo / 16) = A := by rw [or_add (by omega) g1 (by omega) (by omega)]; exact h.hA.symm
  have q2 : IntKind.u64.wrap (lo * 1152921504606846976) / 4294967296 = P := by rw [IntKind.wrap_u64, h.hP]; omega
  have q3 : bits BinOp.and .u64 (IntKind.u64.wrap (lo * 1152921504606846976)) 4294967295 = 0 := by rw [and_maskD (by rw [IntKind.wrap_u64]; omega) (by rw [IntKind.wrap_u64]; omega), IntKind.wrap_u64]; omega
  obtain ⟨hA, hP, hQ1, hR1, hV, hQ0, hR0⟩ := id h
  have q4 : IntKind.u64.wrap (A.tdiv 2684354560) = Q1 := by rw [Int.tdiv_eq_ediv_of_nonneg b1, IntKind.wrap_u64, ← hQ1]; omega
  have q5 : IntKind.u64.wrap (A - Q1 * 2684354560) = R1 := by rw [IntKind.wrap_u64]; omega
  have q6 : IntKind.u64.wrap (IntKind.u64.wrap (IntKind.u64.wrap (A * 4294967296) + P) - IntKind.u64.wrap (Q1 * 11529215046068469760)) = V := by rw [IntKind.wrap_u64, IntKind.wrap_u64, IntKind.wrap_u64, IntKind.wrap_u64]; omega
  have q7 : IntKind.u64.wrap (V.tdiv 2684354560) = Q0 := by rw [Int.tdiv_eq_ediv_of_nonneg c1, IntKind.wrap_u64, ← hQ0]; omega
  have q8 : IntKind.u64.wrap (V - Q0 * 2684354560) = R0 := by rw [IntKind.wrap_u64]; omega
  have q11 : Q1 * 4294967296 + Q0 = (hi * 18446744073709551616 + lo) / 10 := h.quo h0 h1 g0 g1
  have q12 : IntKind.u64.wrap (IntKind.u64.wrap (IntKind.u64.wrap (V * 4294967296)) - IntKind.u64.wrap (Q0 * 11529215046068469760)) / 1152921504606846976 = (hi * 18446744073709551616 + lo) % 10 := by rw [← h.rem h0 h1 g0 g1, IntKind.wrap_u64, IntKind.wrap_u64, IntKind.wrap_u64, IntKind.wrap_u64]; omega
  have HF := Lib.hid (And.intro q11 q12)
  have q9 : decide (4294967296 ≤ Q1) = false := by simp; omega
  have q10 : decide (4294967296 ≤ Q0) = false := by simp; omega
  clear h q11 q12 hA hP hQ1 hR1 hV hQ0 hR0
  go_enter Tryz.func84, Tryz.ntmps84
  go_wp2_with fail
  refine (lead10_any _).mono ?_
  rintro e w2 ⟨rfl, rfl⟩
  have q0 := mask_ten
  go_wp2_with fail
  go_loopw [15, 16] (fun q r wr => q = .int .u64 Q1 ∧ r = .int .u64 R1 ∧ w = wr) (fun _ _ _ => 0)
  case atStart => exact ⟨rfl, rfl, rfl⟩
  case round =>
    obtain ⟨rfl, rfl, rfl⟩ := hrel
    go_wp2_with fail
    go_loopw [18, 16] (fun q r wr => q = .int .u64 Q0 ∧ r = .int .u64 R0 ∧ w = wr) (fun _ _ _ => 0)
    case atStart => exact ⟨by trivial, by trivial, rfl⟩
    case round =>
      obtain ⟨rfl, rfl, rfl⟩ := hrel
      go_wp2_with fail
      go_returns
      exact ⟨by show Ending.returned (.tuple #[.int .u64 (Q1 * 4294967296 + Q0), .int .u64 (IntKind.u64.wrap (IntKind.u64.wrap (IntKind.u64.wrap (V * 4294967296)) - IntKind.u64.wrap (Q0 * 11529215046068469760)) / 1152921504606846976)]) = _; rw [HF.out.1, HF.out.2], rfl⟩
end Go.Proofs.YtnhlnnehpmjeiaaGreatDoor
namespace Go.Proofs.YtnhlnnehpmjeiaaGreatDoor
open Go.RowKit
set_option linter.unusedVariables false
open Go.Lib (decDigits byteCells)
theorem div10_any (hi lo : Int) (w : World) (h0 : 0 ≤ lo) (h1 : lo ≤ 18446744073709551615) (g0 : 0 ≤ hi) (g1 : hi ≤ 9) : Calls Tryz.prog 84 #[.int .u64 hi, .int .u64 lo, .int .u64 10] w fun e w' => e = .returned (.tuple #[.int .u64 ((hi * 18446744073709551616 + lo) / 10), .int .u64 ((hi * 18446744073709551616 + lo) % 10)]) ∧ ∃ n, w' = w.drewN n := by
  by_cases hz : hi = 0
  · subst hz
    have := div10_lo lo w h0 h1
    rw [Int.zero_mul, Int.zero_add]
    exact this
  · refine (div10_hi hi lo w h0 h1 (by omega) g1).mono ?_
    rintro e w' ⟨rfl, rfl⟩
    exact ⟨rfl, 0, rfl⟩
theorem dd_len : ∀ (k u : Nat), u < 10 ^ (k + 1) → (decDigits u).length ≤ k + 1
  | 0, u, h => by rw [Lib.decDigits_one (by omega)]; simp
  | k + 1, u, h => by
    by_cases hu : u < 10
    · rw [Lib.decDigits_one hu]; simp
    · rw [dd_ge hu, List.length_append]
      have := dd_len k (u / 10) (by rw [Nat.pow_succ] at h; omega)
      simp
      omega
/-- What is left to be told, and what was told. -/
def restD (N : Nat) (ds : List UInt8) : List UInt8 := if N = 0 ∧ ds ≠ [] then ds else decDigits N ++ ds
theorem restD_step (N : Nat) (ds : List UInt8) : restD (N / 10) (UInt8.ofNat (48 + N % 10) :: ds) = decDigits N ++ ds := by
  unfold restD
  by_cases h : N < 10
  · rw [if_pos ⟨by omega, by simp⟩, Lib.decDigits_one h, Nat.mod_eq_of_lt h]
    rfl
  · rw [if_neg (fun e => by omega), dd_ge h, List.append_assoc]
    rfl
theorem byteCells_cons (n : Nat) (h : n < 256) (ds : List UInt8) : byteCells (UInt8.ofNat n :: ds) = [.int .u8 (n : Int)] ++ byteCells ds := by
  unfold byteCells
  rw [List.map_cons, ofNat_small h]
  rfl
theorem byteCells_one (ds : List UInt8) : ∀ u ∈ byteCells ds, u.oneCell' = true := by
  intro u hu
  obtain ⟨x, _, rfl⟩ := List.mem_map.1 hu
  rfl
theorem bytes_conv {B vc : Nat} {va : Option Addr} {bs : List UInt8} {w : World} (hown : w.ownsRow B 5 1 (.slice va bs.length vc) bs.length (byteCells bs)) : (convert 113 9 (.slice va bs.length vc)).run Tryz.prog w = .ok (.string ⟨bs.toArray⟩) w := by
  rcases Nat.eq_zero_or_pos bs.length with h0 | h0
  · obtain rfl := List.eq_nil_of_length_eq_zero h0
    rw [run_convert_bytes_string w 113 9 5 va _ vc Tryz.underlying113 Tryz.underlying5 Tryz.underlying9]
    cases va with
    | none => rfl
    | some a => exact run_bytesToString w a 0 vc [] (run_loadCells_list (P := Tryz.prog) w a [] (by simp))
  · obtain ⟨q, rfl, _, _, hq⟩ := row_block hown h0
    refine run_convert_bytes_back w 113 9 5 ⟨q, 0, none⟩ vc bs Tryz.underlying113 Tryz.underlying5 Tryz.underlying9 (fun j hj => ?_)
    rw [show (⟨q, 0, none⟩ : Addr).add j = ⟨q, j, none⟩ from by simp [Addr.add]; omega]
    exact hq j _ (by simp [byteCells, hj])
/-- What the loop keeps. -/
def TxI (w1 : World) (M : Nat) (o h l : Value) (w : World) : Prop := ∃ (H L : Int) (ds : List UInt8) (va : Option Addr) (vc : Nat), o = .slice va ds.length vc ∧ h = .int .u64 H ∧ l = .int .u64 L ∧ (0 ≤ H ∧ H ≤ 18446744073709551615) ∧ (0 ≤ L ∧ L ≤ 18446744073709551615) ∧ w.ownsRow w1.heap.size 5 1 (.slice va ds.length vc) ds.length (byteCells ds) ∧ restD (H * 18446744073709551616 + L).toNat ds = decDigits M ∧ Below w1.heap.size w1 w
theorem restD_le {N M : Nat} {ds : List UInt8} (h : restD N ds = decDigits M) (hM : M < 10 ^ 40) : ds.length ≤ 40 := by
  have h1 := dd_len 39 M hM
  rw [← h] at h1
  unfold restD at h1
  split at h1
  · exact h1
  · rw [List.length_append] at h1
    omega
set_option maxRecDepth 100000 in
set_option maxHeartbeats 4000000 in
theorem wtext_any (x : WI) (w : World) (hx : x.wf) (hf : x.form = true) : Calls Tryz.prog 70 #[x.v] w fun e w' => e = .returned (.string ⟨(wtext x).toArray⟩) ∧ Below w.heap.size w w' := by
  obtain ⟨i0, hi, hz0, hz1, hz2⟩ := info_parts Tryz.info5
  have HFORM := Lib.hid (wform_any x · hx)
  rw [hf] at HFORM
  obtain ⟨M, hM⟩ : ∃ M, x.mag = M := ⟨_, rfl⟩
  have hM40 : M < 10 ^ 40 := by
    rw [← hM]
    unfold WI.mag
    obtain ⟨⟨a1, a2⟩, a3, a4⟩ := hx
    omega
  have HTX : Hid (wtext x = if x.neg then 45 :: decDigits M else decDigits M) := Lib.hid (by rw [← hM]; rfl)
  have HMG : Hid ((x.hi * 18446744073709551616 + x.lo).toNat = M) := Lib.hid hM
  have HXW := Lib.hid hx
  clear hM hf hx
  obtain ⟨n, a, b⟩ := x
  unfold WI.v at HFORM ⊢
  dsimp only at HTX HMG HFORM ⊢
  have hb1 : Below w.heap.size w (w.alloc (.cells #[.bool n, .int .u64 a, .int .u64 b] 96)) := by go_grown
  have hc1 := heap_alloc_new w (.cells #[.bool n, .int .u64 a, .int .u64 b] 96)
  have HB1 := Lib.hid hb1
  have HC1 := Lib.hid hc1
  clear hb1 hc1
  go_enter Tryz.func70, Tryz.ntmps70
  go_wp2_with fail
  generalize w.alloc (.cells #[.bool n, .int .u64 a, .int .u64 b] 96) = w1 at HB1 HC1 ⊢
  refine (HFORM.out _).mono ?_
  rintro e w2 ⟨rfl, hb2⟩
  have hc2 := keep hb2 HC1.out
  have x0 := cell_at hc2 0
  have x1 := cell_at hc2 1
  have x2 := cell_at hc2 2
  simp at x0 x1 x2
  have HB2 := Lib.hid hb2
  clear hb2 hc2
  go_wp2_with fail
  go_quiet (fail)
  rename_i nq
  have hb3 : Below w1.heap.size w1 (w2.drewN nq) := below_drewN HB2.out nq
  clear x0 x1 x2
  have hI : TxI w1 M (.slice none 0 0) (.int .u64 a) (.int .u64 b) (w2.drewN nq) := by
    obtain ⟨h1, h2⟩ := HXW.out
    refine ⟨a, b, [], none, 0, rfl, rfl, rfl, h1, h2, World.ownsRow_nil _ _ _ _, ?_, hb3⟩
    rw [HMG.out]
    unfold restD
    rw [if_neg (fun e => e.2 rfl), List.append_nil]
  have HI := Lib.hid hI
  clear hI hb3 HB2 HMG HXW
  generalize w2.drewN nq = w3 at HI ⊢
  go_wp2_with fail
  go_loopw [3, 4, 5] (fun o h l wr => TxI w1 M o h l wr) (fun o h l _ => (intOf h * 18446744073709551616 + intOf l).toNat + (if lenS o = 0 then 1 else 0))
  case atStart => exact HI.out
  case round =>
    obtain ⟨H, L, ds, va, vc, rfl, rfl, rfl, ⟨g1, g2⟩, ⟨g3, g4⟩, hown, hre, hb⟩ := hrel
    have hle := restD_le hre hM40
    have hor := or64_ne g1 g2 g3 g4
    obtain ⟨dn, hdn⟩ : ∃ dn, ds.length = dn := ⟨_, rfl⟩
    have HRE := Lib.hid hre
    have HOWN := Lib.hid hown
    have HB := Lib.hid hb
    have HDN := Lib.hid hdn
    rw [hdn] at hle hown ⊢
    clear hre hb HI
    by_cases hgo : (H = 0 ∧ L = 0) ∧ dn ≠ 0
    · obtain ⟨⟨rfl, rfl⟩, hd⟩ := hgo
      have e1 : (bits BinOp.or .u64 0 0 != 0) = false := by rw [hor]; rfl
      have e2 : ((dn : Int) == 0) = false := by simp; omega
      have hds : ds = decDigits M := by
        have := HRE.out
        unfold restD at this
        rw [if_pos ⟨by decide, fun e => hd (by rw [← HDN.out, e]; rfl)⟩] at this
        exact this
      have hc := keep HB.out HC1.out
      have x0 := cell_at hc 0
      simp at x0
      have hcv := bytes_conv (HOWN.out)
      rw [HDN.out] at hcv
      have HBF := Lib.hid (HB1.out.trans (HB.out.mono HB1.out.size))
      have HDS := Lib.hid hds
      clear hown hc hor hds HOWN
      cases n
      · go_wp2_with fail
        go_returns
        exact ⟨by rw [HTX.out, HDS.out]; rfl, HBF.out⟩
      · go_wp2_with fail
        go_returns
        refine ⟨?_, HBF.out⟩
        rw [HTX.out, ← HDS.out]
        rfl
    · have htest : (bits BinOp.or .u64 H L != 0) = true ∨ ((bits BinOp.or .u64 H L != 0) = false ∧ ((dn : Int) == 0) = true) := by
        rw [hor]
        by_cases h0 : H = 0 ∧ L = 0
        · refine .inr ⟨by simp [h0.1, h0.2], ?_⟩
          have : dn = 0 := by
            rcases Nat.eq_zero_or_pos dn with h | h
            · exact h
            · exact absurd ⟨h0, by omega⟩ hgo
          simp [this]
        · left
          simp
          omega
      have hfl : decDigits (H * 18446744073709551616 + L).toNat ++ ds = decDigits M := by
        have := HRE.out
        unfold restD at this
        rw [if_neg (fun e => hgo ⟨⟨by omega, by omega⟩, by rw [← HDN.out]; exact fun h => e.2 (List.eq_nil_of_length_eq_zero h)⟩)] at this
        exact this
      obtain ⟨R, hR⟩ : ∃ R, H % 10 = R := ⟨_, rfl⟩
      obtain ⟨H2, hH2⟩ : ∃ H2, H / 10 = H2 := ⟨_, rfl⟩
      obtain ⟨L2, hL2⟩ : ∃ L2, (R * 18446744073709551616 + L) / 10 = L2 := ⟨_, rfl⟩
      obtain ⟨D, hD⟩ : ∃ D, (R * 18446744073709551616 + L) % 10 = D := ⟨_, rfl⟩
      have hdv := fun w => div10_any R L w g3 g4 (by omega) (by omega)
      simp only [hL2, hD] at hdv
      have q1 : H.tmod 10 = R := by rw [Int.tmod_eq_emod_of_nonneg g1]; exact hR
      have q2 : IntKind.u64.wrap (H.tdiv 10) = H2 := by rw [Int.tdiv_eq_ediv_of_nonneg g1, hH2, IntKind.wrap_u64]; omega
      have d1 : 0 ≤ D := by omega
      have d2 : D ≤ 9 := by omega
      have l1 : 0 ≤ L2 := by omega
      have l2 : L2 ≤ 18446744073709551615 := by omega
      have k1 : 0 ≤ H2 := by omega
      have k2 : H2 ≤ 18446744073709551615 := by omega
      have hst : restD (H2 * 18446744073709551616 + L2).toNat (UInt8.ofNat (48 + D.toNat) :: ds) = decDigits M := by
        have h1 := restD_step (H * 18446744073709551616 + L).toNat ds
        rw [show (H * 18446744073709551616 + L).toNat / 10 = (H2 * 18446744073709551616 + L2).toNat by omega, show (H * 18446744073709551616 + L).toNat % 10 = D.toNat by omega] at h1
        rw [h1]
        exact hfl
      have hms : (H2 * 18446744073709551616 + L2).toNat < (H * 18446744073709551616 + L).toNat + (if dn = 0 then 1 else 0) := by
        split
        · omega
        · have : ¬ (H = 0 ∧ L = 0) := fun e => hgo ⟨e, by assumption⟩
          omega
      have HDV := Lib.hid hdv
      have HST := Lib.hid hst
      have HMS := Lib.hid hms
      have hD2 : ((48 + D.toNat : Nat) : Int) = 48 + D := by omega
      have HD2 := Lib.hid hD2
      clear hfl hdv hst hms hR hH2 hL2 hD hgo hor hD2 HRE
      rcases htest with e1 | ⟨e1, e2⟩
      all_goals
        go_wp2_with fail
        refine (HDV.out _).mono ?_
        rintro e w5 ⟨rfl, kd, rfl⟩
        have hb5 : Below w1.heap.size w1 (wr.drewN kd) := below_drewN HB.out kd
        have ho5 : (wr.drewN kd).ownsRow w1.heap.size 5 1 (.slice va ds.length vc) ds.length (byteCells ds) := ownsRow_below HOWN.out (below_drewN (Below.refl _ _) kd)
        generalize wr.drewN kd = w6 at hb5 ho5 ⊢
        have hbA : Below w1.heap.size w1 (w6.alloc (.cells #[.int .u8 (48 + D)] 5)) := hb5.alloc hb5.size _
        have hoA := ho5.alloc (.cells #[.int .u8 (48 + D)] 5)
        have hfr : (w6.alloc (.cells #[.int .u8 (48 + D)] 5)).ownsRow w1.heap.size 5 1 (.slice (some ⟨w6.heap.size, 0, none⟩) 1 1) 1 [.int .u8 (48 + D)] := ⟨rfl, .inr ⟨w6.heap.size, 1, _, rfl, hb5.size, heap_alloc_new w6 _, by decide, by decide, rfl, rfl⟩⟩
        have hsrc := SrcAt.row hoA (byteCells_one ds)
        rw [HDN.out] at hsrc
        have HBA := Lib.hid hbA
        have HFR := Lib.hid hfr
        have HSRC := Lib.hid hsrc
        have HSZ : Hid (w1.heap.size ≤ w6.heap.size) := Lib.hid hb5.size
        clear hb5 ho5 hbA hoA hfr hsrc hown
        go_wp2_with (at_builtin; refine wpList_plain rfl fun K3 hK3 => wp_append_src (.tmp 37) (.tmp 38) 113 rfl w1.heap.size 5 i0 (.int .u8 0) 1 1 Tryz.underlying113 hi hz0 hz1 hz2 rfl (by decide) (.slice (some ⟨w6.heap.size, 0, none⟩) 1 1) 1 [.int .u8 (48 + D)] rfl HFR.out va dn vc (byteCells ds) rfl HSRC.out (by unfold maxLen; omega) (by omega) (by have := HSZ.out; simp; omega) (fun v' w7 hown7 hg7 => hK3 _ _ ?_))
        obtain ⟨va', vc', hv⟩ := ownsRow_slice hown7
        rw [hv] at hown7 ⊢
        clear hv
        have hI7 : TxI w1 M (.slice va' (1 + dn) vc') (.int .u64 H2) (.int .u64 L2) w7 := by
          have hl : (UInt8.ofNat (48 + D.toNat) :: ds).length = 1 + dn := by rw [List.length_cons, HDN.out]; omega
          refine ⟨H2, L2, UInt8.ofNat (48 + D.toNat) :: ds, va', vc', by rw [hl], rfl, rfl, ⟨k1, k2⟩, ⟨l1, l2⟩, ?_, HST.out, HBA.out.trans (below_own HFR.out hg7 HBA.out.size)⟩
          rw [hl, byteCells_cons _ (by omega), HD2.out]
          exact hown7
        have HI7 := Lib.hid hI7
        clear hI7 hown7 hg7 HFR HSRC
        go_wp2_with fail
        go_roundw
        case rel => exact HI7.out
        case measure =>
          show (H2 * 18446744073709551616 + L2).toNat + (if 1 + dn = 0 then 1 else 0) < (H * 18446744073709551616 + L).toNat + (if dn = 0 then 1 else 0)
          rw [if_neg (show ¬ 1 + dn = 0 by omega)]
          exact HMS.out
end Go.Proofs.YtnhlnnehpmjeiaaGreatDoor
namespace Go.Proofs.YtnhlnnehpmjeiaaGreatDoor
open Go.RowKit
set_option linter.unusedVariables false
open Go.Lib (decDigits byteCells join)
theorem Tryz.infoS9 : (Tryz.prog.info? 9).map (fun i => (i.zero, i.size, i.bytes)) = some (some (.string ByteArray.empty), 1, 16) := by kernel_rfl
theorem join_len {s : UInt8} {m : Nat} : ∀ {l : List (List UInt8)}, (∀ x ∈ l, x.length ≤ m) → (join l [s]).length ≤ l.length * (m + 1)
  | [], _ => by simp [Lib.join_nil]
  | x :: r, h => by
    have h1 := h x (by simp)
    rw [join_step, List.length_append, List.length_cons]
    cases r with
    | nil => simp; omega
    | cons y t =>
      have h2 := join_len (s := s) (l := y :: t) (fun z hz => h z (List.mem_cons_of_mem _ hz))
      have e : (s :: join (y :: t) [s]).length = (join (y :: t) [s]).length + 1 := rfl
      show x.length + (s :: join (y :: t) [s]).length ≤ _
      rw [e, Nat.add_mul]
      omega
/-- Texts as a row of strings. -/
def strV (l : List (List UInt8)) : List Value := l.map fun x => .string ⟨x.toArray⟩
theorem strV_at {l : List (List UInt8)} {i : Nat} {x : List UInt8} (h : l[i]? = some x) : (strV l)[i]? = some (.string ⟨x.toArray⟩) := by
  unfold strV
  rw [List.getElem?_map, h]
  rfl
theorem strV_snoc (l : List (List UInt8)) (x : List UInt8) : strV (l ++ [x]) = strV l ++ [.string ⟨x.toArray⟩] := by simp [strV]
theorem ba_lists (l : List (List UInt8)) : (l.map fun x => (⟨x.toArray⟩ : ByteArray)).map (·.data.toList) = l := by
  rw [List.map_map]
  exact (List.map_congr_left (fun x _ => rfl)).trans (List.map_id l)
/-- strings.Join of a row of texts. -/
theorem join_any {B n c : Nat} {a : Option Addr} {l : List (List UInt8)} {s : UInt8} {w : World} (h : w.ownsRow B 9 1 (.slice a n c) n (strV l)) (hn : l.length = n) (h0 : 0 < n) (hl : (join l [s]).length ≤ 1000000) (hn2 : n ≤ 1000000) :
    Calls Tryz.prog 33 #[.slice a n c, .string ⟨#[s]⟩] w fun e w' => e = .returned (.string ⟨(join l [s]).toArray⟩) ∧ Below w.heap.size w w' := by
  obtain ⟨q, rfl, _, hql, hqc⟩ := row_block h h0
  have hcap : n ≤ c := by
    rcases h.2 with ⟨he, _⟩ | ⟨g, cap, cur, he, _, _, hc, _⟩
    · cases he
    · cases he; exact hc
  have hJ := Tryz.strings_Join q 0 c (l.map fun x => (⟨x.toArray⟩ : ByteArray)) ⟨#[s]⟩ w (fun j x hx => by
    rw [List.getElem?_map] at hx
    cases hj : l[j]? with
    | none => rw [hj] at hx; cases hx
    | some y =>
      rw [hj] at hx
      cases hx
      rw [Nat.zero_add]
      exact hqc j _ (strV_at hj)) hql (by rw [List.length_map]; omega) (by rw [List.length_map]; omega) (by
    rw [ba_lists]
    exact Nat.le_trans hl (by omega))
  rw [ba_lists, List.length_map, hn] at hJ
  exact hJ
end Go.Proofs.YtnhlnnehpmjeiaaGreatDoor
