/- A step of the graph, in a world. -/
import Derived.Test.YthmpknlgkflhiabGreatQ36
namespace Go.Proofs.YthmpknlgkflhiabGreat
open Go.RowKit
set_option linter.unusedVariables false
section
variable {w w' w1 : World} {d : WD} {L L' : List Int} {N n : Nat} {pa : Option Addr} {pl pc : Nat} {ps : List PW}
theorem chk_zero {g : GS} {i : Nat} {c : Int} {b : Bool} {s : Int} (hs : g.sigs[i]? = some s) (hc : (findC c g.cs).isSome = true) (hb : hasB s c = !b) : chkF g i c b = 0 := by
 have hl := (List.getElem?_eq_some_iff.1 hs).1
 rw [sigs_len] at hl
 unfold chkF
 rw [if_neg (by omega), if_neg (by rw [hc]; simp), if_neg]
 rw [Int.toNat_natCast, List.getD_eq_getElem?_getD, hs]
 show ¬ hasB s c = b
 rw [hb]
 cases b <;> simp
theorem stepSet_eq {g : GS} {i : Nat} {c : Int} {b : Bool} {s : Int} (hs : g.sigs[i]? = some s) (h0 : 0 ≤ s) (h1 : s ≤ 4294967295) (hc : idB c = true) (hb : hasB s c = !b) : stepSet g i c b = upd s c b := by
 unfold stepSet
 rw [Int.toNat_natCast, List.getD_eq_getElem?_getD, hs]
 exact upd_set h0 h1 hc hb
theorem WMid.stepped (h : WMid w d L N) {i : Nat} {t : TD} (ht : d.T[i]? = some t) {c : Int} {b : Bool} (hc : (findC c d.g.cs).isSome = true) (hb : hasB t.set c = !b) {e : Ending} (hs : IsStep 0 d.gb d.g d.mb d.wmb d.ta i c b w e w') (hok : tableOk d.g.ver d.g.cs (upd t.set c b) d.g.rows = true) :
  (∃ j t2 d', posOf (upd t.set c b) d.g.sigs = some j ∧ d.T[j]? = some t2 ∧ t2.set = upd t.set c b ∧ e = .returned (.tuple #[.int .i64 ((j : Nat) : Int), .int .i64 0]) ∧ WMid w' d' L (N + 2) ∧ WFr d d' w w' ∧ SameW d d' ∧ d'.T = d.T ∧ d'.g.sigs = d.g.sigs ∧ d'.P = d.P) ∨
  (∃ d', posOf (upd t.set c b) d.g.sigs = none ∧ d.caps.archs ≤ (d.g.sigs.length : Int) ∧ e = .returned (.tuple #[.int .i64 0, .int .i64 5]) ∧ WMid w' d' L (N + 2) ∧ WFr d d' w w' ∧ SameW d d' ∧ d'.T = d.T ∧ d'.g = d.g ∧ d'.P = d.P) ∨
  (∃ d' t2, posOf (upd t.set c b) d.g.sigs = none ∧ ¬ d.caps.archs ≤ (d.g.sigs.length : Int) ∧ e = .returned (.tuple #[.int .i64 (d.T.length : Int), .int .i64 0]) ∧ WMid w' d' L (N + 2) ∧ WFr d d' w w' ∧ SameW d d' ∧ d'.T = d.T ++ [t2] ∧ d'.g.sigs = d.g.sigs ++ [upd t.set c b] ∧ t2.set = upd t.set c b ∧ t2.free ≠ 0 ∧ d'.P = d.P.snoc (upd t.set c b)) := by
 obtain ⟨tb, ta', tc', he, hg, hT, ho, hnew⟩ := hs
 have hsig := h.sig_at ht
 have hbd := h.bd ht
 have hid := h.inv.ids c hc
 have hchk : chkF d.g i c b = 0 := chk_zero hsig hc hb
 have hst : stepSet d.g i c b = upd t.set c b := stepSet_eq hsig hbd.1 hbd.2 hid hb
 have hub := upd_bd (c := c) (b := b) hbd.1 hbd.2
 have hinv := (h.inv.step i c b tb).1
 have hlen := h.tlen
 have harch := h.archs
 have hgl : (d.g.ts.length : Int) ≤ d.g.archs := by obtain ⟨_, _, _, _, _, hh⟩ := h.raw.gr; exact hh.wf.2.2.2.2.1
 have hnw := h.nw
 cases hw : d.g.ways (i, c, b) with
 | some m =>
  obtain ⟨_, _, ⟨s, hs1, _, hs3⟩, _⟩ := h.inv.wy i c b m hw
  rw [Int.toNat_natCast, hsig] at hs1
  cases hs1
  have hp := h.inv.nd m _ hs3
  obtain ⟨t2, ht2, hts2⟩ := h.of_pos hp
  have hS := stepG_has hchk hw tb
  rw [hS] at he hg
  obtain ⟨k1, k2⟩ := h.gold hg ho ⟨rfl, rfl, rfl, rfl⟩ rfl h.inv (M := N + 2) (by show d.g.nw ≤ _; omega)
  exact .inl ⟨m, t2, _, hp, ht2, hts2, he, k1, k2, ⟨rfl, rfl, rfl, rfl, rfl, rfl, rfl, rfl⟩, rfl, rfl, rfl⟩
 | none =>
  cases hp : posOf (upd t.set c b) d.g.sigs with
  | some j =>
   obtain ⟨t2, ht2, hts2⟩ := h.of_pos hp
   have hM := makeG_has hp tb
   have hS := stepG_new hchk hw tb (by rw [hst, hM])
   rw [hst, hM] at hS
   rw [hS] at he hg hinv
   obtain ⟨k1, k2⟩ := h.gold hg ho ⟨rfl, rfl, rfl, rfl⟩ rfl hinv (M := N + 2) (by show _ + 1 + _ ≤ _; split <;> omega)
   exact .inl ⟨j, t2, _, rfl, ht2, hts2, he, k1, k2, ⟨rfl, rfl, rfl, rfl, rfl, rfl, rfl, rfl⟩, rfl, rfl, rfl⟩
  | none =>
   by_cases hf : d.g.archs = d.g.ts.length
   ·have hM := makeG_full hp hok hf tb
    have hS := stepG_err hchk hw tb (by rw [hst, hM]; show (5 : Int) ≠ 0; decide)
    rw [hst, hM] at hS
    rw [hS] at he hg
    obtain ⟨k1, k2⟩ := h.gold hg ho ⟨rfl, rfl, rfl, rfl⟩ rfl h.inv (M := N + 2) (by show d.g.nw ≤ _; omega)
    exact .inr (.inl ⟨_, rfl, by omega, he, k1, k2, ⟨rfl, rfl, rfl, rfl, rfl, rfl, rfl, rfl⟩, rfl, rfl, rfl⟩)
   ·have hM := makeG_new hp hok hf tb
    have hS := stepG_new hchk hw tb (by rw [hst, hM])
    rw [hst, hM] at hS
    have hts : (stepG d.g i c b tb).1.ts = d.g.ts ++ [(tb, stepSet d.g i c b)] := by rw [hS, hst]
    obtain ⟨n1, n2, n3, n4⟩ := hnew hts
    rw [hst] at n1 n3 n4 hts
    have hsg : (stepG d.g i c b tb).1.sigs = d.g.sigs ++ [upd t.set c b] := by
     unfold GS.sigs
     rw [hts]; simp
    have hnn : (stepG d.g i c b tb).1.nw ≤ N + 2 := by rw [hS]; show _ + 1 + _ ≤ _; split <;> omega
    obtain ⟨d', t2, k1, k2, k3, k4, k5, k6, k7, k8⟩ := h.gnew hg ho (by rw [hS]; exact ⟨rfl, rfl, rfl, rfl⟩) hts n1 n2 n3 n4 hub.1 hub.2 hinv hnn
    refine .inr (.inr ⟨d', t2, rfl, by omega, ?_, k1, k2, k3, k4, by rw [k5]; exact hsg, k6, k7, k8⟩)
    rw [he, hS, hlen.2.1]
end
end Go.Proofs.YthmpknlgkflhiabGreat
