/- The heap: its calls through the interface. · The heap: up, Pop, Push. · slices.Clone of ints, bools, the queue. · Rows of sets: slices.Clone, slices.Equal, isFront. Printed by mkF5.py. -/
import Derived.Test.YtgebbmfoamkfnaaGreatDoorT26
import Derived.WalkSpells
import Derived.Test.YtgebbmfoamkfnaaGreatDoorT16
import Derived.Test.YtgebbmfoamkfnaaGreatDoorT24
namespace Go.Proofs.YtgebbmfoamkfnaaGreatDoor
open Go.RowKit
set_option linter.unusedVariables false
theorem load_queue (a : Addr) (w : World) (v : Value) (h : w.cell? a = some v) : (loadVar 159 a).run Tryz.prog w = .ok v w := by
 have e : (loadVar 159 a).run Tryz.prog w = (load a).run Tryz.prog w := by kernel_rfl
 rw [e, run_load, h]
theorem method_len (a : Addr) (w : World) (v : Value) (h : w.cell? a = some v) : (method 443 173 (.pointer (some a)) "Len").run Tryz.prog w = .ok (242, v) w := by
 have e : (method 443 173 (.pointer (some a)) "Len").run Tryz.prog w = (do pure (242, ← loadVar 159 a) : Sem (FuncId × Value)).run Tryz.prog w := by kernel_rfl
 rw [e]
 simp [load_queue a w v h]
theorem method_less (a : Addr) (w : World) (v : Value) (h : w.cell? a = some v) : (method 443 173 (.pointer (some a)) "Less").run Tryz.prog w = .ok (243, v) w := by
 have e : (method 443 173 (.pointer (some a)) "Less").run Tryz.prog w = (do pure (243, ← loadVar 159 a) : Sem (FuncId × Value)).run Tryz.prog w := by kernel_rfl
 rw [e]
 simp [load_queue a w v h]
theorem method_swap (a : Addr) (w : World) (v : Value) (h : w.cell? a = some v) : (method 443 173 (.pointer (some a)) "Swap").run Tryz.prog w = .ok (244, v) w := by
 have e : (method 443 173 (.pointer (some a)) "Swap").run Tryz.prog w = (do pure (244, ← loadVar 159 a) : Sem (FuncId × Value)).run Tryz.prog w := by kernel_rfl
 rw [e]
 simp [load_queue a w v h]
theorem method_pop (a : Addr) (w : World) : (method 443 173 (.pointer (some a)) "Pop").run Tryz.prog w = .ok (245, .pointer (some a)) w := by kernel_rfl
theorem qLess_i (x : XD) (w : World) (h : XMem w x) (i j : Int) (a b : Nat) (hi : i = a) (hj : j = b) (ha : a < x.fr.length) (hb : b < x.fr.length) : Calls Tryz.prog 243 #[.slice x.fa x.fr.length x.fc, .int .i64 i, .int .i64 j] w fun e w' => e = .returned (.bool (decide (at0 x.fr a < at0 x.fr b))) ∧ ∃ n, w' = w.drewN n := by
 subst hi; subst hj
 exact qLess_any x w h a b ha hb
theorem qSwap_i (x : XD) (w : World) (h : XMem w x) (i j : Int) (a b : Nat) (hi : i = a) (hj : j = b) (ha : a < x.fr.length) (hb : b < x.fr.length) : Calls Tryz.prog 244 #[.slice x.fa x.fr.length x.fc, .int .i64 i, .int .i64 j] w fun e w' => e = .returned (.tuple #[]) ∧ XStep x (x.withFr (swapL x.fr a b)) w w' := by
 subst hi; subst hj
 exact qSwap_any x w h a b ha hb
set_option maxRecDepth 100000 in
set_option maxHeartbeats 2000000 in
theorem hDown_any (x : XD) (w : World) (h : XMem w x) (m : Nat) (hm : m ≤ x.fr.length) (hl : x.fr.length ≤ 300) (hd : DownN x.fr m 0) : Calls Tryz.prog 119 #[.iface 173 (.pointer (some ⟨x.xb, 3, none⟩)), .int .i64 (0 : Int), .int .i64 (m : Int)] w fun e w' => (∃ b, e = .returned (.bool b)) ∧ ∃ l, XStep x (x.withFr l) w w' ∧ l.Perm x.fr ∧ (∀ k, m ≤ k → at0 l k = at0 x.fr k) ∧ HeapN l m := by
 have H := Lib.hid h
 have HD := Lib.hid hd
 clear h hd
 go_enter Tryz.func119, Tryz.ntmps119
 go_wp2_with fail
 go_loopw [7] (fun i wr => ∃ (k : Nat) (l : List Int), i = .int .i64 (k : Int) ∧ k ≤ m ∧ XStep x (x.withFr l) w wr ∧ l.Perm x.fr ∧ (∀ j, m ≤ j → at0 l j = at0 x.fr j) ∧ DownN l m k) (fun i _ => m - (intOf i).toNat)
 case atStart => exact ⟨0, x.fr, rfl, Nat.zero_le _, XStep.refl H.out, .refl _, fun _ _ => rfl, HD.out⟩
 case round =>
  obtain ⟨k, l, rfl, hk, hst, hp, heq, hdn⟩ := hrel
  have hll : l.length = x.fr.length := hp.length_eq
  obtain ⟨_, _, _, c3, _⟩ := hst.mem.cells
  have c3 : wr.cell? ⟨x.xb, 3, none⟩ = some (.slice x.fa l.length x.fc) := c3
  have HST := Lib.hid hst
  have HP := Lib.hid hp
  have HEQ := Lib.hid heq
  have HDN := Lib.hid hdn
  have HLL := Lib.hid hll
  have hll1 : l.length ≤ 300 := by omega
  have hml : m ≤ l.length := by omega
  clear hst hp heq hdn hll
  by_cases h1 : m ≤ 2 * k + 1
  ·have HF : Hid (HeapN l m) := Lib.hid (HDN.out.leaf h1)
   have g1 : decide ((m : Int) ≤ 2 * (k : Int) + 1) = true := by simp; omega
   go_wp2_with fail
   go_returns
   exact ⟨⟨_, rfl⟩, l, HST.out, HP.out, HEQ.out, HF.out⟩
  ·have g1 : decide ((m : Int) ≤ 2 * (k : Int) + 1) = false := by simp; omega
   have g2 : decide (2 * (k : Int) + 1 < 0) = false := by simp; omega
   have hM := method_less ⟨x.xb, 3, none⟩ wr _ c3
   by_cases h3 : 2 * k + 2 < m
   ·have g3 : decide (2 * (k : Int) + 1 + 1 < (m : Int)) = true := by simp; omega
    go_wp2_with fail
    refine (qLess_i (x.withFr l) wr HST.out.mem (2 * (k : Int) + 1 + 1) (2 * (k : Int) + 1) (2 * k + 2) (2 * k + 1) (by omega) (by omega) (by show _ < l.length; omega) (by show _ < l.length; omega)).mono ?_
    rintro e w1 ⟨rfl, n1, rfl⟩
    have hst1 := HST.out.below (c := wr.drewN n1) (below_drewN (Below.refl _ _) _)
    generalize wr.drewN n1 = W1 at hst1 ⊢
    clear HST c3 hM
    by_cases h4 : at0 l (2 * k + 2) < at0 l (2 * k + 1)
    ·have g4 : decide (at0 (x.withFr l).fr (2 * k + 2) < at0 (x.withFr l).fr (2 * k + 1)) = true := decide_eq_true h4
     have HLEAST : Hid (∀ j, 1 ≤ j → j < m → (j - 1) / 2 = k → at0 l (2 * k + 2) ≤ at0 l j) := Lib.hid fun j h1 h2 h3 => by
      rcases (show j = 2 * k + 1 ∨ j = 2 * k + 2 by omega) with rfl | rfl <;> omega
     have hmem1 := hst1.mem
     have hlf : (x.withFr l).fr.length = x.fr.length := HLL.out
     obtain ⟨_, _, _, c31, _⟩ := hmem1.cells
     have c31 : W1.cell? ⟨x.xb, 3, none⟩ = some (.slice x.fa l.length x.fc) := c31
     have hM1 := method_less ⟨x.xb, 3, none⟩ W1 _ c31
     have HST1 := Lib.hid hst1
     clear hst1
     go_wp2_with fail
     refine (qLess_i (x.withFr l) W1 hmem1 (2 * (k : Int) + 1 + 1) k (2 * k + 2) k (by omega) rfl (by show _ < l.length; omega) (by show _ < l.length; omega)).mono ?_
     rintro e w2 ⟨rfl, n2, rfl⟩
     have hst2 := HST1.out.below (c := W1.drewN n2) (below_drewN (Below.refl _ _) _)
     generalize W1.drewN n2 = W2 at hst2 ⊢
     clear HST1 hmem1 c31 hM1
     by_cases h5 : at0 l (2 * k + 2) < at0 l k
     ·have g5 : decide (at0 (x.withFr l).fr (2 * k + 2) < at0 (x.withFr l).fr k) = true := decide_eq_true h5
      have HSTEP := Lib.hid (HDN.out.step (j := 2 * k + 2) hml (by omega) (by omega) (by omega) h5 HLEAST.out)
      have hmem2 := hst2.mem
      obtain ⟨_, _, _, c32, _⟩ := hmem2.cells
      have c32 : W2.cell? ⟨x.xb, 3, none⟩ = some (.slice x.fa l.length x.fc) := c32
      have hM2 := method_swap ⟨x.xb, 3, none⟩ W2 _ c32
      have HST2 := Lib.hid hst2
      clear hst2
      go_wp2_with fail
      refine (qSwap_i (x.withFr l) W2 hmem2 k (2 * (k : Int) + 1 + 1) k (2 * k + 2) rfl (by omega) (by show _ < l.length; omega) (by show _ < l.length; omega)).mono ?_
      rintro e w3 ⟨rfl, hst3⟩
      have hst3 : XStep x (x.withFr (swapL l k (2 * k + 2))) w w3 := HST2.out.trans hst3
      have HST3 := Lib.hid hst3
      have hpp : (swapL l k (2 * k + 2)).Perm x.fr := (swapL_perm (by omega) (by omega)).trans HP.out
      have HPP := Lib.hid hpp
      have heqq : ∀ j, m ≤ j → at0 (swapL l k (2 * k + 2)) j = at0 x.fr j := fun j hj => by
       rw [swapL_at (by omega) (by omega), if_neg (by omega), if_neg (by omega)]
       exact HEQ.out j hj
      have HEQQ := Lib.hid heqq
      clear hst3 hpp heqq HST2 hmem2 c32 hM2
      go_wp2_with fail
      go_roundw
      case rel => exact ⟨2 * k + 2, _, by go_num, by omega, HST3.out, HPP.out, HEQQ.out, HSTEP.out⟩
      case measure => simp [intOf]; omega
     ·have g5 : decide (at0 (x.withFr l).fr (2 * k + 2) < at0 (x.withFr l).fr k) = false := decide_eq_false h5
      have HF := Lib.hid (HDN.out.stop (j := 2 * k + 2) (by omega) HLEAST.out)
      have HST2 := Lib.hid hst2
      clear hst2
      go_wp2_with fail
      go_returns
      exact ⟨⟨_, rfl⟩, l, HST2.out, HP.out, HEQ.out, HF.out⟩
    ·have g4 : decide (at0 (x.withFr l).fr (2 * k + 2) < at0 (x.withFr l).fr (2 * k + 1)) = false := decide_eq_false h4
     have HLEAST : Hid (∀ j, 1 ≤ j → j < m → (j - 1) / 2 = k → at0 l (2 * k + 1) ≤ at0 l j) := Lib.hid fun j h1 h2 h3 => by
      rcases (show j = 2 * k + 1 ∨ j = 2 * k + 2 by omega) with rfl | rfl <;> omega
     have hmem1 := hst1.mem
     have hlf : (x.withFr l).fr.length = x.fr.length := HLL.out
     obtain ⟨_, _, _, c31, _⟩ := hmem1.cells
     have c31 : W1.cell? ⟨x.xb, 3, none⟩ = some (.slice x.fa l.length x.fc) := c31
     have hM1 := method_less ⟨x.xb, 3, none⟩ W1 _ c31
     have HST1 := Lib.hid hst1
     clear hst1
     go_wp2_with fail
     refine (qLess_i (x.withFr l) W1 hmem1 (2 * (k : Int) + 1) k (2 * k + 1) k (by omega) rfl (by show _ < l.length; omega) (by show _ < l.length; omega)).mono ?_
     rintro e w2 ⟨rfl, n2, rfl⟩
     have hst2 := HST1.out.below (c := W1.drewN n2) (below_drewN (Below.refl _ _) _)
     generalize W1.drewN n2 = W2 at hst2 ⊢
     clear HST1 hmem1 c31 hM1
     by_cases h5 : at0 l (2 * k + 1) < at0 l k
     ·have g5 : decide (at0 (x.withFr l).fr (2 * k + 1) < at0 (x.withFr l).fr k) = true := decide_eq_true h5
      have HSTEP := Lib.hid (HDN.out.step (j := 2 * k + 1) hml (by omega) (by omega) (by omega) h5 HLEAST.out)
      have hmem2 := hst2.mem
      obtain ⟨_, _, _, c32, _⟩ := hmem2.cells
      have c32 : W2.cell? ⟨x.xb, 3, none⟩ = some (.slice x.fa l.length x.fc) := c32
      have hM2 := method_swap ⟨x.xb, 3, none⟩ W2 _ c32
      have HST2 := Lib.hid hst2
      clear hst2
      go_wp2_with fail
      refine (qSwap_i (x.withFr l) W2 hmem2 k (2 * (k : Int) + 1) k (2 * k + 1) rfl (by omega) (by show _ < l.length; omega) (by show _ < l.length; omega)).mono ?_
      rintro e w3 ⟨rfl, hst3⟩
      have hst3 : XStep x (x.withFr (swapL l k (2 * k + 1))) w w3 := HST2.out.trans hst3
      have HST3 := Lib.hid hst3
      have hpp : (swapL l k (2 * k + 1)).Perm x.fr := (swapL_perm (by omega) (by omega)).trans HP.out
      have HPP := Lib.hid hpp
      have heqq : ∀ j, m ≤ j → at0 (swapL l k (2 * k + 1)) j = at0 x.fr j := fun j hj => by
       rw [swapL_at (by omega) (by omega), if_neg (by omega), if_neg (by omega)]
       exact HEQ.out j hj
      have HEQQ := Lib.hid heqq
      clear hst3 hpp heqq HST2 hmem2 c32 hM2
      go_wp2_with fail
      go_roundw
      case rel => exact ⟨2 * k + 1, _, by go_num, by omega, HST3.out, HPP.out, HEQQ.out, HSTEP.out⟩
      case measure => simp [intOf]; omega
     ·have g5 : decide (at0 (x.withFr l).fr (2 * k + 1) < at0 (x.withFr l).fr k) = false := decide_eq_false h5
      have HF := Lib.hid (HDN.out.stop (j := 2 * k + 1) (by omega) HLEAST.out)
      have HST2 := Lib.hid hst2
      clear hst2
      go_wp2_with fail
      go_returns
      exact ⟨⟨_, rfl⟩, l, HST2.out, HP.out, HEQ.out, HF.out⟩
   ·have g3 : decide (2 * (k : Int) + 1 + 1 < (m : Int)) = false := by simp; omega
    have HLEAST : Hid (∀ j, 1 ≤ j → j < m → (j - 1) / 2 = k → at0 l (2 * k + 1) ≤ at0 l j) := Lib.hid fun j h1 h2 h3 => by
     obtain rfl : j = 2 * k + 1 := by omega
     exact Int.le_refl _
    have hst1 := HST.out
    generalize wr = W1 at *
    clear HST c3 hM
    have hmem1 := hst1.mem
    have hlf : (x.withFr l).fr.length = x.fr.length := HLL.out
    obtain ⟨_, _, _, c31, _⟩ := hmem1.cells
    have c31 : W1.cell? ⟨x.xb, 3, none⟩ = some (.slice x.fa l.length x.fc) := c31
    have hM1 := method_less ⟨x.xb, 3, none⟩ W1 _ c31
    have HST1 := Lib.hid hst1
    clear hst1
    go_wp2_with fail
    refine (qLess_i (x.withFr l) W1 hmem1 (2 * (k : Int) + 1) k (2 * k + 1) k (by omega) rfl (by show _ < l.length; omega) (by show _ < l.length; omega)).mono ?_
    rintro e w2 ⟨rfl, n2, rfl⟩
    have hst2 := HST1.out.below (c := W1.drewN n2) (below_drewN (Below.refl _ _) _)
    generalize W1.drewN n2 = W2 at hst2 ⊢
    clear HST1 hmem1 c31 hM1
    by_cases h5 : at0 l (2 * k + 1) < at0 l k
    ·have g5 : decide (at0 (x.withFr l).fr (2 * k + 1) < at0 (x.withFr l).fr k) = true := decide_eq_true h5
     have HSTEP := Lib.hid (HDN.out.step (j := 2 * k + 1) hml (by omega) (by omega) (by omega) h5 HLEAST.out)
     have hmem2 := hst2.mem
     obtain ⟨_, _, _, c32, _⟩ := hmem2.cells
     have c32 : W2.cell? ⟨x.xb, 3, none⟩ = some (.slice x.fa l.length x.fc) := c32
     have hM2 := method_swap ⟨x.xb, 3, none⟩ W2 _ c32
     have HST2 := Lib.hid hst2
     clear hst2
     go_wp2_with fail
     refine (qSwap_i (x.withFr l) W2 hmem2 k (2 * (k : Int) + 1) k (2 * k + 1) rfl (by omega) (by show _ < l.length; omega) (by show _ < l.length; omega)).mono ?_
     rintro e w3 ⟨rfl, hst3⟩
     have hst3 : XStep x (x.withFr (swapL l k (2 * k + 1))) w w3 := HST2.out.trans hst3
     have HST3 := Lib.hid hst3
     have hpp : (swapL l k (2 * k + 1)).Perm x.fr := (swapL_perm (by omega) (by omega)).trans HP.out
     have HPP := Lib.hid hpp
     have heqq : ∀ j, m ≤ j → at0 (swapL l k (2 * k + 1)) j = at0 x.fr j := fun j hj => by
      rw [swapL_at (by omega) (by omega), if_neg (by omega), if_neg (by omega)]
      exact HEQ.out j hj
     have HEQQ := Lib.hid heqq
     clear hst3 hpp heqq HST2 hmem2 c32 hM2
     go_wp2_with fail
     go_roundw
     case rel => exact ⟨2 * k + 1, _, by go_num, by omega, HST3.out, HPP.out, HEQQ.out, HSTEP.out⟩
     case measure => simp [intOf]; omega
    ·have g5 : decide (at0 (x.withFr l).fr (2 * k + 1) < at0 (x.withFr l).fr k) = false := decide_eq_false h5
     have HF := Lib.hid (HDN.out.stop (j := 2 * k + 1) (by omega) HLEAST.out)
     have HST2 := Lib.hid hst2
     clear hst2
     go_wp2_with fail
     go_returns
     exact ⟨⟨_, rfl⟩, l, HST2.out, HP.out, HEQ.out, HF.out⟩
end Go.Proofs.YtgebbmfoamkfnaaGreatDoor
namespace Go.Proofs.YtgebbmfoamkfnaaGreatDoor
open Go.RowKit
set_option linter.unusedVariables false
set_option maxRecDepth 100000 in
set_option maxHeartbeats 2000000 in
theorem hPop_any (x : XD) (w : World) (h : XMem w x) (m : Nat) (hm : x.fr.length = m + 1) (hl : m ≤ 299) (hh : HeapN x.fr (m + 1)) : Calls Tryz.prog 88 #[.iface 173 (.pointer (some ⟨x.xb, 3, none⟩))] w fun e w' => e = .returned (.iface 3 (.int .i64 (at0 x.fr 0))) ∧ ∃ l, XStep x (x.withFr l) w w' ∧ l.length = m ∧ x.fr.Perm (at0 x.fr 0 :: l) ∧ HeapN l m := by
 obtain ⟨_, _, _, c3, _⟩ := h.cells
 rw [hm] at c3
 have hM := method_len ⟨x.xb, 3, none⟩ w _ c3
 have hMs := method_swap ⟨x.xb, 3, none⟩ w _ c3
 have hsw := qSwap_i x w h 0 (m : Int) 0 m rfl rfl (by omega) (by omega)
 rw [hm] at hsw
 have HSW := Lib.hid hsw
 have HM := Lib.hid hm
 have HH := Lib.hid hh
 clear h hm hh hsw
 go_enter Tryz.func88, Tryz.ntmps88
 go_wp2_with fail
 refine (qLen_any _ _ _ _).mono ?_
 rintro e w1 ⟨rfl, rfl⟩
 go_wp2_with fail
 refine HSW.out.mono ?_
 rintro e w1 ⟨rfl, hst1⟩
 have hs1 : (swapL x.fr 0 m).length = m + 1 := (swapL_len _ _ _).trans HM.out
 have hd := hDown_any (x.withFr (swapL x.fr 0 m)) w1 hst1.mem m (by show m ≤ (swapL x.fr 0 m).length; omega) (by show (swapL x.fr 0 m).length ≤ 300; omega) (HH.out.swapped HM.out)
 have HST1 := Lib.hid hst1
 have HD := Lib.hid hd
 have HS1 := Lib.hid hs1
 clear hst1 hd hs1 c3 hM hMs HSW
 go_wp2_with fail
 refine HD.out.mono ?_
 rintro e w2 ⟨⟨b, rfl⟩, l, hst2, hp, heq, hhl⟩
 have hst2 : XStep x (x.withFr l) w w2 := HST1.out.trans hst2
 have hll : l.length = m + 1 := hp.length_eq.trans HS1.out
 have hpop := qPop_any (x.withFr l) w2 hst2.mem m hll (by omega)
 have hlast : at0 l m = at0 x.fr 0 := by
  rw [heq m (Nat.le_refl _)]
  show at0 (swapL x.fr 0 m) m = _
  rw [swapL_at (by have := HM.out; omega) (by have := HM.out; omega), if_pos rfl]
 rw [show at0 (x.withFr l).fr m = at0 l m from rfl, hlast] at hpop
 have HPOP := Lib.hid hpop
 have hMp := method_pop ⟨x.xb, 3, none⟩ w2
 have hperm : x.fr.Perm (at0 x.fr 0 :: l.take m) := by
  have h1 : l.Perm x.fr := hp.trans (swapL_perm (by have := HM.out; omega) (by have := HM.out; omega))
  have h2 : l = l.take m ++ [at0 l m] := by
   conv => lhs; rw [← List.take_append_drop m l]
   congr 1
   rw [List.drop_eq_getElem_cons (by omega), List.drop_of_length_le (by omega)]
   congr 1
   unfold at0
   rw [List.getD_eq_getElem?_getD, List.getElem?_eq_getElem (by omega)]; rfl
  rw [hlast] at h2
  refine h1.symm.trans ?_
  rw [h2]
  rw [show ∀ (a : List Int) (z : Int) (n : Nat), (a ++ [z]).take n = (a ++ [z]).take n from fun _ _ _ => rfl]
  rw [← h2]
  conv => lhs; rw [h2]
  exact List.perm_append_comm
 have hht : HeapN (l.take m) m := hhl.of_take (Nat.le_refl _)
 have htl : (l.take m).length = m := by rw [List.length_take]; omega
 have HST2 := Lib.hid hst2
 have HPERM := Lib.hid hperm
 have HHT := Lib.hid hht
 have HTL := Lib.hid htl
 clear hst2 hp heq hhl hll hpop hlast hperm hht htl HST1 HD
 go_wp2_with fail
 refine HPOP.out.mono ?_
 rintro e w3 ⟨rfl, hst3⟩
 have hst3 : XStep x (x.withFr (l.take m)) w w3 := HST2.out.trans hst3
 have HST3 := Lib.hid hst3
 clear hst3
 go_wp2_with fail
 go_returns
 exact ⟨rfl, l.take m, HST3.out, HTL.out, HPERM.out, HHT.out⟩
end Go.Proofs.YtgebbmfoamkfnaaGreatDoor
namespace Go.Proofs.YtgebbmfoamkfnaaGreatDoor
open Go.RowKit
set_option linter.unusedVariables false
def IsCopyOf (e : TypeId) (xs : List Value) (n : Nat) (w : World) (en : Ending) (w' : World) : Prop := ∃ va vc, en = .returned (.slice va n vc) ∧ w'.ownsRow w.heap.size e 1 (.slice va n vc) n xs ∧ Below w.heap.size w w'
theorem Tryz.infoB : (Tryz.prog.info? 4).map (fun i => (i.zero, i.size, i.bytes)) = some (some (.bool false), 1, 1) := by kernel_rfl
set_option maxRecDepth 100000 in
theorem cloneInts_any (B : Nat) (a : Option Addr) (cap : Nat) (xs : List Int) (w : World) (h : w.ownsRow B 3 1 (.slice a xs.length cap) xs.length (xs.map (Value.int .i64))) (hl : xs.length ≤ 100000) :
  Calls Tryz.prog 64 #[.slice a xs.length cap] w (IsCopyOf 3 (xs.map (Value.int .i64)) xs.length w) := by
 obtain ⟨i0, hi, hz0, hz1, hz2⟩ := info_parts Tryz.infoI
 have hnn := fun (wx : World) (a : Option Addr) (n c : Nat) => Lib.run_eql_slice_nil (P := Tryz.prog) wx 72 3 a n c 0 0 Tryz.underlying72
 obtain ⟨L, hL⟩ : ∃ L, xs.length = L := ⟨_, rfl⟩
 rw [hL] at h hl ⊢
 rcases h.2 with ⟨hv, h0⟩ | ⟨g, cap', cur, hv, hg, hh, hc1, hc2, hc3, hc4⟩
 ·subst h0
  cases hv
  obtain rfl := List.eq_nil_of_length_eq_zero hL
  go_enter Tryz.func64, Tryz.ntmps64
  go_wp2
  go_returns
  exact ⟨none, 0, rfl, World.ownsRow_nil _ _ _ _, Below.refl _ _⟩
 ·cases hv
  have hcc : ∀ j u, (xs.map (Value.int .i64))[j]? = some u → (w.alloc (.cells #[] 3)).cell? ((⟨g, 0, none⟩ : Addr).add j) = some u := fun j u hu => by
   rw [show (⟨g, 0, none⟩ : Addr).add j = ⟨g, j, none⟩ from by simp [Addr.add]; omega, cell_at (keepA _ hh)]
   rw [← hc4, List.getElem?_take] at hu
   split at hu
   ·simpa using hu
   ·cases hu
  have hown : (w.alloc (.cells #[] 3)).ownsRow w.heap.size 3 1 (.slice (some ⟨w.heap.size, 0, none⟩) 0 0) 0 [] := World.ownsRow_made w #[] 0 (Nat.le_refl _) (by simp) (by simp)
  have hcl : (xs.map (Value.int .i64)).length = L * 1 := by rw [List.length_map, hL, Nat.mul_one]
  have HL := Lib.hid hL
  have HCC := Lib.hid hcc
  have HCL := Lib.hid hcl
  clear hL h hh hc1 hc2 hc3 hc4 hcc hcl
  go_enter Tryz.func64, Tryz.ntmps64
  go_wp2_with (at_builtin; refine wpList_append_own _ rfl (.tmp 5) (.tmp 6) 72 rfl w.heap.size 3 i0 (.int .i64 0) 1 8 Tryz.underlying72 hi hz0 hz1 hz2 rfl (by decide) (.slice (some ⟨w.heap.size, 0, none⟩) 0 0) 0 [] rfl hown ⟨g, 0, none⟩ L cap (xs.map (Value.int .i64)) rfl HCL.out HCC.out (fun u hu => by obtain ⟨y, _, rfl⟩ := List.mem_map.1 hu; rfl) (by unfold maxLen; omega) (by omega) (by simp) ?_)
  intro v' w1 hown1 hg1 hnil
  obtain ⟨va, vc, hv⟩ := ownsRow_slice hown1
  rw [hv] at hown1 hnil ⊢
  clear hv
  have hbel : Below w.heap.size w w1 := ((Below.refl _ w).alloc (Nat.le_refl _) _).grown hg1 (by simp) (fun x hx => by simp [Value.ownBlock] at hx; omega)
  have HO := Lib.hid hown1
  clear hown1 hnil
  go_wp2
  go_returns
  exact ⟨va, vc, rfl, HO.out, hbel⟩
end Go.Proofs.YtgebbmfoamkfnaaGreatDoor
namespace Go.Proofs.YtgebbmfoamkfnaaGreatDoor
open Go.RowKit
set_option linter.unusedVariables false
theorem Tryz.infoSig : (Tryz.prog.info? 28).map (fun i => (i.zero, i.size, i.bytes)) = some (some (.int .u32 0), 1, 4) := by kernel_rfl
set_option maxRecDepth 100000 in
theorem cloneSigs_any (B : Nat) (a : Option Addr) (cap : Nat) (xs : List Int) (w : World) (h : w.ownsRow B 28 1 (.slice a xs.length cap) xs.length (xs.map (Value.int .u32))) (hl : xs.length ≤ 100000) :
    Calls Tryz.prog 99 #[.slice a xs.length cap] w (IsCopyOf 28 (xs.map (Value.int .u32)) xs.length w) := by
  obtain ⟨i0, hi, hz0, hz1, hz2⟩ := info_parts Tryz.infoSig
  have hnn := fun (wx : World) (a : Option Addr) (n c : Nat) => Lib.run_eql_slice_nil (P := Tryz.prog) wx 71 28 a n c 0 0 Tryz.underlying71
  obtain ⟨L, hL⟩ : ∃ L, xs.length = L := ⟨_, rfl⟩
  rw [hL] at h hl ⊢
  rcases h.2 with ⟨hv, h0⟩ | ⟨g, cap', cur, hv, hg, hh, hc1, hc2, hc3, hc4⟩
  · subst h0
    cases hv
    obtain rfl := List.eq_nil_of_length_eq_zero hL
    go_enter Tryz.func99, Tryz.ntmps99
    go_wp2
    go_returns
    exact ⟨none, 0, rfl, World.ownsRow_nil _ _ _ _, Below.refl _ _⟩
  · cases hv
    have hcc : ∀ j u, (xs.map (Value.int .u32))[j]? = some u → (w.alloc (.cells #[] 28)).cell? ((⟨g, 0, none⟩ : Addr).add j) = some u := fun j u hu => by
      rw [show (⟨g, 0, none⟩ : Addr).add j = ⟨g, j, none⟩ from by simp [Addr.add]; omega, cell_at (keepA _ hh)]
      rw [← hc4, List.getElem?_take] at hu
      split at hu
      · simpa using hu
      · cases hu
    have hown : (w.alloc (.cells #[] 28)).ownsRow w.heap.size 28 1 (.slice (some ⟨w.heap.size, 0, none⟩) 0 0) 0 [] := World.ownsRow_made w #[] 0 (Nat.le_refl _) (by simp) (by simp)
    have hcl : (xs.map (Value.int .u32)).length = L * 1 := by rw [List.length_map, hL, Nat.mul_one]
    have HL := Lib.hid hL
    have HCC := Lib.hid hcc
    have HCL := Lib.hid hcl
    clear hL h hh hc1 hc2 hc3 hc4 hcc hcl
    go_enter Tryz.func99, Tryz.ntmps99
    go_wp2_with (at_builtin; refine wpList_append_own _ rfl (.tmp 5) (.tmp 6) 71 rfl w.heap.size 28 i0 (.int .u32 0) 1 4 Tryz.underlying71 hi hz0 hz1 hz2 rfl (by decide) (.slice (some ⟨w.heap.size, 0, none⟩) 0 0) 0 [] rfl hown ⟨g, 0, none⟩ L cap (xs.map (Value.int .u32)) rfl HCL.out HCC.out (fun u hu => by obtain ⟨y, _, rfl⟩ := List.mem_map.1 hu; rfl) (by unfold maxLen; omega) (by omega) (by simp) ?_)
    intro v' w1 hown1 hg1 hnil
    obtain ⟨va, vc, hv⟩ := ownsRow_slice hown1
    rw [hv] at hown1 hnil ⊢
    clear hv
    have hbel : Below w.heap.size w w1 := ((Below.refl _ w).alloc (Nat.le_refl _) _).grown hg1 (by simp) (fun x hx => by simp [Value.ownBlock] at hx; omega)
    have HO := Lib.hid hown1
    clear hown1 hnil
    go_wp2
    go_returns
    exact ⟨va, vc, rfl, HO.out, hbel⟩
/-- A row of sets in memory. -/
def SRow (w : World) (a : Option Addr) (n : Nat) (l : List Int) : Prop := l.length = n ∧ n ≤ 100000 ∧ (n = 0 ∨ ∃ b off, a = some ⟨b, off, none⟩ ∧ b < w.heap.size ∧ ∀ (i : Nat) (x : Int), l[i]? = some x → w.cell? ⟨b, off + i, none⟩ = some (.int .u32 x))
theorem SRow.get {w : World} {a : Option Addr} {n : Nat} {l : List Int} (h : SRow w a n l) {k : Nat} (hk : k < n) : ∃ b off x, a = some ⟨b, off, none⟩ ∧ b < w.heap.size ∧ l[k]? = some x ∧ w.cell? ⟨b, off + k, none⟩ = some (.int .u32 x) := by
  obtain ⟨h1, _, h3⟩ := h
  rcases h3 with h3 | ⟨b, off, ha, hB, hc⟩
  · omega
  · have hl : k < l.length := by omega
    exact ⟨b, off, _, ha, hB, List.getElem?_eq_getElem hl, hc k _ (List.getElem?_eq_getElem hl)⟩
theorem SRow.below {w w' : World} {a : Option Addr} {n : Nat} {l : List Int} (h : SRow w a n l) (hb : Below w.heap.size w w') : SRow w' a n l := by
  obtain ⟨h1, h2, h3⟩ := h
  refine ⟨h1, h2, h3.imp id ?_⟩
  rintro ⟨b, off, ha, hB, hc⟩
  exact ⟨b, off, ha, Nat.lt_of_lt_of_le hB hb.size, fun i x hx => (hb.cell (p := ⟨b, _, none⟩) hB).trans (hc i x hx)⟩
theorem SRow.of {w : World} {B n : Nat} {va : Option Addr} {vc : Nat} {l : List Int} (h : w.ownsRow B 28 1 (.slice va n vc) n (l.map (.int .u32))) (hl : l.length = n) (hn : n ≤ 100000) : SRow w va n l := by
  refine ⟨hl, hn, ?_⟩
  by_cases h0 : n = 0
  · exact .inl h0
  · obtain ⟨q, hq, _, hlt, hc⟩ := row_block h (by omega)
    refine .inr ⟨q, 0, hq, hlt, fun i x hx => ?_⟩
    rw [Nat.zero_add]
    exact hc i _ (by rw [List.getElem?_map, hx]; rfl)
set_option maxRecDepth 100000 in
theorem sigsEqual_any (xs ys : List Int) (a : Option Addr) (l c : Nat) (a' : Option Addr) (l' c' : Nat) (w : World) (hx : SRow w a l xs) (hy : SRow w a' l' ys) :
    Calls Tryz.prog 100 #[.slice a l c, .slice a' l' c'] w fun e w' => ∃ r : Bool, e = .returned (.bool r) ∧ (r = true ↔ xs = ys) ∧ Below w.heap.size w w' := by
  have hlx := hx.1
  have hly := hy.1
  have hmx : l ≤ 100000 := hx.2.1
  have hmy : l' ≤ 100000 := hy.2.1
  have HX := Lib.hid hx
  have HY := Lib.hid hy
  have HLX := Lib.hid hlx
  have HLY := Lib.hid hly
  clear hx hy hlx hly
  by_cases hl : l = l'
  · subst hl
    go_enter Tryz.func100, Tryz.ntmps100
    go_wp2_with fail
    go_loopw [13] (fun i wr => ∃ k : Nat, k ≤ l ∧ i = .int .i64 (k : Int) ∧ xs.take k = ys.take k ∧ Below w.heap.size w wr) (fun i _ => l - (intOf i).toNat)
    case atStart => exact ⟨0, by omega, rfl, rfl, Below.refl _ _⟩
    case round =>
      obtain ⟨k, hk, rfl, htk, hbr⟩ := hrel
      by_cases hlt : k < l
      · obtain ⟨b, off, x, rfl, hB, hxk, x0⟩ := (HX.out.below hbr).get hlt
        obtain ⟨b', off', y, rfl, hB', hyk, y0⟩ := (HY.out.below hbr).get hlt
        have HXK := Lib.hid hxk
        have HYK := Lib.hid hyk
        have HTK := Lib.hid htk
        have HBR := Lib.hid hbr
        have i1 : (0 : Int) ≤ (k : Int) := by omega
        have i2 : (k : Int) < (l : Int) := by omega
        clear hxk hyk htk hbr
        by_cases hxy : x = y
        · have h1 : (x != y) = false := by simp [hxy]
          have HE := Lib.hid hxy
          clear hxy
          go_wp2_with fail
          go_quiet (fail)
          go_wp2_with fail
          go_roundw
          case rel => exact ⟨k + 1, by omega, by go_num, take_eq_succ HXK.out HYK.out HTK.out HE.out, below_drewN HBR.out _⟩
          case measure => simp only [intOf]; omega
        · have h1 : (x != y) = true := by simp [hxy]
          have HE := Lib.hid hxy
          clear hxy
          go_wp2_with fail
          go_quiet (fail)
          go_wp2_with fail
          go_returns
          refine ⟨false, rfl, ⟨fun h => (by cases h), fun h => ?_⟩, below_drewN HBR.out _⟩
          have h1 := HXK.out
          rw [h, HYK.out] at h1
          cases h1
          exact absurd rfl HE.out
      · obtain rfl : k = l := by omega
        have HT := Lib.hid htk
        clear htk
        go_wp2_with fail
        go_returns
        refine ⟨true, rfl, ⟨fun _ => ?_, fun _ => rfl⟩, hbr⟩
        have h := HT.out
        rw [List.take_of_length_le (by have := HLX.out; omega), List.take_of_length_le (by have := HLY.out; omega)] at h
        exact h
  · have hl2 : ((l : Int) != (l' : Int)) = true := by rw [bne_iff_ne]; omega
    go_enter Tryz.func100, Tryz.ntmps100
    go_wp2_with fail
    go_returns
    exact ⟨false, rfl, ⟨fun h => (by cases h), fun h => absurd (by rw [← HLX.out, ← HLY.out, h]) hl⟩, Below.refl _ _⟩
theorem SRow.take {w : World} {a : Option Addr} {n : Nat} {l : List Int} (h : SRow w a n l) {k : Nat} (hk : k ≤ n) : SRow w a k (l.take k) := by
  obtain ⟨h1, h2, h3⟩ := h
  refine ⟨by rw [List.length_take]; omega, by omega, ?_⟩
  rcases h3 with h3 | ⟨b, off, ha, hB, hc⟩
  · exact .inl (by omega)
  · refine .inr ⟨b, off, ha, hB, fun i x hx => hc i x ?_⟩
    rw [List.getElem?_take] at hx
    split at hx
    · exact hx
    · cases hx
set_option maxRecDepth 100000 in
theorem front_any (xs ys : List Int) (a : Option Addr) (l c : Nat) (a' : Option Addr) (l' c' : Nat) (w : World) (hx : SRow w a l xs) (hy : SRow w a' l' ys) (hc : l' ≤ c') :
    Calls Tryz.prog 63 #[.slice a l c, .slice a' l' c'] w fun e w' => e = .returned (.bool (frontB xs ys)) ∧ Below w.heap.size w w' := by
  have hlx := hx.1
  have hly := hy.1
  have hmx : l ≤ 100000 := hx.2.1
  have hmy : l' ≤ 100000 := hy.2.1
  by_cases hle : l ≤ l'
  · have HE := Lib.hid (sigsEqual_any xs (ys.take l) a l c a' l c' w hx (hy.take hle))
    have HLX := Lib.hid hlx
    have HLY := Lib.hid hly
    have g1 : decide ((l : Int) ≤ (l' : Int)) = true := by simp; omega
    have g2 : (l : Int) ≤ (c' : Int) := by omega
    have g3 : (0 : Int) ≤ (l : Int) := by omega
    clear hx hy hlx hly
    go_enter Tryz.func63, Tryz.ntmps63
    go_wp2_with fail
    refine HE.out.mono ?_
    rintro e w2 ⟨r, rfl, hr, hb2⟩
    have HR : Hid (r = frontB xs ys) := Lib.hid (by
      unfold frontB
      rw [HLX.out, HLY.out, decide_eq_true hle, Bool.true_and]
      rw [Bool.eq_iff_iff, beq_iff_eq]
      exact hr)
    have HB2 := Lib.hid hb2
    clear hr hb2
    go_wp2_with fail
    go_returns
    exact ⟨ret_bool HR.out, HB2.out⟩
  · have g1 : decide ((l : Int) ≤ (l' : Int)) = false := by simp; omega
    have HR : Hid (false = frontB xs ys) := Lib.hid (by
      unfold frontB
      rw [hlx, hly, decide_eq_false hle, Bool.false_and])
    clear hx hy hlx hly
    go_enter Tryz.func63, Tryz.ntmps63
    go_wp2_with fail
    go_returns
    exact ⟨ret_bool HR.out, Below.refl _ _⟩
end Go.Proofs.YtgebbmfoamkfnaaGreatDoor
