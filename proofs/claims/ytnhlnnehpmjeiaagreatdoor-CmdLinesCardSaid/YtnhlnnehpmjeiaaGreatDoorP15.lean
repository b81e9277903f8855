/- The queue's ends; the heap: down, up, Pop, Push. · The heap: its calls through the interface. · The heap: up, Pop, Push. · slices.Clone of ints, bools, the queue. -/
import Derived.Test.YtnhlnnehpmjeiaaGreatDoorP14
import Derived.Test.YtnhlnnehpmjeiaaGreatDoorP13
import Derived.Deep.AppendLies
import Derived.Deep.RegionLaw
import Derived.WalkSpells
namespace Go.Proofs.YtnhlnnehpmjeiaaGreatDoor
open Go.RowKit
set_option linter.unusedVariables false
theorem XMem.fb {w : World} {x : XD} (h : XMem w x) : ∀ b, (Value.slice x.fa x.fr.length x.fc).ownBlock = some b → b ≠ x.xb := fun b hb e => by
  have h1 := ownsRow_ne_block3 h.freeR h.blk (fun cur he => by cases he)
  exact h1 (by rw [hb, e])
theorem XMem.gb {w : World} {x : XD} (h : XMem w x) : ∀ b, (Value.slice x.ga x.ix.gens.length x.gc).ownBlock = some b → b ≠ x.xb := fun b hb e => by
  have h1 := ownsRow_ne_block3 h.gensR h.blk (fun cur he => by cases he)
  exact h1 (by rw [hb, e])
theorem XMem.lb {w : World} {x : XD} (h : XMem w x) : ∀ b, (Value.slice x.la x.ix.lives.length x.lc).ownBlock = some b → b ≠ x.xb := fun b hb e => by
  have h1 := ownsRow_ne_block3 h.livesR h.blk (fun cur he => by cases he)
  exact h1 (by rw [hb, e])
def XD.withFa (x : XD) (fa : Option Addr) (fc : Nat) (l : List Int) : XD := { x with fr := l, fa := fa, fc := fc }
/-- Another row of free ids is hung in. -/
theorem XMem.fhang {w : World} {x : XD} (h : XMem w x) {fa : Option Addr} {fc : Nat} {l : List Int} (hrow : w.ownsRow 0 3 1 (.slice fa l.length fc) l.length (l.map (.int .i64))) (hf : ∀ b, (Value.slice fa l.length fc).ownBlock = some b → b ≠ x.xb ∧ (Value.slice x.ga x.ix.gens.length x.gc).ownBlock ≠ some b) :
    XMem (w.setCell ⟨x.xb, 3, none⟩ (.slice fa l.length fc)) (x.withFa fa fc l) := by
  have ho : Out (fun b => b = x.xb) w (w.setCell ⟨x.xb, 3, none⟩ (.slice fa l.length fc)) := Out.only (Only.at w x.xb 3 _) rfl
  refine ⟨?_, ownsRow_out h.gensR ho (fun b hb e => h.gb b hb e), ownsRow_out h.livesR ho (fun b hb e => h.lb b hb e), ownsRow_out hrow ho (fun b hb e => (hf b hb).1 e), fun b hb hb2 => (hf b hb2).2 hb⟩
  have := hset w x.xb 3 (.slice fa l.length fc) _ _ _ h.blk
  simpa [XD.withFa] using this
theorem XMem.ftake {w : World} {x : XD} (h : XMem w x) {m : Nat} (hm : x.fr.length = m + 1) : XStep x (x.withFr (x.fr.take m)) w (w.setCell ⟨x.xb, 3, none⟩ (.slice x.fa m x.fc)) := by
  have hl : (x.fr.take m).length = m := by rw [List.length_take]; omega
  have hr := ownsRow_shrink h.freeR (show m ≤ x.fr.length by omega) (by omega)
  have hob : (Value.slice x.fa m x.fc).ownBlock = (Value.slice x.fa x.fr.length x.fc).ownBlock := by cases x.fa <;> rfl
  have := h.fhang (l := x.fr.take m) (fa := x.fa) (fc := x.fc) (by rw [hl, List.map_take]; exact hr) (fun b hb => by rw [hl, hob] at hb; exact ⟨h.fb b hb, fun hg => h.ne b hg hb⟩)
  rw [hl] at this
  refine ⟨this, rfl, (Out.only (Only.at w x.xb 3 _) (F := fun b => b = x.xb) rfl).mono (fun b hb => .inl (.inl hb)), fun b hb => .inl ?_⟩
  rcases hb with hb | hb | hb | hb
  · exact .inl hb
  · exact .inr (.inl hb)
  · exact .inr (.inr (.inl hb))
  · refine .inr (.inr (.inr ?_))
    have hb : (Value.slice x.fa (x.fr.take m).length x.fc).ownBlock = some b := hb
    rw [hl, hob] at hb; exact hb
theorem qPop_any (x : XD) (w : World) (h : XMem w x) (m : Nat) (hm : x.fr.length = m + 1) (hl : m ≤ 300) : Calls Tryz.prog 231 #[.pointer (some ⟨x.xb, 3, none⟩)] w fun e w' => e = .returned (.iface 3 (.int .i64 (at0 x.fr m))) ∧ XStep x (x.withFr (x.fr.take m)) w w' := by
  obtain ⟨q, hq, _, ci, fi, hcap, _⟩ := h.frow (show m < x.fr.length by omega)
  obtain ⟨_, _, _, c3, fz⟩ := h.cells
  have f3 := fz 3
  have hst := h.ftake hm
  rw [hm] at c3 hcap
  rw [hq] at c3 hst
  have i0 : (0 : Int) ≤ (m : Int) := by omega
  have i1 : (m : Int) < (m : Int) + 1 := by omega
  have i2 : (m : Int) ≤ (x.fc : Int) := by omega
  have HST := Lib.hid hst
  clear h hq hst hm fz
  go_enter Tryz.func231, Tryz.ntmps231
  go_wp2_with fail
  go_returns
  exact ⟨rfl, HST.out⟩
theorem Tryz.infoI : (Tryz.prog.info? 3).map (fun i => (i.zero, i.size, i.bytes)) = some (some (.int .i64 0), 1, 8) := by kernel_rfl
theorem assert_int (y : Int) (w : World) : (Instr.typeAssert (.iface 3 (.int .i64 y)) 20 3 false).run Tryz.prog w = .ok (.int .i64 y) w := by kernel_rfl
/-- The queue has a number more. -/
theorem XMem.fapp {W w6 : World} {x : XD} (h : XMem W x) {o : Obj} {q cap : Nat} {y : Int} (hg : (W.alloc o).drew.grownBy w6 (Value.slice x.fa x.fr.length x.fc).ownBlock) (hrow : w6.ownsRow 0 3 1 (.slice (some ⟨q, 0, none⟩) (x.fr.length + 1) cap) (x.fr.length + 1) (x.fr.map (.int .i64) ++ [.int .i64 y])) (hat : (Value.slice x.fa x.fr.length x.fc).ownBlock = some q ∨ q = W.heap.size + 1) :
    XStep x (x.withFa (some ⟨q, 0, none⟩) cap (x.fr ++ [y])) W (w6.setCell ⟨x.xb, 3, none⟩ (.slice (some ⟨q, 0, none⟩) (x.fr.length + 1) cap)) := by
  have h1 : Out (fun b => (Value.slice x.fa x.fr.length x.fc).ownBlock = some b) W w6 := ⟨hg.os, hg.tape, hg.output, by have := hg.size; simp at this; omega, fun k hk hF => (hg.block k (by simp; omega) (fun e => hF e.symm)).trans (by
    show (W.alloc o).heap[k]? = _
    rw [halloc, if_neg (by omega)])⟩
  have hl3 : ∀ b, (Value.slice x.la x.ix.lives.length x.lc).ownBlock = some b → ¬ (Value.slice x.fa x.fr.length x.fc).ownBlock = some b := fun b hb e => by
    obtain ⟨c1, k1⟩ := row_type h.livesR hb
    obtain ⟨c2, k2⟩ := row_type h.freeR e
    rw [k1] at k2; cases k2
  have hblk := h1.keep h.blk (fun e => h.fb _ e rfl)
  have hgR := ownsRow_out h.gensR h1 (fun b hb e => h.ne b hb e)
  have hlR := ownsRow_out h.livesR h1 hl3
  have hq1 : q ≠ x.xb := fun e => by
    rcases hat with hat | hat
    · exact h.fb _ hat e
    · have := lt_some h.blk; omega
  have hq2 : (Value.slice x.ga x.ix.gens.length x.gc).ownBlock ≠ some q := fun e => by
    rcases hat with hat | hat
    · exact h.ne _ e hat
    · obtain ⟨c1, k1⟩ := row_type h.gensR e
      have := lt_some k1; omega
  have ho : Out (fun b => b = x.xb) w6 (w6.setCell ⟨x.xb, 3, none⟩ (.slice (some ⟨q, 0, none⟩) (x.fr.length + 1) cap)) := Out.only (Only.at w6 x.xb 3 _) rfl
  have hqb : ∀ b, (Value.slice (some ⟨q, 0, none⟩) (x.fr.length + 1) cap).ownBlock = some b → b = q := fun b hb => by simp [Value.ownBlock] at hb; exact hb.symm
  refine ⟨⟨?_, ownsRow_out hgR ho (fun b hb e => h.gb b hb e), ownsRow_out hlR ho (fun b hb e => h.lb b hb e), ?_, fun b hb hb2 => ?_⟩, rfl, ?_, ?_⟩
  · have := hset w6 x.xb 3 (.slice (some ⟨q, 0, none⟩) (x.fr.length + 1) cap) _ _ _ hblk
    simpa [XD.withFa] using this
  · have := ownsRow_out hrow ho (fun b hb e => hq1 ((hqb b hb).symm.trans e))
    simpa [XD.withFa] using this
  · have e : b = q := by simpa [XD.withFa, Value.ownBlock] using hb2.symm
    subst e
    exact hq2 hb
  · exact (h1.mono (G := x.foot) (fun b hb => .inl (.inr (.inr (.inr hb))))).trans ho (fun b hb => .inl (.inl hb))
  · rintro b (hb | hb | hb | hb)
    · exact .inl (.inl hb)
    · exact .inl (.inr (.inl hb))
    · exact .inl (.inr (.inr (.inl hb)))
    · have e : b = q := by simpa [XD.withFa, Value.ownBlock] using hb.symm
      subst e
      rcases hat with hat | hat
      · exact .inl (.inr (.inr (.inr hat)))
      · exact .inr (by omega)
set_option maxRecDepth 100000 in
set_option maxHeartbeats 2000000 in
theorem qPush_any (x : XD) (w : World) (h : XMem w x) (y : Int) (hl : x.fr.length ≤ 300) : Calls Tryz.prog 232 #[.pointer (some ⟨x.xb, 3, none⟩), .iface 3 (.int .i64 y)] w fun e w' => e = .returned (.tuple #[]) ∧ ∃ fa fc, XStep x (x.withFa fa fc (x.fr ++ [y])) w w' := by
  obtain ⟨i0, hi, hz0, hz1, hz2⟩ := info_parts Tryz.infoI
  obtain ⟨_, _, _, c3, fz⟩ := h.cells
  have f3 := fz 3
  clear fz
  obtain ⟨xb, ix, fr, ga, gc, la, lc, fa, fc⟩ := x
  simp only at c3 f3 hl ⊢
  obtain ⟨n, hn⟩ : ∃ n, fr.length = n := ⟨_, rfl⟩
  have hown : ((w.alloc (.cells #[.int .i64 y] 3)).drew).ownsRow 0 3 1 (.slice fa n fc) n (fr.map (.int .i64)) := by
    rw [← hn]; exact h.freeR.alloc _
  have hnews : ∀ j u, ([.int .i64 y] : List Value)[j]? = some u → ((w.alloc (.cells #[.int .i64 y] 3)).drew).cell? ((⟨w.heap.size, 0, none⟩ : Addr).add j) = some u :=
    World.news_of_block (w := ((w.alloc (.cells #[.int .i64 y] 3)).drew)) (cs := #[.int .i64 y]) (t := 3) (fr := (0, 0)) (heap_alloc_new w _)
  have hd : ∀ w6, ((w.alloc (.cells #[.int .i64 y] 3)).drew).grownBy w6 (Value.slice fa n fc).ownBlock → w6.cell? ⟨xb, 3, none⟩ = some (.slice fa n fc) ∧ w6.frozen? ⟨xb, 3, none⟩ = false := by
    intro w6 hg6
    have hb6 := keepG hg6 (show ((w.alloc (.cells #[.int .i64 y] 3)).drew).heap[xb]? = _ from keepA _ h.blk) (fun e => by rw [← hn] at e; exact h.fb _ e.symm rfl)
    exact ⟨by rw [cell_at hb6, ← hn]; rfl, free_at hb6 3⟩
  have c3a : (w.alloc (.cells #[.int .i64 y] 3)).cell? ⟨xb, 3, none⟩ = some (.slice fa n fc) := by rw [cell_at (keepA _ h.blk), ← hn]; rfl
  rw [hn] at c3 hl
  have H := Lib.hid h
  have HN := Lib.hid hn
  have HOWN := Lib.hid hown
  have HNEWS := Lib.hid hnews
  have HD := Lib.hid hd
  have hm1 : n + 1 ≤ maxLen := by unfold maxLen; omega
  have hm2 : (n + 1) * 8 ≤ 140737488355328 := by omega
  have hT := assert_int y
  clear h hn hown hnews hd
  go_enter Tryz.func232, Tryz.ntmps232
  go_wp2_with fail
  go_region_law (first | (refine step_append_lies _ (by rfl) _ _ 126 (by rfl) 0 3 i0 _ 1 8 Tryz.underlying126 hi hz0 hz1 hz2 rfl (by omega) (.slice fa n fc) n (fr.map (.int .i64)) (by rfl) HOWN.out ⟨w.heap.size, 0, none⟩ 1 1 [.int .i64 y] (by rfl) (by rfl) HNEWS.out (ints_oneCell .i64 [y]) (by omega) hm1 hm2 (by simp) (w.heap.size + 1) (by simp) ?_; intro gq cap6 w6 hown6 hg6 hat6 hlt6; obtain ⟨d0, d1⟩ := HD.out _ hg6))
  all_goals
    have hfin := H.out.fapp (o := .cells #[.int .i64 y] 3) (w6 := w6) (q := gq) (cap := cap6) (y := y) (by rw [HN.out]; exact hg6) (by rw [HN.out]; exact hown6) (by rw [HN.out]; exact hat6)
    rw [HN.out] at hfin
    go_wp2_with fail
    go_end0
    exact ⟨rfl, _, _, hfin⟩
end Go.Proofs.YtnhlnnehpmjeiaaGreatDoor
namespace Go.Proofs.YtnhlnnehpmjeiaaGreatDoor
open Go.RowKit
set_option linter.unusedVariables false
theorem load_queue (a : Addr) (w : World) (v : Value) (h : w.cell? a = some v) : (loadVar 126 a).run Tryz.prog w = .ok v w := by
  have e : (loadVar 126 a).run Tryz.prog w = (load a).run Tryz.prog w := by kernel_rfl
  rw [e, run_load, h]
theorem method_len (a : Addr) (w : World) (v : Value) (h : w.cell? a = some v) : (method 411 250 (.pointer (some a)) "Len").run Tryz.prog w = .ok (224, v) w := by
  have e : (method 411 250 (.pointer (some a)) "Len").run Tryz.prog w = (do pure (224, ← loadVar 126 a) : Sem (FuncId × Value)).run Tryz.prog w := by kernel_rfl
  rw [e]
  simp [load_queue a w v h]
theorem method_less (a : Addr) (w : World) (v : Value) (h : w.cell? a = some v) : (method 411 250 (.pointer (some a)) "Less").run Tryz.prog w = .ok (225, v) w := by
  have e : (method 411 250 (.pointer (some a)) "Less").run Tryz.prog w = (do pure (225, ← loadVar 126 a) : Sem (FuncId × Value)).run Tryz.prog w := by kernel_rfl
  rw [e]
  simp [load_queue a w v h]
theorem method_swap (a : Addr) (w : World) (v : Value) (h : w.cell? a = some v) : (method 411 250 (.pointer (some a)) "Swap").run Tryz.prog w = .ok (226, v) w := by
  have e : (method 411 250 (.pointer (some a)) "Swap").run Tryz.prog w = (do pure (226, ← loadVar 126 a) : Sem (FuncId × Value)).run Tryz.prog w := by kernel_rfl
  rw [e]
  simp [load_queue a w v h]
theorem method_pop (a : Addr) (w : World) : (method 411 250 (.pointer (some a)) "Pop").run Tryz.prog w = .ok (231, .pointer (some a)) w := by kernel_rfl
theorem method_push (a : Addr) (w : World) : (method 411 250 (.pointer (some a)) "Push").run Tryz.prog w = .ok (232, .pointer (some a)) w := by kernel_rfl
theorem qLess_i (x : XD) (w : World) (h : XMem w x) (i j : Int) (a b : Nat) (hi : i = a) (hj : j = b) (ha : a < x.fr.length) (hb : b < x.fr.length) : Calls Tryz.prog 225 #[.slice x.fa x.fr.length x.fc, .int .i64 i, .int .i64 j] w fun e w' => e = .returned (.bool (decide (at0 x.fr a < at0 x.fr b))) ∧ ∃ n, w' = w.drewN n := by
  subst hi; subst hj
  exact qLess_any x w h a b ha hb
theorem qSwap_i (x : XD) (w : World) (h : XMem w x) (i j : Int) (a b : Nat) (hi : i = a) (hj : j = b) (ha : a < x.fr.length) (hb : b < x.fr.length) : Calls Tryz.prog 226 #[.slice x.fa x.fr.length x.fc, .int .i64 i, .int .i64 j] w fun e w' => e = .returned (.tuple #[]) ∧ XStep x (x.withFr (swapL x.fr a b)) w w' := by
  subst hi; subst hj
  exact qSwap_any x w h a b ha hb
set_option maxRecDepth 100000 in
set_option maxHeartbeats 2000000 in
/-- heap.down: from a heap but for i's children to a heap. -/
theorem hDown_any (x : XD) (w : World) (h : XMem w x) (m : Nat) (hm : m ≤ x.fr.length) (hl : x.fr.length ≤ 300) (hd : DownN x.fr m 0) : Calls Tryz.prog 60 #[.iface 250 (.pointer (some ⟨x.xb, 3, none⟩)), .int .i64 (0 : Int), .int .i64 (m : Int)] w fun e w' => (∃ b, e = .returned (.bool b)) ∧ ∃ l, XStep x (x.withFr l) w w' ∧ l.Perm x.fr ∧ (∀ k, m ≤ k → at0 l k = at0 x.fr k) ∧ HeapN l m := by
  have H := Lib.hid h
  have HD := Lib.hid hd
  clear h hd
  go_enter Tryz.func60, Tryz.ntmps60
  go_wp2_with fail
  go_loopw [7] (fun i wr => ∃ (k : Nat) (l : List Int), i = .int .i64 (k : Int) ∧ k ≤ m ∧ XStep x (x.withFr l) w wr ∧ l.Perm x.fr ∧ (∀ j, m ≤ j → at0 l j = at0 x.fr j) ∧ DownN l m k) (fun i _ => m - (intOf i).toNat)
  case atStart => exact ⟨0, x.fr, rfl, Nat.zero_le _, XStep.refl H.out, .refl _, fun _ _ => rfl, HD.out⟩
  case round =>
    obtain ⟨k, l, rfl, hk, hst, hp, heq, hdn⟩ := hrel
    have hll : l.length = x.fr.length := hp.length_eq
    obtain ⟨_, _, _, c3, _⟩ := hst.mem.cells
    have c3 : wr.cell? ⟨x.xb, 3, none⟩ = some (.slice x.fa l.length x.fc) := c3
    have HST := Lib.hid hst
    have HP := Lib.hid hp
    have HEQ := Lib.hid heq
    have HDN := Lib.hid hdn
    have HLL := Lib.hid hll
    have hll1 : l.length ≤ 300 := by omega
    have hml : m ≤ l.length := by omega
    clear hst hp heq hdn hll
    by_cases h1 : m ≤ 2 * k + 1
    · have HF : Hid (HeapN l m) := Lib.hid (HDN.out.leaf h1)
      have g1 : decide ((m : Int) ≤ 2 * (k : Int) + 1) = true := by simp; omega
      go_wp2_with fail
      go_returns
      exact ⟨⟨_, rfl⟩, l, HST.out, HP.out, HEQ.out, HF.out⟩
    · have g1 : decide ((m : Int) ≤ 2 * (k : Int) + 1) = false := by simp; omega
      have g2 : decide (2 * (k : Int) + 1 < 0) = false := by simp; omega
      have hM := method_less ⟨x.xb, 3, none⟩ wr _ c3
      by_cases h3 : 2 * k + 2 < m
      · have g3 : decide (2 * (k : Int) + 1 + 1 < (m : Int)) = true := by simp; omega
        go_wp2_with fail
        refine (qLess_i (x.withFr l) wr HST.out.mem (2 * (k : Int) + 1 + 1) (2 * (k : Int) + 1) (2 * k + 2) (2 * k + 1) (by omega) (by omega) (by show _ < l.length; omega) (by show _ < l.length; omega)).mono ?_
        rintro e w1 ⟨rfl, n1, rfl⟩
        have hst1 := HST.out.below (c := wr.drewN n1) (below_drewN (Below.refl _ _) _)
        generalize wr.drewN n1 = W1 at hst1 ⊢
        clear HST c3 hM
        by_cases h4 : at0 l (2 * k + 2) < at0 l (2 * k + 1)
        · have g4 : decide (at0 (x.withFr l).fr (2 * k + 2) < at0 (x.withFr l).fr (2 * k + 1)) = true := decide_eq_true h4
          have HLEAST : Hid (∀ j, 1 ≤ j → j < m → (j - 1) / 2 = k → at0 l (2 * k + 2) ≤ at0 l j) := Lib.hid fun j h1 h2 h3 => by
            rcases (show j = 2 * k + 1 ∨ j = 2 * k + 2 by omega) with rfl | rfl <;> omega
          have hmem1 := hst1.mem
          have hlf : (x.withFr l).fr.length = x.fr.length := HLL.out
          obtain ⟨_, _, _, c31, _⟩ := hmem1.cells
          have c31 : W1.cell? ⟨x.xb, 3, none⟩ = some (.slice x.fa l.length x.fc) := c31
          have hM1 := method_less ⟨x.xb, 3, none⟩ W1 _ c31
          have HST1 := Lib.hid hst1
          clear hst1
          go_wp2_with fail
          refine (qLess_i (x.withFr l) W1 hmem1 (2 * (k : Int) + 1 + 1) k (2 * k + 2) k (by omega) rfl (by show _ < l.length; omega) (by show _ < l.length; omega)).mono ?_
          rintro e w2 ⟨rfl, n2, rfl⟩
          have hst2 := HST1.out.below (c := W1.drewN n2) (below_drewN (Below.refl _ _) _)
          generalize W1.drewN n2 = W2 at hst2 ⊢
          clear HST1 hmem1 c31 hM1
          by_cases h5 : at0 l (2 * k + 2) < at0 l k
          · have g5 : decide (at0 (x.withFr l).fr (2 * k + 2) < at0 (x.withFr l).fr k) = true := decide_eq_true h5
            have HSTEP := Lib.hid (HDN.out.step (j := 2 * k + 2) hml (by omega) (by omega) (by omega) h5 HLEAST.out)
            have hmem2 := hst2.mem
            obtain ⟨_, _, _, c32, _⟩ := hmem2.cells
            have c32 : W2.cell? ⟨x.xb, 3, none⟩ = some (.slice x.fa l.length x.fc) := c32
            have hM2 := method_swap ⟨x.xb, 3, none⟩ W2 _ c32
            have HST2 := Lib.hid hst2
            clear hst2
            go_wp2_with fail
            refine (qSwap_i (x.withFr l) W2 hmem2 k (2 * (k : Int) + 1 + 1) k (2 * k + 2) rfl (by omega) (by show _ < l.length; omega) (by show _ < l.length; omega)).mono ?_
            rintro e w3 ⟨rfl, hst3⟩
            have hst3 : XStep x (x.withFr (swapL l k (2 * k + 2))) w w3 := HST2.out.trans hst3
            have HST3 := Lib.hid hst3
            have hpp : (swapL l k (2 * k + 2)).Perm x.fr := (swapL_perm (by omega) (by omega)).trans HP.out
            have HPP := Lib.hid hpp
            have heqq : ∀ j, m ≤ j → at0 (swapL l k (2 * k + 2)) j = at0 x.fr j := fun j hj => by
              rw [swapL_at (by omega) (by omega), if_neg (by omega), if_neg (by omega)]
              exact HEQ.out j hj
            have HEQQ := Lib.hid heqq
            clear hst3 hpp heqq HST2 hmem2 c32 hM2
            go_wp2_with fail
            go_roundw
            case rel => exact ⟨2 * k + 2, _, by go_num, by omega, HST3.out, HPP.out, HEQQ.out, HSTEP.out⟩
            case measure => simp [intOf]; omega
          · have g5 : decide (at0 (x.withFr l).fr (2 * k + 2) < at0 (x.withFr l).fr k) = false := decide_eq_false h5
            have HF := Lib.hid (HDN.out.stop (j := 2 * k + 2) (by omega) HLEAST.out)
            have HST2 := Lib.hid hst2
            clear hst2
            go_wp2_with fail
            go_returns
            exact ⟨⟨_, rfl⟩, l, HST2.out, HP.out, HEQ.out, HF.out⟩
        · have g4 : decide (at0 (x.withFr l).fr (2 * k + 2) < at0 (x.withFr l).fr (2 * k + 1)) = false := decide_eq_false h4
          have HLEAST : Hid (∀ j, 1 ≤ j → j < m → (j - 1) / 2 = k → at0 l (2 * k + 1) ≤ at0 l j) := Lib.hid fun j h1 h2 h3 => by
            rcases (show j = 2 * k + 1 ∨ j = 2 * k + 2 by omega) with rfl | rfl <;> omega
          have hmem1 := hst1.mem
          have hlf : (x.withFr l).fr.length = x.fr.length := HLL.out
          obtain ⟨_, _, _, c31, _⟩ := hmem1.cells
          have c31 : W1.cell? ⟨x.xb, 3, none⟩ = some (.slice x.fa l.length x.fc) := c31
          have hM1 := method_less ⟨x.xb, 3, none⟩ W1 _ c31
          have HST1 := Lib.hid hst1
          clear hst1
          go_wp2_with fail
          refine (qLess_i (x.withFr l) W1 hmem1 (2 * (k : Int) + 1) k (2 * k + 1) k (by omega) rfl (by show _ < l.length; omega) (by show _ < l.length; omega)).mono ?_
          rintro e w2 ⟨rfl, n2, rfl⟩
          have hst2 := HST1.out.below (c := W1.drewN n2) (below_drewN (Below.refl _ _) _)
          generalize W1.drewN n2 = W2 at hst2 ⊢
          clear HST1 hmem1 c31 hM1
          by_cases h5 : at0 l (2 * k + 1) < at0 l k
          · have g5 : decide (at0 (x.withFr l).fr (2 * k + 1) < at0 (x.withFr l).fr k) = true := decide_eq_true h5
            have HSTEP := Lib.hid (HDN.out.step (j := 2 * k + 1) hml (by omega) (by omega) (by omega) h5 HLEAST.out)
            have hmem2 := hst2.mem
            obtain ⟨_, _, _, c32, _⟩ := hmem2.cells
            have c32 : W2.cell? ⟨x.xb, 3, none⟩ = some (.slice x.fa l.length x.fc) := c32
            have hM2 := method_swap ⟨x.xb, 3, none⟩ W2 _ c32
            have HST2 := Lib.hid hst2
            clear hst2
            go_wp2_with fail
            refine (qSwap_i (x.withFr l) W2 hmem2 k (2 * (k : Int) + 1) k (2 * k + 1) rfl (by omega) (by show _ < l.length; omega) (by show _ < l.length; omega)).mono ?_
            rintro e w3 ⟨rfl, hst3⟩
            have hst3 : XStep x (x.withFr (swapL l k (2 * k + 1))) w w3 := HST2.out.trans hst3
            have HST3 := Lib.hid hst3
            have hpp : (swapL l k (2 * k + 1)).Perm x.fr := (swapL_perm (by omega) (by omega)).trans HP.out
            have HPP := Lib.hid hpp
            have heqq : ∀ j, m ≤ j → at0 (swapL l k (2 * k + 1)) j = at0 x.fr j := fun j hj => by
              rw [swapL_at (by omega) (by omega), if_neg (by omega), if_neg (by omega)]
              exact HEQ.out j hj
            have HEQQ := Lib.hid heqq
            clear hst3 hpp heqq HST2 hmem2 c32 hM2
            go_wp2_with fail
            go_roundw
            case rel => exact ⟨2 * k + 1, _, by go_num, by omega, HST3.out, HPP.out, HEQQ.out, HSTEP.out⟩
            case measure => simp [intOf]; omega
          · have g5 : decide (at0 (x.withFr l).fr (2 * k + 1) < at0 (x.withFr l).fr k) = false := decide_eq_false h5
            have HF := Lib.hid (HDN.out.stop (j := 2 * k + 1) (by omega) HLEAST.out)
            have HST2 := Lib.hid hst2
            clear hst2
            go_wp2_with fail
            go_returns
            exact ⟨⟨_, rfl⟩, l, HST2.out, HP.out, HEQ.out, HF.out⟩
      · have g3 : decide (2 * (k : Int) + 1 + 1 < (m : Int)) = false := by simp; omega
        have HLEAST : Hid (∀ j, 1 ≤ j → j < m → (j - 1) / 2 = k → at0 l (2 * k + 1) ≤ at0 l j) := Lib.hid fun j h1 h2 h3 => by
          obtain rfl : j = 2 * k + 1 := by omega
          exact Int.le_refl _
        have hst1 := HST.out
        generalize wr = W1 at *
        clear HST c3 hM
        have hmem1 := hst1.mem
        have hlf : (x.withFr l).fr.length = x.fr.length := HLL.out
        obtain ⟨_, _, _, c31, _⟩ := hmem1.cells
        have c31 : W1.cell? ⟨x.xb, 3, none⟩ = some (.slice x.fa l.length x.fc) := c31
        have hM1 := method_less ⟨x.xb, 3, none⟩ W1 _ c31
        have HST1 := Lib.hid hst1
        clear hst1
        go_wp2_with fail
        refine (qLess_i (x.withFr l) W1 hmem1 (2 * (k : Int) + 1) k (2 * k + 1) k (by omega) rfl (by show _ < l.length; omega) (by show _ < l.length; omega)).mono ?_
        rintro e w2 ⟨rfl, n2, rfl⟩
        have hst2 := HST1.out.below (c := W1.drewN n2) (below_drewN (Below.refl _ _) _)
        generalize W1.drewN n2 = W2 at hst2 ⊢
        clear HST1 hmem1 c31 hM1
        by_cases h5 : at0 l (2 * k + 1) < at0 l k
        · have g5 : decide (at0 (x.withFr l).fr (2 * k + 1) < at0 (x.withFr l).fr k) = true := decide_eq_true h5
          have HSTEP := Lib.hid (HDN.out.step (j := 2 * k + 1) hml (by omega) (by omega) (by omega) h5 HLEAST.out)
          have hmem2 := hst2.mem
          obtain ⟨_, _, _, c32, _⟩ := hmem2.cells
          have c32 : W2.cell? ⟨x.xb, 3, none⟩ = some (.slice x.fa l.length x.fc) := c32
          have hM2 := method_swap ⟨x.xb, 3, none⟩ W2 _ c32
          have HST2 := Lib.hid hst2
          clear hst2
          go_wp2_with fail
          refine (qSwap_i (x.withFr l) W2 hmem2 k (2 * (k : Int) + 1) k (2 * k + 1) rfl (by omega) (by show _ < l.length; omega) (by show _ < l.length; omega)).mono ?_
          rintro e w3 ⟨rfl, hst3⟩
          have hst3 : XStep x (x.withFr (swapL l k (2 * k + 1))) w w3 := HST2.out.trans hst3
          have HST3 := Lib.hid hst3
          have hpp : (swapL l k (2 * k + 1)).Perm x.fr := (swapL_perm (by omega) (by omega)).trans HP.out
          have HPP := Lib.hid hpp
          have heqq : ∀ j, m ≤ j → at0 (swapL l k (2 * k + 1)) j = at0 x.fr j := fun j hj => by
            rw [swapL_at (by omega) (by omega), if_neg (by omega), if_neg (by omega)]
            exact HEQ.out j hj
          have HEQQ := Lib.hid heqq
          clear hst3 hpp heqq HST2 hmem2 c32 hM2
          go_wp2_with fail
          go_roundw
          case rel => exact ⟨2 * k + 1, _, by go_num, by omega, HST3.out, HPP.out, HEQQ.out, HSTEP.out⟩
          case measure => simp [intOf]; omega
        · have g5 : decide (at0 (x.withFr l).fr (2 * k + 1) < at0 (x.withFr l).fr k) = false := decide_eq_false h5
          have HF := Lib.hid (HDN.out.stop (j := 2 * k + 1) (by omega) HLEAST.out)
          have HST2 := Lib.hid hst2
          clear hst2
          go_wp2_with fail
          go_returns
          exact ⟨⟨_, rfl⟩, l, HST2.out, HP.out, HEQ.out, HF.out⟩
end Go.Proofs.YtnhlnnehpmjeiaaGreatDoor
namespace Go.Proofs.YtnhlnnehpmjeiaaGreatDoor
open Go.RowKit
set_option linter.unusedVariables false
set_option maxRecDepth 100000 in
set_option maxHeartbeats 2000000 in
/-- heap.up: from a heap but for the last to a heap. -/
theorem hUp_any (x : XD) (w : World) (h : XMem w x) (m : Nat) (hm : x.fr.length = m + 1) (hl : x.fr.length ≤ 300) (hu : UpN x.fr (m + 1) m) : Calls Tryz.prog 41 #[.iface 250 (.pointer (some ⟨x.xb, 3, none⟩)), .int .i64 (m : Int)] w fun e w' => e = .returned (.tuple #[]) ∧ ∃ l, XStep x (x.withFr l) w w' ∧ l.Perm x.fr ∧ HeapN l (m + 1) := by
  have H := Lib.hid h
  have HU := Lib.hid hu
  have HM := Lib.hid hm
  have hm3 : m < 300 := by omega
  clear h hu hm
  go_enter Tryz.func41, Tryz.ntmps41
  go_wp2_with fail
  go_loopw [1] (fun i wr => ∃ (k : Nat) (l : List Int), i = .int .i64 (k : Int) ∧ k ≤ m ∧ XStep x (x.withFr l) w wr ∧ l.Perm x.fr ∧ UpN l (m + 1) k) (fun i _ => (intOf i).toNat)
  case atStart => exact ⟨m, x.fr, rfl, Nat.le_refl _, XStep.refl H.out, .refl _, HU.out⟩
  case round =>
    obtain ⟨k, l, rfl, hk, hst, hp, hup⟩ := hrel
    have hll : l.length = m + 1 := hp.length_eq.trans HM.out
    obtain ⟨_, _, _, c3, _⟩ := hst.mem.cells
    have c3 : wr.cell? ⟨x.xb, 3, none⟩ = some (.slice x.fa l.length x.fc) := c3
    have HST := Lib.hid hst
    have HP := Lib.hid hp
    have HUP := Lib.hid hup
    have hll1 : l.length ≤ 300 := by omega
    have hml : m + 1 ≤ l.length := by omega
    have HLL := Lib.hid hll
    clear hst hp hup hll
    by_cases h1 : k = 0
    · subst h1
      have HF : Hid (HeapN l (m + 1)) := Lib.hid (HUP.out.stop (.inl rfl))
      go_wp2_with fail
      go_end0
      exact ⟨rfl, l, HST.out, HP.out, HF.out⟩
    · obtain ⟨q, rfl⟩ : ∃ q, k = q + 1 := ⟨k - 1, by omega⟩
      obtain ⟨i, hi⟩ : ∃ i : Nat, i = (q + 1 - 1) / 2 := ⟨_, rfl⟩
      have hil : i ≤ q := by omega
      have e3 : ((q : Int) / 2 == (q : Int) + 1) = false := by simp; omega
      have E2 : Hid ((q : Int) / 2 = (i : Int)) := Lib.hid (by omega)
      have HI := Lib.hid hi
      clear hi
      have hM := method_less ⟨x.xb, 3, none⟩ wr _ c3
      go_wp2_with fail
      refine (qLess_i (x.withFr l) wr HST.out.mem ((q : Int) + 1) ((q : Int) / 2) (q + 1) i (by omega) E2.out (by show _ < l.length; omega) (by show _ < l.length; omega)).mono ?_
      rintro e w1 ⟨rfl, n1, rfl⟩
      have hst1 := HST.out.below (c := wr.drewN n1) (below_drewN (Below.refl _ _) _)
      generalize wr.drewN n1 = W1 at hst1 ⊢
      clear HST c3 hM
      by_cases h5 : at0 l (q + 1) < at0 l i
      · have g5 : decide (at0 (x.withFr l).fr (q + 1) < at0 (x.withFr l).fr i) = true := decide_eq_true h5
        have HSTEP := Lib.hid (HUP.out.step (i := i) hml (by omega) (by omega) HI.out h5)
        have hmem1 := hst1.mem
        obtain ⟨_, _, _, c31, _⟩ := hmem1.cells
        have c31 : W1.cell? ⟨x.xb, 3, none⟩ = some (.slice x.fa l.length x.fc) := c31
        have hM1 := method_swap ⟨x.xb, 3, none⟩ W1 _ c31
        have HST1 := Lib.hid hst1
        clear hst1
        go_wp2_with fail
        refine (qSwap_i (x.withFr l) W1 hmem1 ((q : Int) / 2) ((q : Int) + 1) i (q + 1) E2.out (by omega) (by show _ < l.length; omega) (by show _ < l.length; omega)).mono ?_
        rintro e w3 ⟨rfl, hst3⟩
        have hst3 : XStep x (x.withFr (swapL l i (q + 1))) w w3 := HST1.out.trans hst3
        have HST3 := Lib.hid hst3
        have hpp : (swapL l i (q + 1)).Perm x.fr := (swapL_perm (by omega) (by omega)).trans HP.out
        have HPP := Lib.hid hpp
        have hik : i ≤ m := by omega
        have hik2 : i < q + 1 := by have := HI.out; omega
        clear hst3 hpp HST1 hmem1 c31 hM1
        go_wp2_with fail
        go_roundw
        case rel => exact ⟨i, _, congrArg (Value.int .i64) E2.out, hik, HST3.out, HPP.out, HSTEP.out⟩
        case measure => simp [intOf]; omega
      · have g5 : decide (at0 (x.withFr l).fr (q + 1) < at0 (x.withFr l).fr i) = false := decide_eq_false h5
        have HF : Hid (HeapN l (m + 1)) := Lib.hid (HUP.out.stop (.inr (by rw [← HI.out]; omega)))
        have HST1 := Lib.hid hst1
        clear hst1
        go_wp2_with fail
        go_end0
        exact ⟨rfl, l, HST1.out, HP.out, HF.out⟩
set_option maxRecDepth 100000 in
set_option maxHeartbeats 2000000 in
/-- heap.Pop: the least goes. -/
theorem hPop_any (x : XD) (w : World) (h : XMem w x) (m : Nat) (hm : x.fr.length = m + 1) (hl : m ≤ 299) (hh : HeapN x.fr (m + 1)) : Calls Tryz.prog 43 #[.iface 250 (.pointer (some ⟨x.xb, 3, none⟩))] w fun e w' => e = .returned (.iface 3 (.int .i64 (at0 x.fr 0))) ∧ ∃ l, XStep x (x.withFr l) w w' ∧ l.length = m ∧ x.fr.Perm (at0 x.fr 0 :: l) ∧ HeapN l m := by
  obtain ⟨_, _, _, c3, _⟩ := h.cells
  rw [hm] at c3
  have hM := method_len ⟨x.xb, 3, none⟩ w _ c3
  have hMs := method_swap ⟨x.xb, 3, none⟩ w _ c3
  have hsw := qSwap_i x w h 0 (m : Int) 0 m rfl rfl (by omega) (by omega)
  rw [hm] at hsw
  have HSW := Lib.hid hsw
  have HM := Lib.hid hm
  have HH := Lib.hid hh
  clear h hm hh hsw
  go_enter Tryz.func43, Tryz.ntmps43
  go_wp2_with fail
  refine (qLen_any _ _ _ _).mono ?_
  rintro e w1 ⟨rfl, rfl⟩
  go_wp2_with fail
  refine HSW.out.mono ?_
  rintro e w1 ⟨rfl, hst1⟩
  have hs1 : (swapL x.fr 0 m).length = m + 1 := (swapL_len _ _ _).trans HM.out
  have hd := hDown_any (x.withFr (swapL x.fr 0 m)) w1 hst1.mem m (by show m ≤ (swapL x.fr 0 m).length; omega) (by show (swapL x.fr 0 m).length ≤ 300; omega) (HH.out.swapped HM.out)
  have HST1 := Lib.hid hst1
  have HD := Lib.hid hd
  have HS1 := Lib.hid hs1
  clear hst1 hd hs1 c3 hM hMs HSW
  go_wp2_with fail
  refine HD.out.mono ?_
  rintro e w2 ⟨⟨b, rfl⟩, l, hst2, hp, heq, hhl⟩
  have hst2 : XStep x (x.withFr l) w w2 := HST1.out.trans hst2
  have hll : l.length = m + 1 := hp.length_eq.trans HS1.out
  have hpop := qPop_any (x.withFr l) w2 hst2.mem m hll (by omega)
  have hlast : at0 l m = at0 x.fr 0 := by
    rw [heq m (Nat.le_refl _)]
    show at0 (swapL x.fr 0 m) m = _
    rw [swapL_at (by have := HM.out; omega) (by have := HM.out; omega), if_pos rfl]
  rw [show at0 (x.withFr l).fr m = at0 l m from rfl, hlast] at hpop
  have HPOP := Lib.hid hpop
  have hMp := method_pop ⟨x.xb, 3, none⟩ w2
  have hperm : x.fr.Perm (at0 x.fr 0 :: l.take m) := by
    have h1 : l.Perm x.fr := hp.trans (swapL_perm (by have := HM.out; omega) (by have := HM.out; omega))
    have h2 : l = l.take m ++ [at0 l m] := by
      conv => lhs; rw [← List.take_append_drop m l]
      congr 1
      rw [List.drop_eq_getElem_cons (by omega), List.drop_of_length_le (by omega)]
      congr 1
      unfold at0
      rw [List.getD_eq_getElem?_getD, List.getElem?_eq_getElem (by omega)]; rfl
    rw [hlast] at h2
    refine h1.symm.trans ?_
    rw [h2]
    rw [show ∀ (a : List Int) (z : Int) (n : Nat), (a ++ [z]).take n = (a ++ [z]).take n from fun _ _ _ => rfl]
    rw [← h2]
    conv => lhs; rw [h2]
    exact List.perm_append_comm
  have hht : HeapN (l.take m) m := hhl.of_take (Nat.le_refl _)
  have htl : (l.take m).length = m := by rw [List.length_take]; omega
  have HST2 := Lib.hid hst2
  have HPERM := Lib.hid hperm
  have HHT := Lib.hid hht
  have HTL := Lib.hid htl
  clear hst2 hp heq hhl hll hpop hlast hperm hht htl HST1 HD
  go_wp2_with fail
  refine HPOP.out.mono ?_
  rintro e w3 ⟨rfl, hst3⟩
  have hst3 : XStep x (x.withFr (l.take m)) w w3 := HST2.out.trans hst3
  have HST3 := Lib.hid hst3
  clear hst3
  go_wp2_with fail
  go_returns
  exact ⟨rfl, l.take m, HST3.out, HTL.out, HPERM.out, HHT.out⟩
set_option maxRecDepth 100000 in
set_option maxHeartbeats 2000000 in
/-- heap.Push: a number more. -/
theorem hPush_any (x : XD) (w : World) (h : XMem w x) (y : Int) (hl : x.fr.length ≤ 290) (hh : HeapN x.fr x.fr.length) : Calls Tryz.prog 20 #[.iface 250 (.pointer (some ⟨x.xb, 3, none⟩)), .iface 3 (.int .i64 y)] w fun e w' => e = .returned (.tuple #[]) ∧ ∃ fa fc l, XStep x (x.withFa fa fc l) w w' ∧ l.Perm (y :: x.fr) ∧ HeapN l l.length := by
  have hpu := qPush_any x w h y (by omega)
  have hMp := method_push ⟨x.xb, 3, none⟩ w
  have HPU := Lib.hid hpu
  have HH := Lib.hid hh
  clear h hpu hh
  go_enter Tryz.func20, Tryz.ntmps20
  go_wp2_with fail
  refine HPU.out.mono ?_
  rintro e w1 ⟨rfl, fa, fc, hst1⟩
  obtain ⟨n, hn⟩ : ∃ n, x.fr.length = n := ⟨_, rfl⟩
  have hl1 : (x.withFa fa fc (x.fr ++ [y])).fr.length = n + 1 := by show (x.fr ++ [y]).length = _; simp [hn]
  obtain ⟨_, _, _, c3, _⟩ := hst1.mem.cells
  rw [hl1] at c3
  have c3 : w1.cell? ⟨x.xb, 3, none⟩ = some (.slice fa (n + 1) fc) := c3
  have hM := method_len ⟨x.xb, 3, none⟩ w1 _ c3
  have hup := hUp_any (x.withFa fa fc (x.fr ++ [y])) w1 hst1.mem n hl1 (by omega) (by
    have := HH.out.snoc y
    rw [hn] at this
    exact this)
  have HUP := Lib.hid hup
  have HST1 := Lib.hid hst1
  have HN := Lib.hid hn
  have hn2 : n ≤ 290 := by omega
  clear hst1 hl1 hup hn c3 HPU
  go_wp2_with fail
  refine (qLen_any _ _ _ _).mono ?_
  rintro e w2 ⟨rfl, rfl⟩
  go_wp2_with fail
  refine HUP.out.mono ?_
  rintro e w2 ⟨rfl, l, hst2, hp, hhl⟩
  have hst2 : XStep x (x.withFa fa fc l) w w2 := HST1.out.trans hst2
  have hll : l.length = n + 1 := by
    have := hp.length_eq
    have e : (x.withFa fa fc (x.fr ++ [y])).fr.length = n + 1 := by show (x.fr ++ [y]).length = _; simp [HN.out]
    omega
  have hpp : l.Perm (y :: x.fr) := hp.trans (show (x.fr ++ [y]).Perm (y :: x.fr) from List.perm_append_comm)
  have HF := Lib.hid (show ∃ fa fc l, XStep x (x.withFa fa fc l) w w2 ∧ l.Perm (y :: x.fr) ∧ HeapN l l.length from ⟨fa, fc, l, hst2, hpp, by rw [hll]; exact hhl⟩)
  clear hst2 hp hhl hll hpp
  go_wp2_with fail
  go_end0
  exact ⟨rfl, HF.out⟩
end Go.Proofs.YtnhlnnehpmjeiaaGreatDoor
namespace Go.Proofs.YtnhlnnehpmjeiaaGreatDoor
open Go.RowKit
set_option linter.unusedVariables false
theorem Tryz.infoB : (Tryz.prog.info? 4).map (fun i => (i.zero, i.size, i.bytes)) = some (some (.bool false), 1, 1) := by kernel_rfl
end Go.Proofs.YtnhlnnehpmjeiaaGreatDoor
