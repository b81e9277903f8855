/- The heap of commands: up, Pop, Push. · A buffer of commands: New, Len, Room, Clear, Push. · A buffer of commands: Push. · A buffer of commands: Push where it is full; drain. -/
import Derived.Test.YtnhlnnehpmjeiaaGreatDoorP16
import Derived.StillTailTactics
namespace Go.Proofs.YtnhlnnehpmjeiaaGreatDoor
open Go.RowKit
set_option linter.unusedVariables false
set_option maxRecDepth 100000 in
set_option maxHeartbeats 2000000 in
/-- heap.up: from a heap but for the last to a heap. -/
theorem cUp_any (x : QD) (w : World) (h : QMem w x) (m : Nat) (hm : x.its.length = m + 1) (hl : x.its.length ≤ 300) (hwf : ∀ y ∈ x.its, y.wf) (hu : UpI x.its (m + 1) m) : Calls Tryz.prog 41 #[.iface 65 (.pointer (some ⟨x.pb, x.po, none⟩)), .int .i64 (m : Int)] w fun e w' => e = .returned (.tuple #[]) ∧ ∃ l, QStep x (x.withIts l) w w' ∧ l.Perm x.its ∧ HeapI l (m + 1) := by
  have H := Lib.hid h
  have HU := Lib.hid hu
  have HM := Lib.hid hm
  have hm3 : m < 300 := by omega
  have HW := Lib.hid hwf
  clear h hu hm hwf
  go_enter Tryz.func41, Tryz.ntmps41
  go_wp2_with fail
  go_loopw [1] (fun i wr => ∃ (k : Nat) (l : List IT), i = .int .i64 (k : Int) ∧ k ≤ m ∧ QStep x (x.withIts l) w wr ∧ l.Perm x.its ∧ UpI l (m + 1) k) (fun i _ => (intOf i).toNat)
  case atStart => exact ⟨m, x.its, rfl, Nat.le_refl _, QStep.refl H.out, .refl _, HU.out⟩
  case round =>
    obtain ⟨k, l, rfl, hk, hst, hp, hup⟩ := hrel
    have hll : l.length = m + 1 := hp.length_eq.trans HM.out
    have HWF : Hid (∀ y ∈ l, y.wf) := Lib.hid fun y hy => HW.out y (hp.mem_iff.1 hy)
    obtain ⟨c3, _⟩ := hst.mem.cell
    have c3 : wr.cell? ⟨x.pb, x.po, none⟩ = some (.slice x.fa l.length x.fc) := c3
    have HST := Lib.hid hst
    have HP := Lib.hid hp
    have HUP := Lib.hid hup
    have hll1 : l.length ≤ 300 := by omega
    have hml : m + 1 ≤ l.length := by omega
    have HLL := Lib.hid hll
    clear hst hp hup hll
    by_cases h1 : k = 0
    · subst h1
      have HF : Hid (HeapI l (m + 1)) := Lib.hid (HUP.out.stop (.inl rfl))
      go_wp2_with fail
      go_end0
      exact ⟨rfl, l, HST.out, HP.out, HF.out⟩
    · obtain ⟨q, rfl⟩ : ∃ q, k = q + 1 := ⟨k - 1, by omega⟩
      obtain ⟨i, hi⟩ : ∃ i : Nat, i = (q + 1 - 1) / 2 := ⟨_, rfl⟩
      have hil : i ≤ q := by omega
      have e3 : ((q : Int) / 2 == (q : Int) + 1) = false := by simp; omega
      have E2 : Hid ((q : Int) / 2 = (i : Int)) := Lib.hid (by omega)
      have HI := Lib.hid hi
      clear hi
      have hM := cmethod_less ⟨x.pb, x.po, none⟩ wr _ c3
      go_wp2_with fail
      refine (cqLess_i (x.withIts l) wr HST.out.mem ((q : Int) + 1) ((q : Int) / 2) (q + 1) i (by omega) E2.out (by show _ < l.length; omega) (by show _ < l.length; omega) HWF.out).mono ?_
      rintro e w1 ⟨rfl, hb1⟩
      have hst1 := HST.out.below hb1
      generalize w1 = W1 at hst1 ⊢
      clear HST c3 hM
      by_cases h5 : atR l (q + 1) < atR l i
      · have g5 : decide (atR (x.withIts l).its (q + 1) < atR (x.withIts l).its i) = true := decide_eq_true h5
        have HSTEP := Lib.hid (HUP.out.step (i := i) hml (by omega) (by omega) HI.out h5)
        have hmem1 := hst1.mem
        obtain ⟨c31, _⟩ := hmem1.cell
        have c31 : W1.cell? ⟨x.pb, x.po, none⟩ = some (.slice x.fa l.length x.fc) := c31
        have hM1 := cmethod_swap ⟨x.pb, x.po, none⟩ W1 _ c31
        have HST1 := Lib.hid hst1
        clear hst1
        go_wp2_with fail
        refine (cqSwap_i (x.withIts l) W1 hmem1 ((q : Int) / 2) ((q : Int) + 1) i (q + 1) E2.out (by omega) (by show _ < l.length; omega) (by show _ < l.length; omega)).mono ?_
        rintro e w3 ⟨rfl, hst3⟩
        have hst3 : QStep x (x.withIts (swapI l i (q + 1))) w w3 := HST1.out.trans hst3
        have HST3 := Lib.hid hst3
        have hpp : (swapI l i (q + 1)).Perm x.its := (swapI_perm (by omega) (by omega)).trans HP.out
        have HPP := Lib.hid hpp
        have hik : i ≤ m := by omega
        have hik2 : i < q + 1 := by have := HI.out; omega
        clear hst3 hpp HST1 hmem1 c31 hM1
        go_wp2_with fail
        go_roundw
        case rel => exact ⟨i, _, congrArg (Value.int .i64) E2.out, hik, HST3.out, HPP.out, HSTEP.out⟩
        case measure => simp [intOf]; omega
      · have g5 : decide (atR (x.withIts l).its (q + 1) < atR (x.withIts l).its i) = false := decide_eq_false h5
        have HF : Hid (HeapI l (m + 1)) := Lib.hid (HUP.out.stop (.inr (by rw [← HI.out]; omega)))
        have HST1 := Lib.hid hst1
        clear hst1
        go_wp2_with fail
        go_end0
        exact ⟨rfl, l, HST1.out, HP.out, HF.out⟩
set_option maxRecDepth 100000 in
set_option maxHeartbeats 2000000 in
/-- heap.Pop: the first one goes. -/
theorem cPop_any (x : QD) (w : World) (h : QMem w x) (m : Nat) (hm : x.its.length = m + 1) (hl : m ≤ 299) (hwf : ∀ y ∈ x.its, y.wf) (hh : HeapI x.its (m + 1)) : Calls Tryz.prog 43 #[.iface 65 (.pointer (some ⟨x.pb, x.po, none⟩))] w fun e w' => ∃ y, x.its[0]? = some y ∧ e = .returned (.iface 67 y.v) ∧ ∃ l, QStep x (x.withIts l) w w' ∧ l.length = m ∧ x.its.Perm (y :: l) ∧ HeapI l m := by
  obtain ⟨c3, _⟩ := h.cell
  unfold QD.v at c3
  rw [hm] at c3
  have hM := cmethod_len ⟨x.pb, x.po, none⟩ w _ c3
  have hMs := cmethod_swap ⟨x.pb, x.po, none⟩ w _ c3
  have hsw := cqSwap_i x w h 0 (m : Int) 0 m rfl rfl (by omega) (by omega)
  rw [hm] at hsw
  obtain ⟨y, hy⟩ : ∃ y, x.its[0]? = some y := ⟨_, List.getElem?_eq_getElem (by omega)⟩
  have HY := Lib.hid hy
  have HSW := Lib.hid hsw
  have HM := Lib.hid hm
  have HH := Lib.hid hh
  have HWF := Lib.hid hwf
  clear h hm hh hsw hy hwf
  go_enter Tryz.func43, Tryz.ntmps43
  go_wp2_with fail
  refine (cqLen_any _ _ _ _).mono ?_
  rintro e w1 ⟨rfl, rfl⟩
  go_wp2_with fail
  refine HSW.out.mono ?_
  rintro e w1 ⟨rfl, hst1⟩
  have hs1 : (swapI x.its 0 m).length = m + 1 := (swapI_len _ _ _).trans HM.out
  have hsp : (swapI x.its 0 m).Perm x.its := swapI_perm (by have := HM.out; omega) (by have := HM.out; omega)
  have hd := cDown_any (x.withIts (swapI x.its 0 m)) w1 hst1.mem m (by show m ≤ (swapI x.its 0 m).length; omega) (by show (swapI x.its 0 m).length ≤ 300; omega) (fun z hz => HWF.out z (hsp.mem_iff.1 hz)) (HH.out.swapped HM.out)
  have HST1 := Lib.hid hst1
  have HD := Lib.hid hd
  have HS1 := Lib.hid hs1
  have HSP := Lib.hid hsp
  clear hst1 hd hs1 c3 hM hMs HSW hsp
  go_wp2_with fail
  refine HD.out.mono ?_
  rintro e w2 ⟨⟨b, rfl⟩, l, hst2, hp, heq, hhl⟩
  have hst2 : QStep x (x.withIts l) w w2 := HST1.out.trans hst2
  have hll : l.length = m + 1 := hp.length_eq.trans HS1.out
  have hlast : l[m]? = some y := by
    rw [heq m (Nat.le_refl _)]
    exact swapI_to HY.out (by have := HM.out; omega)
  have hpop := cqPop_any (x.withIts l) w2 hst2.mem m hll y hlast (by omega)
  have HPOP := Lib.hid hpop
  have hMp := cmethod_pop ⟨x.pb, x.po, none⟩ w2
  have hperm : x.its.Perm (y :: l.take m) := by
    have h1 : l.Perm x.its := hp.trans HSP.out
    have h2 : l = l.take m ++ [y] := by
      conv => lhs; rw [← List.take_append_drop m l]
      congr 1
      rw [List.drop_eq_getElem_cons (by omega), List.drop_of_length_le (by omega)]
      congr 1
      have := List.getElem?_eq_getElem (show m < l.length by omega)
      rw [this] at hlast
      exact Option.some.inj hlast
    have h3 : (l.take m ++ [y]).Perm (y :: l.take m) := List.perm_append_comm
    rw [← h2] at h3
    exact h1.symm.trans h3
  have hht : HeapI (l.take m) m := hhl.of_take (Nat.le_refl _)
  have htl : (l.take m).length = m := by rw [List.length_take]; omega
  have HST2 := Lib.hid hst2
  have HPERM := Lib.hid hperm
  have HHT := Lib.hid hht
  have HTL := Lib.hid htl
  clear hst2 hp heq hhl hll hpop hlast hperm hht htl HST1 HD
  go_wp2_with fail
  refine HPOP.out.mono ?_
  rintro e w3 ⟨rfl, hst3⟩
  have hst3 : QStep x (x.withIts (l.take m)) w w3 := HST2.out.trans hst3
  have HST3 := Lib.hid hst3
  clear hst3
  go_wp2_with fail
  go_returns
  exact ⟨y, HY.out, rfl, l.take m, HST3.out, HTL.out, HPERM.out, HHT.out⟩
set_option maxRecDepth 100000 in
set_option maxHeartbeats 2000000 in
/-- heap.Push: an item more. -/
theorem cPush_any (x : QD) (w : World) (h : QMem w x) (y : IT) (hl : x.its.length ≤ 290) (hwf : ∀ z ∈ x.its, z.wf) (hy : y.wf) (hh : HeapI x.its x.its.length) : Calls Tryz.prog 20 #[.iface 65 (.pointer (some ⟨x.pb, x.po, none⟩)), .iface 67 y.v] w fun e w' => e = .returned (.tuple #[]) ∧ ∃ fa fc l, QStep x (x.withFa fa fc l) w w' ∧ l.Perm (y :: x.its) ∧ HeapI l l.length := by
  have hpu := cqPush_any x w h y (by omega)
  have hMp := cmethod_push ⟨x.pb, x.po, none⟩ w
  have HPU := Lib.hid hpu
  have HH := Lib.hid hh
  have HWF : Hid (∀ z ∈ x.its ++ [y], z.wf) := Lib.hid fun z hz => by
    rcases List.mem_append.1 hz with hz | hz
    · exact hwf z hz
    · obtain rfl : z = y := by simpa using hz
      exact hy
  clear h hpu hh hwf hy
  go_enter Tryz.func20, Tryz.ntmps20
  go_wp2_with fail
  refine HPU.out.mono ?_
  rintro e w1 ⟨rfl, fa, fc, hst1⟩
  obtain ⟨n, hn⟩ : ∃ n, x.its.length = n := ⟨_, rfl⟩
  have hl1 : (x.withFa fa fc (x.its ++ [y])).its.length = n + 1 := by show (x.its ++ [y]).length = _; simp [hn]
  obtain ⟨c3, _⟩ := hst1.mem.cell
  unfold QD.v at c3
  rw [hl1] at c3
  have c3 : w1.cell? ⟨x.pb, x.po, none⟩ = some (.slice fa (n + 1) fc) := c3
  have hM := cmethod_len ⟨x.pb, x.po, none⟩ w1 _ c3
  have hup := cUp_any (x.withFa fa fc (x.its ++ [y])) w1 hst1.mem n hl1 (by omega) HWF.out (by
    have := HH.out.snoc y
    rw [hn] at this
    exact this)
  have HUP := Lib.hid hup
  have HST1 := Lib.hid hst1
  have HN := Lib.hid hn
  have hn2 : n ≤ 290 := by omega
  clear hst1 hl1 hup hn c3 HPU
  go_wp2_with fail
  refine (cqLen_any _ _ _ _).mono ?_
  rintro e w2 ⟨rfl, rfl⟩
  go_wp2_with fail
  refine HUP.out.mono ?_
  rintro e w2 ⟨rfl, l, hst2, hp, hhl⟩
  have hst2 : QStep x (x.withFa fa fc l) w w2 := HST1.out.trans hst2
  have hll : l.length = n + 1 := by
    have := hp.length_eq
    have e : (x.withFa fa fc (x.its ++ [y])).its.length = n + 1 := by show (x.its ++ [y]).length = _; simp [HN.out]
    omega
  have hpp : l.Perm (y :: x.its) := hp.trans (show (x.its ++ [y]).Perm (y :: x.its) from List.perm_append_comm)
  have HF := Lib.hid (show ∃ fa fc l, QStep x (x.withFa fa fc l) w w2 ∧ l.Perm (y :: x.its) ∧ HeapI l l.length from ⟨fa, fc, l, hst2, hpp, by rw [hll]; exact hhl⟩)
  clear hst2 hp hhl hll hpp
  go_wp2_with fail
  go_end0
  exact ⟨rfl, HF.out⟩
end Go.Proofs.YtnhlnnehpmjeiaaGreatDoor
namespace Go.Proofs.YtnhlnnehpmjeiaaGreatDoor
open Go.RowKit
set_option linter.unusedVariables false
/-- A buffer in memory. -/
def bufQ (b : Nat) (most nx : Int) (fa : Option Addr) (fc : Nat) (its : List IT) : QD := ⟨b, 1, #[.int .i64 most, .slice none 0 0, .int .i64 nx], 62, fa, fc, its⟩
theorem bufQ_blk {w : World} {b : Nat} {most nx : Int} {fa : Option Addr} {fc : Nat} {its : List IT} (h : QMem w (bufQ b most nx fa fc its)) : w.heap[b]? = some (.cells #[.int .i64 most, .slice fa its.length fc, .int .i64 nx] 62 (0, 0)) := h.blk
theorem cmdNew_any (most : Int) (w : World) (h0 : 0 ≤ most) (h1 : most ≤ 64) : Calls Tryz.prog 6 #[.int .i64 most] w fun e w' => e = .returned (.pointer (some ⟨w.heap.size, 0, none⟩)) ∧ QMem w' (bufQ w.heap.size most 0 none 0 []) ∧ Below w.heap.size w w' := by
  have g0 : decide (most < 0) = false := by simp; omega
  have g1 : decide (64 < most) = false := by simp; omega
  have H : Hid (QMem (w.alloc (.cells #[.int .i64 most, .slice none 0 0, .int .i64 0] 62)) (bufQ w.heap.size most 0 none 0 []) ∧ Below w.heap.size w (w.alloc (.cells #[.int .i64 most, .slice none 0 0, .int .i64 0] 62))) := Lib.hid ⟨⟨heap_alloc_new w _, (show 1 < 3 by decide), World.ownsRow_nil _ _ _ _, (show 62 ≠ 67 by decide)⟩, by go_grown⟩
  go_enter Tryz.func6, Tryz.ntmps6
  go_wp2_with fail
  go_returns
  exact ⟨rfl, H.out⟩
theorem bufLen_any {b : Nat} {most nx : Int} {fa : Option Addr} {fc : Nat} {its : List IT} (w : World) (h : QMem w (bufQ b most nx fa fc its)) : Calls Tryz.prog 17 #[.pointer (some ⟨b, 0, none⟩)] w fun e w' => e = .returned (.int .i64 its.length) ∧ w = w' := by
  have c1 := cell_at (bufQ_blk h) 1
  simp at c1
  obtain ⟨n, hn⟩ : ∃ n, its.length = n := ⟨_, rfl⟩
  rw [hn] at c1 ⊢
  clear hn h
  go_enter Tryz.func17, Tryz.ntmps17
  go_wp2_with fail
  go_returns
  exact ⟨rfl, rfl⟩
theorem bufRoom_any {b : Nat} {most nx : Int} {fa : Option Addr} {fc : Nat} {its : List IT} (w : World) (h : QMem w (bufQ b most nx fa fc its)) (hm : its.length ≤ most) (h1 : most ≤ 64) : Calls Tryz.prog 18 #[.pointer (some ⟨b, 0, none⟩)] w fun e w' => e = .returned (.int .i64 (most - its.length)) ∧ ∃ n, w' = w.drewN n := by
  have c0 := cell_at (bufQ_blk h) 0
  have c1 := cell_at (bufQ_blk h) 1
  simp at c0 c1
  obtain ⟨n, hn⟩ : ∃ n, its.length = n := ⟨_, rfl⟩
  rw [hn] at c1 hm ⊢
  clear hn h
  go_enter Tryz.func18, Tryz.ntmps18
  go_wp2_with fail
  go_quiet (fail)
  go_wp2_with fail
  go_returns
  exact ⟨rfl, _, rfl⟩
theorem bufClear_any {b : Nat} {most nx : Int} {fa : Option Addr} {fc : Nat} {its : List IT} (w : World) (h : QMem w (bufQ b most nx fa fc its)) : Calls Tryz.prog 39 #[.pointer (some ⟨b, 0, none⟩)] w fun e w' => e = .returned (.tuple #[]) ∧ QStep (bufQ b most nx fa fc its) (bufQ b most nx none 0 []) w w' := by
  have c1 := cell_at (bufQ_blk h) 1
  have f1 := free_at (bufQ_blk h) 1
  simp at c1
  have hm := h.hang (fa := none) (fc := 0) (l := []) (World.ownsRow_nil _ _ _ _)
  have H : Hid (QStep (bufQ b most nx fa fc its) (bufQ b most nx none 0 []) w (w.setCell ⟨b, 1, none⟩ (.slice none 0 0))) := Lib.hid ⟨hm, ⟨rfl, rfl, rfl, rfl⟩, (Out.only (Only.at w b 1 _) (F := fun z => z = b) rfl).mono (fun z hz => .inl (.inl hz)), fun z hz => .inl (.inl (by
    rcases hz with hz | hz
    · exact hz
    · simp [QD.v, bufQ, Value.ownBlock] at hz))⟩
  clear h hm
  go_enter Tryz.func39, Tryz.ntmps39
  go_wp2_with fail
  go_end0
  exact ⟨rfl, H.out⟩
theorem cmdClone_nil (w : World) : Calls Tryz.prog 19 #[.slice none 0 0] w fun e w' => e = .returned (.slice none 0 0) ∧ w = w' := by
  go_enter Tryz.func19, Tryz.ntmps19
  go_wp2_with fail
  go_loop [3, 8] (fun o i => o = .slice none 0 0 ∧ i = .int .i64 0) (fun o i => 0)
  case atStart => exact ⟨rfl, rfl⟩
  case round =>
    obtain ⟨rfl, rfl⟩ := hrel
    go_wp2_with fail
    go_returns
    exact ⟨rfl, rfl⟩
end Go.Proofs.YtnhlnnehpmjeiaaGreatDoor
namespace Go.Proofs.YtnhlnnehpmjeiaaGreatDoor
open Go.RowKit
set_option linter.unusedVariables false
/-- A deed of a queue that may change what stands beside it. -/
structure BStep (x x' : QD) (w w' : World) : Prop where
  mem : QMem w' x'
  out : Out x.foot w w'
  foot : ∀ b, x'.foot b → x.foot b ∨ w.heap.size ≤ b
theorem QStep.b {x y : QD} {a b : World} (h : QStep x y a b) : BStep x y a b := ⟨h.mem, h.out, h.foot⟩
theorem BStep.trans {x y z : QD} {a b c : World} (h : BStep x y a b) (k : BStep y z b c) : BStep x z a c :=
  ⟨k.mem, h.out.trans k.out h.foot, fun q hq => (k.foot q hq).elim (h.foot q) fun hb => .inr (Nat.le_trans h.out.size hb)⟩
theorem QMem.below_step {x : QD} {a b : World} (h : QMem a x) (hb : Below a.heap.size a b) : BStep x x a b := ((QStep.refl h).below hb).b
/-- The next number. -/
theorem bufQ_bump {w : World} {b : Nat} {most nx : Int} {fa : Option Addr} {fc : Nat} {its : List IT} (h : QMem w (bufQ b most nx fa fc its)) (n2 : Int) : BStep (bufQ b most nx fa fc its) (bufQ b most n2 fa fc its) w (w.setCell ⟨b, 2, none⟩ (.int .i64 n2)) := by
  have ho : Out (fun z => z = b) w (w.setCell ⟨b, 2, none⟩ (.int .i64 n2)) := Out.only (Only.at w b 2 _) rfl
  refine ⟨⟨?_, h.po, ownsRow_out h.row ho (fun z hz e => h.pb_ne hz e), h.ne⟩, ho.mono (fun z hz => .inl (.inl hz)), fun z hz => .inl hz⟩
  exact hset w b 2 (.int .i64 n2) _ _ _ (bufQ_blk h)
def KY.v (k : KY) : Value := .agg #[.int .i64 k.st, .int .i64 k.sy, .int .i64 k.id, .int .i64 k.sq]
set_option maxRecDepth 100000 in
set_option maxHeartbeats 2000000 in
theorem bufPush_any {b : Nat} {most nx : Int} {fa : Option Addr} {fc : Nat} {its : List IT} (w : World) (h : QMem w (bufQ b most nx fa fc its)) (k : KY) (kind ent comp : Int) (hroom : its.length < most) (h1 : most ≤ 64) (hnx : 0 ≤ nx) (hnx2 : nx < 1000) (hwf : ∀ z ∈ its, z.wf) (hk : k.wf) (hh : HeapI its its.length) :
    Calls Tryz.prog 7 #[.pointer (some ⟨b, 0, none⟩), k.v, .agg #[.int .i64 kind, .int .u64 ent, .int .i64 comp, .slice none 0 0]] w fun e w' => e = .returned (.int .i64 0) ∧ ∃ fa' fc' l, BStep (bufQ b most nx fa fc its) (bufQ b most (nx + 1) fa' fc' l) w w' ∧ l.Perm (⟨k, nx, kind, ent, comp⟩ :: its) ∧ HeapI l l.length := by
  have g1 : ((most - (its.length : Int)) == 0) = false := by simp; omega
  obtain ⟨w2, hw2⟩ : ∃ w2, w2 = (w.alloc (.cells #[.int .i64 k.st, .int .i64 k.sy, .int .i64 k.id, .int .i64 k.sq] 27)).alloc (.cells #[.int .i64 kind, .int .u64 ent, .int .i64 comp, .slice none 0 0] 34) := ⟨_, rfl⟩
  have hb2 : Below w.heap.size w w2 := by rw [hw2]; go_grown
  have hk2 : w2.heap[w.heap.size]? = some (.cells #[.int .i64 k.st, .int .i64 k.sy, .int .i64 k.id, .int .i64 k.sq] 27 (0, 0)) := by rw [hw2]; exact keepA _ (heap_alloc_new _ _)
  have hc2 : w2.heap[w.heap.size + 1]? = some (.cells #[.int .i64 kind, .int .u64 ent, .int .i64 comp, .slice none 0 0] 34 (0, 0)) := by
    rw [hw2]
    have := heap_alloc_new (w.alloc (.cells #[.int .i64 k.st, .int .i64 k.sy, .int .i64 k.id, .int .i64 k.sq] 27)) (.cells #[.int .i64 kind, .int .u64 ent, .int .i64 comp, .slice none 0 0] 34)
    simpa using this
  have hm2 := h.below hb2
  have hr := bufRoom_any w2 hm2 (by omega) h1
  have HR := Lib.hid hr
  have HH := Lib.hid hh
  have HWF := Lib.hid hwf
  have HK := Lib.hid hk
  have HM := Lib.hid hm2
  have HB := Lib.hid hb2
  have HK2 := Lib.hid hk2
  have HC2 := Lib.hid hc2
  have HRO := Lib.hid hroom
  have HOLD := Lib.hid h
  unfold KY.v
  clear h hr hh hwf hk hm2 hb2 hk2 hc2 hroom
  go_enter Tryz.func7, Tryz.ntmps7
  go_wp2_with fail
  rw [← hw2]
  clear hw2
  refine HR.out.mono ?_
  rintro e w3 ⟨rfl, n3, rfl⟩
  have hb3 : Below w.heap.size w (w2.drewN n3) := below_drewN HB.out n3
  have hk3 : (w2.drewN n3).heap[w.heap.size]? = _ := HK2.out
  have hc3 : (w2.drewN n3).heap[w.heap.size + 1]? = _ := HC2.out
  generalize w2.drewN n3 = w3 at hb3 hk3 hc3 ⊢
  have hm3 := HOLD.out.below hb3
  have p3 := cell_at hc3 3
  have q3 := free_at hc3 3
  simp at p3
  have hc4 : (w3.setCell ⟨w.heap.size + 1, 3, none⟩ (.slice none 0 0)).heap[w.heap.size + 1]? = some (.cells #[.int .i64 kind, .int .u64 ent, .int .i64 comp, .slice none 0 0] 34 (0, 0)) := hset w3 (w.heap.size + 1) 3 (.slice none 0 0) _ _ _ hc3
  have hk4 : (w3.setCell ⟨w.heap.size + 1, 3, none⟩ (.slice none 0 0)).heap[w.heap.size]? = some (.cells #[.int .i64 k.st, .int .i64 k.sy, .int .i64 k.id, .int .i64 k.sq] 27 (0, 0)) := keepO (Only.at w3 (w.heap.size + 1) 3 _) hk3 (by omega)
  have hb4 : Below w.heap.size w (w3.setCell ⟨w.heap.size + 1, 3, none⟩ (.slice none 0 0)) := hb3.setCell (show w.heap.size ≤ w.heap.size + 1 by omega) _
  have HC4 := Lib.hid hc4
  have HK4 := Lib.hid hk4
  have HB4 := Lib.hid hb4
  clear hb3 hk3 hc3 hm3 hc4 hk4 hb4 HR HM HB HK2 HC2
  go_wp2_with fail
  refine (cmdClone_nil _).mono ?_
  rintro e w4 ⟨rfl, rfl⟩
  go_upto_region 6 with fail
  generalize w3.setCell ⟨w.heap.size + 1, 3, none⟩ (.slice none 0 0) = w4 at HC4 HK4 HB4 ⊢
  clear p3 q3
  have hm4 := HOLD.out.below HB4.out
  have u0 := cell_at HK4.out 0
  have u1 := cell_at HK4.out 1
  have u2 := cell_at HK4.out 2
  have u3 := cell_at HK4.out 3
  have v0 := cell_at HC4.out 0
  have v1 := cell_at HC4.out 1
  have v2 := cell_at HC4.out 2
  have v3 := cell_at HC4.out 3
  have b2 := cell_at (bufQ_blk hm4) 2
  simp at u0 u1 u2 u3 v0 v1 v2 v3 b2
  have hm5 : QMem w4.drew (bufQ b most nx fa fc its) := hm4.below (below_drew1 _)
  have hwy : (⟨k, nx, kind, ent, comp⟩ : IT).wf := ⟨HK.out, ⟨by show -9223372036854775808 ≤ nx; omega, by show nx < 9223372036854775808; omega⟩⟩
  have hP := cPush_any (bufQ b most nx fa fc its) w4.drew hm5 ⟨k, nx, kind, ent, comp⟩ (by show its.length ≤ 290; have := HRO.out; omega) HWF.out hwy HH.out
  have HP := Lib.hid hP
  clear hm4 hm5 hwy hP
  go_wp2_with fail
  go_still_tail 12, (by kernel_rfl)
  change wpList _ _ _ _ _ w4.drew
  go_wp2_with fail
  refine HP.out.mono ?_
  rintro e w5 ⟨rfl, fa', fc', l, hst, hp, hhl⟩
  have hst5 : BStep (bufQ b most nx fa fc its) (bufQ b most nx fa' fc' l) w w5 := (HOLD.out.below_step (HB4.out.drew)).trans hst.b
  have hbl := bufQ_blk hst5.mem
  have e2 := cell_at hbl 2
  have f2 := free_at hbl 2
  simp at e2
  have HF := Lib.hid (hst5.trans (bufQ_bump hst5.mem (nx + 1)))
  have HP5 := Lib.hid hp
  have HH5 := Lib.hid hhl
  clear hst hp hhl hst5 hbl u0 u1 u2 u3 v0 v1 v2 v3 b2 HP
  go_wp2_with fail
  go_returns
  exact ⟨rfl, fa', fc', l, HF.out, HP5.out, HH5.out⟩
end Go.Proofs.YtnhlnnehpmjeiaaGreatDoor
namespace Go.Proofs.YtnhlnnehpmjeiaaGreatDoor
open Go.RowKit
set_option linter.unusedVariables false
set_option maxHeartbeats 2000000 in
theorem bufFull_any {b : Nat} {most nx : Int} {fa : Option Addr} {fc : Nat} {its : List IT} (w : World) (h : QMem w (bufQ b most nx fa fc its)) (k c : Value) (hroom : (its.length : Int) = most) (h1 : most ≤ 64) (hk : ∃ ks, k = .agg ks) (hc : ∃ cs, c = .agg cs) :
    Calls Tryz.prog 7 #[.pointer (some ⟨b, 0, none⟩), k, c] w fun e w' => e = .returned (.int .i64 5) ∧ Below w.heap.size w w' := by
  obtain ⟨ks, rfl⟩ := hk
  obtain ⟨cs, rfl⟩ := hc
  have g1 : ((most - (its.length : Int)) == 0) = true := by simp; omega
  obtain ⟨w2, hw2⟩ : ∃ w2, w2 = (w.alloc (.cells ks 27)).alloc (.cells cs 34) := ⟨_, rfl⟩
  have hb2 : Below w.heap.size w w2 := by rw [hw2]; go_grown
  have hm2 := h.below hb2
  have HR := Lib.hid (bufRoom_any w2 hm2 (by omega) h1)
  have HB := Lib.hid hb2
  clear h hroom hm2 hb2
  go_enter Tryz.func7, Tryz.ntmps7
  go_wp2_with fail
  rw [← hw2]
  clear hw2
  refine HR.out.mono ?_
  rintro e w3 ⟨rfl, n3, rfl⟩
  have HB3 := Lib.hid (below_drewN HB.out n3)
  generalize w2.drewN n3 = w3 at HB3 ⊢
  go_wp2_with fail
  go_returns
  exact ⟨rfl, HB3.out⟩
theorem Tryz.info34 : (Tryz.prog.info? 34).map (fun i => (i.zero, i.size, i.bytes)) = some (some (.agg #[.int .i64 0, .int .u64 0, .int .i64 0, .slice none 0 0]), 4, 48) := by kernel_rfl
theorem field_item (c0 c1 c2 c3 c4 c5 c6 c7 c8 : Value) (w : World) : (Instr.field 67 (.agg #[c0, c1, c2, c3, c4, c5, c6, c7, c8]) 2).run Tryz.prog w = .ok (.agg #[c5, c6, c7, c8]) w := by kernel_rfl
def lenS : Value → Nat
  | .slice _ n _ => n
  | _ => 0
theorem own_base {w : World} {B : Nat} {e : TypeId} {s n c : Nat} {a : Option Addr} {xs : List Value} (h : w.ownsRow B e s (.slice a n c) n xs) {b : Nat} (hb : (Value.slice a n c).ownBlock = some b) : B ≤ b := by
  rcases h.2 with ⟨hv, _⟩ | ⟨g, cap, cur, hv, hg, _⟩
  · cases hv; simp [Value.ownBlock] at hb
  · cases hv
    simp [Value.ownBlock] at hb
    omega
theorem out_append {W w3 : World} {o : Obj} {r : Option Nat} (hg : (W.alloc o).grownBy w3 r) : Out (fun b => r = some b) W w3 := ⟨hg.os, hg.tape, hg.output, by have := hg.size; simp at this; omega, fun k hk hF => (hg.block k (by simp; omega) (fun e => hF e.symm)).trans (by rw [halloc, if_neg (by omega)])⟩
set_option maxRecDepth 100000 in
set_option maxHeartbeats 2000000 in
theorem drain_any (fa : Option Addr) (fc : Nat) (its : List IT) (w : World) (hrow : w.ownsRow 0 67 9 (.slice fa its.length fc) its.length (its.flatMap IT.c)) (hwf : ∀ z ∈ its, z.wf) (hh : HeapI its its.length) (hl : its.length ≤ 100) :
    Calls Tryz.prog 21 #[.slice fa its.length fc] w fun e w' => ∃ (out : List IT) (va : Option Addr) (vc : Nat), e = .returned (.slice va out.length vc) ∧ w'.ownsRow (w.heap.size + 1) 34 4 (.slice va out.length vc) out.length (out.flatMap IT.d) ∧ out.Perm its ∧ (out.Pairwise fun a b => a.r ≤ b.r) ∧ Out (fun b => (Value.slice fa its.length fc).ownBlock = some b) w w' := by
  obtain ⟨i0, hi, hz0, hz1, hz2⟩ := info_parts Tryz.info34
  obtain ⟨x, hx⟩ : ∃ x : QD, x = ⟨w.heap.size, 0, #[.slice none 0 0], 60, fa, fc, its⟩ := ⟨_, rfl⟩
  obtain ⟨w1, hw1⟩ : ∃ w1, w1 = w.alloc (.cells #[.slice fa its.length fc] 60) := ⟨_, rfl⟩
  have hm : QMem w1 x := by
    rw [hx, hw1]
    exact ⟨heap_alloc_new w _, (show 0 < 1 by decide), hrow.alloc _, (show 60 ≠ 67 by decide)⟩
  have hb1 : Below w.heap.size w w1 := by rw [hw1]; go_grown
  have hs1 : w1.heap.size = w.heap.size + 1 := by rw [hw1]; simp
  have hxp : x.pb = w.heap.size ∧ x.po = 0 ∧ x.its = its ∧ x.fa = fa ∧ x.fc = fc := by rw [hx]; simp
  obtain ⟨p1, p2, p3, p4, p5⟩ := hxp
  have HX : Hid (x.pb = w.heap.size ∧ x.po = 0 ∧ x.its = its ∧ x.fa = fa ∧ x.fc = fc) := Lib.hid ⟨p1, p2, p3, p4, p5⟩
  have HM := Lib.hid hm
  have HB1 := Lib.hid hb1
  have HS1 := Lib.hid hs1
  have HWF := Lib.hid hwf
  have HD : Hid (Drain IT.r its [] its) := Lib.hid (Drain.start hh)
  have HFB : Hid (∀ b, x.foot b → b = w.heap.size ∨ (Value.slice fa its.length fc).ownBlock = some b) := Lib.hid (by
    intro b hb
    rw [hx] at hb
    exact hb)
  have HFL : Hid (∀ b, x.foot b → b < w.heap.size + 1) := Lib.hid (by
    intro b hb
    rcases hb with hb | hb
    · omega
    · rw [hx] at hb
      obtain ⟨cur, hc⟩ := row_type hrow hb
      have := lt_some hc
      omega)
  clear hm hb1 hs1 hwf hh hrow p1 p2 p3 p4 p5
  go_enter Tryz.func21, Tryz.ntmps21
  go_wp2_with fail
  rw [← hw1]
  clear hw1 hx
  have hwi : x.withIts its = x := by
    have := HX.out.2.2.1
    unfold QD.withIts
    rw [← this]
  go_loopw [3] (fun o wr => ∃ (outs left : List IT) (va : Option Addr) (vc : Nat), o = .slice va outs.length vc ∧ wr.ownsRow (w.heap.size + 1) 34 4 (.slice va outs.length vc) outs.length (outs.flatMap IT.d) ∧ QStep x (x.withIts left) w1 wr ∧ Drain IT.r its outs left) (fun o _ => its.length - lenS o)
  case atStart => exact ⟨[], its, none, 0, rfl, World.ownsRow_nil _ _ _ _, by rw [hwi]; exact QStep.refl HM.out, HD.out⟩
  case round =>
    obtain ⟨outs, left, va, vc, rfl, hown, hst, hdr⟩ := hrel
    have hlen : outs.length + left.length = its.length := by
      have := hdr.perm.length_eq
      rw [List.length_append] at this
      exact this
    have c3 : wr.cell? ⟨w.heap.size, 0, none⟩ = some (.slice fa left.length fc) := by
      have := hst.mem.cell.1
      obtain ⟨e1, e2, _, e4, e5⟩ := HX.out
      unfold QD.v at this
      rw [show (x.withIts left).pb = w.heap.size from e1, show (x.withIts left).po = 0 from e2, show (x.withIts left).fa = fa from e4, show (x.withIts left).fc = fc from e5] at this
      exact this
    have hwl : ∀ z ∈ left, z.wf := fun z hz => HWF.out z (hdr.perm.mem_iff.1 (List.mem_append_right _ hz))
    rcases Nat.eq_zero_or_pos left.length with h0 | h0
    · obtain rfl := List.eq_nil_of_length_eq_zero h0
      have HF := Lib.hid (show wr.ownsRow (w.heap.size + 1) 34 4 (.slice va outs.length vc) outs.length (outs.flatMap IT.d) ∧ outs.Perm its ∧ (outs.Pairwise fun a b => a.r ≤ b.r) ∧ Out (fun b => (Value.slice fa its.length fc).ownBlock = some b) w wr from ⟨hown, hdr.done.1, hdr.done.2, (Out.of HB1.out : Out (fun b => (Value.slice fa its.length fc).ownBlock = some b) w w1).trans hst.out (fun b hb => (HFB.out b hb).elim (fun e => .inr (by omega)) .inl)⟩)
      have c3 : wr.cell? ⟨w.heap.size, 0, none⟩ = some (.slice fa 0 fc) := c3
      clear hown hst hdr hlen hwl h0 hwi
      go_wp2_with fail
      refine (cqLen_any _ _ _ _).mono ?_
      rintro e w2 ⟨rfl, rfl⟩
      go_wp2_with fail
      go_returns
      exact ⟨outs, va, vc, rfl, HF.out⟩
    · obtain ⟨m, hm⟩ : ∃ m, left.length = m + 1 := ⟨left.length - 1, by omega⟩
      have hP : Calls Tryz.prog 43 #[.iface 65 (.pointer (some ⟨w.heap.size, 0, none⟩))] wr (fun e w' => ∃ y, left[0]? = some y ∧ e = .returned (.iface 67 y.v) ∧ ∃ l, QStep (x.withIts left) ((x.withIts left).withIts l) wr w' ∧ l.length = m ∧ left.Perm (y :: l) ∧ HeapI l m) := by
        have hhl : HeapI left left.length := hdr.heap
        rw [hm] at hhl
        have := cPop_any (x.withIts left) wr hst.mem m hm (by omega) hwl hhl
        rw [show (x.withIts left).pb = w.heap.size from HX.out.1, show (x.withIts left).po = 0 from HX.out.2.1] at this
        exact this
      obtain ⟨n, hn⟩ : ∃ n, outs.length = n := ⟨_, rfl⟩
      have hnl : n + m + 1 = its.length := by omega
      rw [hn] at hown ⊢
      rw [hm] at c3
      have g1 : decide ((0 : Int) < (m : Int) + 1) = true := decide_eq_true (by omega)
      have HP := Lib.hid hP
      have HOWN := Lib.hid hown
      have HST := Lib.hid hst
      have HDR := Lib.hid hdr
      have HN := Lib.hid hn
      have HLM := Lib.hid hm
      clear hP hown hst hdr hlen hwl h0 hwi hn hm
      go_wp2_with fail
      refine (cqLen_any _ _ _ _).mono ?_
      rintro e w2 ⟨rfl, rfl⟩
      go_wp2_with fail
      refine HP.out.mono ?_
      rintro e w2 ⟨y, hy, rfl, l, hst2, hll, hp, hh2⟩
      have hst2 : QStep (x.withIts left) (x.withIts l) wr w2 := hst2
      have hne : ∀ b, (Value.slice va n vc).ownBlock = some b → ¬ (x.withIts left).foot b := fun b hb hF => by
        have h1 := own_base HOWN.out hb
        rcases HST.out.foot b hF with h2 | h2
        · have := HFL.out b h2; omega
        · have h3 := HST.out.same
          rcases hF with hF | hF
          · have := HX.out.1
            have e : b = x.pb := hF
            omega
          · have := HFL.out b (.inr (by
              have e1 : (x.withIts left).v.ownBlock = x.v.ownBlock := by unfold QD.v QD.withIts; cases x.fa <;> rfl
              rw [e1] at hF; exact hF))
            omega
      have hown2 := ownsRow_out HOWN.out hst2.out hne
      have hown3 := hown2.alloc (.cells #[.int .i64 y.kind, .int .u64 y.ent, .int .i64 y.comp, .slice none 0 0] 34)
      have hnews : ∀ j u, (y.d : List Value)[j]? = some u → (w2.alloc (.cells #[.int .i64 y.kind, .int .u64 y.ent, .int .i64 y.comp, .slice none 0 0] 34)).cell? ((⟨w2.heap.size, 0, none⟩ : Addr).add j) = some u :=
        World.news_of_block (w := w2.alloc (.cells #[.int .i64 y.kind, .int .u64 y.ent, .int .i64 y.comp, .slice none 0 0] 34)) (cs := #[.int .i64 y.kind, .int .u64 y.ent, .int .i64 y.comp, .slice none 0 0]) (t := 34) (fr := (0, 0)) (heap_alloc_new w2 _)
      have hsz : w.heap.size + 1 ≤ w2.heap.size := by
        have h1 := HST.out.out.size
        have h2 := hst2.out.size
        have := HS1.out
        omega
      have hT := assert_item #[.int .i64 y.k.st, .int .i64 y.k.sy, .int .i64 y.k.id, .int .i64 y.k.sq, .int .i64 y.at_, .int .i64 y.kind, .int .u64 y.ent, .int .i64 y.comp, .slice none 0 0]
      have hT2 := field_item (.int .i64 y.k.st) (.int .i64 y.k.sy) (.int .i64 y.k.id) (.int .i64 y.k.sq) (.int .i64 y.at_) (.int .i64 y.kind) (.int .u64 y.ent) (.int .i64 y.comp) (.slice none 0 0)
      have HNE := Lib.hid hne
      have HY := Lib.hid hy
      have HST2 := Lib.hid hst2
      have HLL := Lib.hid hll
      have HPM := Lib.hid hp
      have HH2 := Lib.hid hh2
      have HOWN3 := Lib.hid hown3
      have HNEWS := Lib.hid hnews
      have HONE := Lib.hid y.d_one
      have HSZ := Lib.hid hsz
      clear hne hy hst2 hll hp hh2 hown2 hown3 hnews c3 HP
      unfold IT.v
      go_wp2_with (at_builtin; refine wpList_append_own _ rfl (.tmp 7) (.tmp 12) 35 rfl (w.heap.size + 1) 34 i0 (.agg #[.int .i64 0, .int .u64 0, .int .i64 0, .slice none 0 0]) 4 48 Tryz.underlying35 hi hz0 hz1 hz2 rfl (by decide) (.slice va n vc) n (outs.flatMap IT.d) rfl HOWN3.out ⟨w2.heap.size, 0, none⟩ 1 1 y.d rfl rfl HNEWS.out HONE.out (by unfold maxLen; omega) (by omega) (by simp; omega) ?_)
      intro v' w3 hown4 hg4 hnil
      obtain ⟨va', vc', hv⟩ := ownsRow_slice hown4
      rw [hv] at hown4 hnil ⊢
      clear hv hnil
      have ho3 := out_append hg4
      have hmem3 : QMem w3 (x.withIts l) := HST2.out.mem.out ho3 (fun b hb hF => HNE.out b hF (by
        rcases HST2.out.foot b hb with h1 | h1
        · exact h1
        · exfalso
          obtain ⟨cur, hc⟩ := row_type HOWN.out hF
          have := lt_some hc
          omega))
      have hst3 : QStep x (x.withIts l) w1 w3 := by
        have hc := HST.out.trans HST2.out
        exact ⟨hmem3, hc.same, hc.out.trans ho3 (fun b hb => .inr (by have := own_base HOWN.out hb; have := HS1.out; omega)), hc.foot⟩
      have hdr3 : Drain IT.r its (outs ++ [y]) l := HDR.out.next HY.out HPM.out (by
        have := HH2.out
        rw [← HLL.out] at this
        exact this)
      have hl3 : (outs ++ [y]).length = n + 1 := by simp [HN.out]
      have hf3 : (outs ++ [y]).flatMap IT.d = outs.flatMap IT.d ++ y.d := by simp
      have HREL := Lib.hid (show w3.ownsRow (w.heap.size + 1) 34 4 (.slice va' (outs ++ [y]).length vc') (outs ++ [y]).length ((outs ++ [y]).flatMap IT.d) ∧ QStep x (x.withIts l) w1 w3 ∧ Drain IT.r its (outs ++ [y]) l from ⟨by rw [hl3, hf3]; exact hown4, hst3, hdr3⟩)
      have HL3 := Lib.hid hl3
      clear ho3 hmem3 hst3 hdr3 hl3 hf3 hown4 hg4
      go_wp2_with fail
      go_roundw
      case rel => exact ⟨outs ++ [y], l, va', vc', by rw [HL3.out], HREL.out⟩
      case measure => simp [lenS]; omega
end Go.Proofs.YtnhlnnehpmjeiaaGreatDoor
