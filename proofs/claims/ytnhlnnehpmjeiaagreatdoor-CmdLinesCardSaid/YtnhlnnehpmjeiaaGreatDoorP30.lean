/- The index: New. · A world's readers: who lives, who is awaited, rows, sets. · A world's readers: Live, Sigs, Count, Parts, Get. · A world's graph makes a table; room. -/
import Derived.Test.YtnhlnnehpmjeiaaGreatDoorP29
import Derived.Laws.OwnMore
import Derived.Test.YtnhlnnehpmjeiaaGreatDoorP21
namespace Go.Proofs.YtnhlnnehpmjeiaaGreatDoor
open Go.RowKit
set_option linter.unusedVariables false
theorem make_ints (n : Nat) (hn : n ≤ 5000) (w : World) : (Instr.makeSlice 124 (.int .i64 (n : Int)) (.int .i64 (n : Int))).run Tryz.prog w = .ok (.slice (some ⟨w.heap.size, 0, none⟩) n n) (w.alloc (.cells (madeCells #[.int .i64 0] n) 3)) := by
  obtain ⟨i0, hi, hz0, hz1, hz2⟩ := info_parts Tryz.infoI
  have := run_makeSlice (P := Tryz.prog) w 124 3 i0 (.int .i64 0) Tryz.underlying124 hi hz0 .i64 .i64 (n : Int) (n : Int) (by omega) (Int.le_refl _) (by rw [hz1, Int.toNat_natCast]; omega) (by rw [hz2]; omega) (by omega)
  rw [hz1, Int.toNat_natCast, Nat.mul_one] at this
  exact this
theorem make_bools (n : Nat) (hn : n ≤ 5000) (w : World) : (Instr.makeSlice 125 (.int .i64 (n : Int)) (.int .i64 (n : Int))).run Tryz.prog w = .ok (.slice (some ⟨w.heap.size, 0, none⟩) n n) (w.alloc (.cells (madeCells #[.bool false] n) 4)) := by
  obtain ⟨i0, hi, hz0, hz1, hz2⟩ := info_parts Tryz.infoB
  have := run_makeSlice (P := Tryz.prog) w 125 4 i0 (.bool false) Tryz.underlying125 hi hz0 .i64 .i64 (n : Int) (n : Int) (by omega) (Int.le_refl _) (by rw [hz1, Int.toNat_natCast]; omega) (by rw [hz2]; omega) (by omega)
  rw [hz1, Int.toNat_natCast, Nat.mul_one] at this
  exact this
/-- The ids up to n, of which those below k are laid. -/
def gensL (n k : Nat) : List Int := (List.range (n + 1)).map fun j => if 1 ≤ j ∧ j < k then 1 else 0
def frL (k : Nat) : List Int := (List.range k).map fun (j : Nat) => (j : Int) + 1
def newIX (n : Nat) (gens : Int) : IX := ⟨gens, gensL n (n + 1), List.replicate (n + 1) false⟩
theorem make_ints1 (n : Nat) (hn : n ≤ 4000) (w : World) : (Instr.makeSlice 124 (.int .i64 ((n : Int) + 1)) (.int .i64 ((n : Int) + 1))).run Tryz.prog w = .ok (.slice (some ⟨w.heap.size, 0, none⟩) (n + 1) (n + 1)) (w.alloc (.cells (madeCells #[.int .i64 0] (n + 1)) 3)) := by
  have e : ((n : Int) + 1) = ((n + 1 : Nat) : Int) := by omega
  rw [e]; exact make_ints (n + 1) (by omega) w
theorem make_bools1 (n : Nat) (hn : n ≤ 4000) (w : World) : (Instr.makeSlice 125 (.int .i64 ((n : Int) + 1)) (.int .i64 ((n : Int) + 1))).run Tryz.prog w = .ok (.slice (some ⟨w.heap.size, 0, none⟩) (n + 1) (n + 1)) (w.alloc (.cells (madeCells #[.bool false] (n + 1)) 4)) := by
  have e : ((n : Int) + 1) = ((n + 1 : Nat) : Int) := by omega
  rw [e]; exact make_bools (n + 1) (by omega) w
theorem gensL_set {n k : Nat} (h1 : 1 ≤ k) (hk : k ≤ n) : (gensL n k).set k 1 = gensL n (k + 1) := by
  apply List.ext_getElem?
  intro j
  unfold gensL
  rw [List.getElem?_set, List.getElem?_map, List.getElem?_map]
  by_cases e : k = j
  · subst e
    rw [if_pos rfl, if_pos (by simp; omega), List.getElem?_range (by omega)]
    simp [h1]
  · rw [if_neg e]
    have h : (1 ≤ j ∧ j < k) ↔ (1 ≤ j ∧ j < k + 1) := by omega
    rcases Nat.lt_or_ge j (n + 1) with hj | hj
    · rw [List.getElem?_range hj]
      simp [h]
    · rw [List.getElem?_eq_none (by simpa using hj)]; rfl
theorem gensL_len (n k : Nat) : (gensL n k).length = n + 1 := by simp [gensL]
theorem frL_len (k : Nat) : (frL k).length = k := by simp [frL]
theorem frL_succ (k : Nat) : frL (k + 1) = frL k ++ [(k : Int) + 1] := by simp [frL, List.range_succ]
theorem gensL_one (n : Nat) : gensL n 1 = List.replicate (n + 1) 0 := by
  apply List.ext_getElem (by simp [gensL])
  intro i h1 h2
  simp [gensL]
  omega
theorem at0_frL {n k : Nat} (h : k < n) : at0 (frL n) k = (k : Int) + 1 := by
  refine at0_some ?_
  unfold frL
  rw [List.getElem?_map, List.getElem?_range h]; rfl
theorem newIX_ok {n : Nat} {g : Int} (n1 : 1 ≤ n) (n2 : n ≤ 256) (g1 : 1 ≤ g) (g2 : g ≤ 65535) : (newIX n g).Ok ∧ FreeOk (newIX n g) (frL n) := by
  have hgen : ∀ j, j < n + 1 → (newIX n g).gen j = if 1 ≤ j then 1 else 0 := fun j hj => by
    show (gensL n (n + 1)).getD j 0 = _
    unfold gensL
    rw [List.getD_eq_getElem?_getD, List.getElem?_map, List.getElem?_range hj]
    by_cases h : 1 ≤ j <;> simp [h, hj]
  have hlive : ∀ j, (newIX n g).live j = false := fun j => by
    show (List.replicate (n + 1) false).getD j false = false
    rw [List.getD_eq_getElem?_getD, List.getElem?_replicate]
    split <;> rfl
  have hgl : (newIX n g).gens.length = n + 1 := gensL_len _ _
  have hfree : ∀ j, (newIX n g).freeB j = true ↔ 1 ≤ j ∧ j ≤ n := fun j => by
    unfold IX.freeB
    rw [hgl, hlive]
    constructor
    · intro h
      simp at h
      omega
    · rintro ⟨h1, h2⟩
      rw [hgen j (by omega), if_pos h1]
      show (decide (1 ≤ j) && decide (j < n + 1) && !false && decide ((1 : Int) ≤ g)) = true
      simp [h1, g1]; omega
  refine ⟨⟨by rw [hgl]; show (List.replicate (n + 1) false).length = _; simp, by omega, by omega, g1, g2, fun j j1 j2 => ?_, hlive 0, fun j hj => by rw [hlive] at hj; cases hj⟩, ?_, ?_, fun y => ?_⟩
  · rw [hgl] at j2
    rw [hgen j j2, if_pos j1]
    exact ⟨by omega, by show (1 : Int) ≤ g + 1; omega⟩
  · intro k k1 k2
    rw [frL_len] at k2
    rw [at0_frL (by omega), at0_frL k2]
    omega
  · unfold frL
    rw [List.Nodup, List.pairwise_map]
    exact List.nodup_range.imp fun {a b} h => by omega
  · unfold frL
    rw [List.mem_map]
    constructor
    · rintro ⟨j, hj, rfl⟩
      have := List.mem_range.1 hj
      exact ⟨j + 1, by omega, (hfree _).2 (by omega)⟩
    · rintro ⟨j, rfl, hj⟩
      have := (hfree j).1 hj
      exact ⟨j - 1, List.mem_range.2 (by omega), by omega⟩
/-- Rows that have just been made. -/
theorem ownsRow_new {w : World} {q : Nat} {e : TypeId} {z : Value} {m : Nat} (h : w.heap[q]? = some (.cells (madeCells #[z] m) e (0, 0))) (hm : m ≤ maxLen) : w.ownsRow 0 e 1 (.slice (some ⟨q, 0, none⟩) m m) m (List.replicate m z) := by
  refine ⟨by simp, .inr ⟨q, m, madeCells #[z] m, rfl, Nat.zero_le _, h, Nat.le_refl _, hm, by simp [size_madeCells], ?_⟩⟩
  rw [toList_madeCells_one]
  simp
structure NewS (w : World) (xb n : Nat) (g : Int) (k : Nat) (x : XD) (wr : World) : Prop where
  xb : x.xb = xb
  ix : x.ix = ⟨g, gensL n k, List.replicate (n + 1) false⟩
  fr : x.fr = frL (k - 1)
  mem : XMem wr x
  lo : ∀ b, x.foot b → w.heap.size ≤ b
  bel : Below w.heap.size w wr
theorem NewS.step {w : World} {xb n : Nat} {g : Int} {k k' : Nat} {x x' : XD} {a b : World} (h : NewS w xb n g k x a) (hs : XStep x x' a b) (h1 : x'.ix = ⟨g, gensL n k', List.replicate (n + 1) false⟩) (h2 : x'.fr = frL (k' - 1)) : NewS w xb n g k' x' b :=
  ⟨hs.xb.trans h.xb, h1, h2, hs.mem, fun c hc => (hs.foot c hc).elim (h.lo c) fun hb => Nat.le_trans h.bel.size hb, h.bel.trans (hs.out.below h.lo h.bel.size)⟩
theorem NewS.start {w wx : World} {xb q1 q2 n : Nat} {g : Int} (hb : wx.heap[xb]? = some (.cells #[.int .i64 g, .slice (some ⟨q1, 0, none⟩) (n + 1) (n + 1), .slice (some ⟨q2, 0, none⟩) (n + 1) (n + 1), .slice none 0 0] 128 (0, 0)))
    (h1 : wx.ownsRow 0 3 1 (.slice (some ⟨q1, 0, none⟩) (n + 1) (n + 1)) (n + 1) ((gensL n 1).map (.int .i64))) (h2 : wx.ownsRow 0 4 1 (.slice (some ⟨q2, 0, none⟩) (n + 1) (n + 1)) (n + 1) ((List.replicate (n + 1) false).map .bool))
    (l1 : w.heap.size ≤ q1) (l2 : w.heap.size ≤ q2) (l3 : w.heap.size ≤ xb) (hbel : Below w.heap.size w wx) : NewS w xb n g 1 ⟨xb, ⟨g, gensL n 1, List.replicate (n + 1) false⟩, [], some ⟨q1, 0, none⟩, n + 1, some ⟨q2, 0, none⟩, n + 1, none, 0⟩ wx := by
  have e1 := gensL_len n 1
  have e2 : (List.replicate (n + 1) false).length = n + 1 := by simp
  refine ⟨rfl, rfl, rfl, ⟨?_, ?_, ?_, World.ownsRow_nil _ _ _ _, fun b _ hb => by cases hb⟩, ?_, hbel⟩
  · simp only [e1, e2]; exact hb
  · simp only [e1]; exact h1
  · simp only [e2]; exact h2
  · rintro b (hb | hb | hb | hb)
    · subst hb; exact l3
    · obtain rfl : q1 = b := by simpa [Value.ownBlock] using hb
      exact l1
    · obtain rfl : q2 = b := by simpa [Value.ownBlock] using hb
      exact l2
    · cases hb
theorem new3 (w : World) (a b : Array Value) (ta tb tt : TypeId) (o : Array Value) : (((w.alloc (.cells a ta)).alloc (.cells b tb)).alloc (.cells o tt)).drew.heap[w.heap.size + 1 + 1]? = some (.cells o tt (0, 0)) ∧ (((w.alloc (.cells a ta)).alloc (.cells b tb)).alloc (.cells o tt)).drew.heap[w.heap.size + 1]? = some (.cells b tb (0, 0)) ∧ (((w.alloc (.cells a ta)).alloc (.cells b tb)).alloc (.cells o tt)).drew.heap[w.heap.size]? = some (.cells a ta (0, 0)) := by
  refine ⟨?_, ?_, keepA _ (keepA _ (heap_alloc_new w _))⟩
  · have := heap_alloc_new ((w.alloc (.cells a ta)).alloc (.cells b tb)) (.cells o tt)
    rw [World.size_alloc, World.size_alloc] at this
    exact this
  · have := keepA (.cells o tt) (heap_alloc_new (w.alloc (.cells a ta)) (.cells b tb))
    rw [World.size_alloc] at this
    exact this
theorem bel3 (w : World) (a b o : Obj) : Below w.heap.size w (((w.alloc a).alloc b).alloc o).drew := ((((Below.refl _ w).alloc (Nat.le_refl _) _).alloc (by simp) _).alloc (by simp; omega) _).drew
set_option maxRecDepth 100000 in
set_option maxHeartbeats 2000000 in
theorem xNew_ok (n : Nat) (g : Int) (w : World) (n1 : 1 ≤ n) (n2 : n ≤ 256) (g1 : 1 ≤ g) (g2 : g ≤ 65535) : Calls Tryz.prog 36 #[.int .i64 n, .int .i64 g] w fun e w' => ∃ x, e = .returned (.pointer (some ⟨x.xb, 0, none⟩)) ∧ x.ix = newIX n g ∧ XIn w' x ∧ (∀ b, x.foot b → w.heap.size ≤ b) ∧ Below w.heap.size w w' := by
  obtain ⟨i0, hi, hz0, hz1, hz2⟩ := info_parts Tryz.infoI
  have w1 : IntKind.i64.wrap ((n : Int) + 1) = (n : Int) + 1 := IntWalk.i64_in _ (by omega)
  have hm1 := make_ints1 n (by omega)
  have hm2 := make_bools1 n (by omega)
  have HR1 : Hid (∀ (w : World) (q : Nat), w.heap[q]? = some (.cells (madeCells #[.int .i64 0] (n + 1)) 3 (0, 0)) → w.ownsRow 0 3 1 (.slice (some ⟨q, 0, none⟩) (n + 1) (n + 1)) (n + 1) ((gensL n 1).map (.int .i64))) := Lib.hid fun w q h => by
    rw [gensL_one, List.map_replicate]
    exact ownsRow_new h (by unfold maxLen; omega)
  have HR2 : Hid (∀ (w : World) (q : Nat), w.heap[q]? = some (.cells (madeCells #[.bool false] (n + 1)) 4 (0, 0)) → w.ownsRow 0 4 1 (.slice (some ⟨q, 0, none⟩) (n + 1) (n + 1)) (n + 1) ((List.replicate (n + 1) false).map .bool)) := Lib.hid fun w q h => by
    rw [List.map_replicate]
    exact ownsRow_new h (by unfold maxLen; omega)
  generalize madeCells #[.int .i64 0] (n + 1) = Z1 at *
  generalize madeCells #[.bool false] (n + 1) = Z2 at *
  have HOK := Lib.hid (newIX_ok n1 n2 g1 g2)
  have HGL : Hid ((gensL n 1).length = n + 1) := Lib.hid (gensL_len _ _)
  go_enter Tryz.func36, Tryz.ntmps36
  go_wp2_with fail
  go_upto_region 3 with (fail)
  go_cut [5] (fun s5 wx => ∃ xb x, s5 = .pointer (some ⟨xb, 0, none⟩) ∧ NewS w xb n g 1 x wx)
  case first =>
    go_region
    all_goals
      go_wp2_with fail
      go_meet
      first
        | (obtain ⟨z0, z2, z1⟩ := new3 w Z1 Z2 3 4 128 #[.int .i64 g, .slice (some ⟨w.heap.size, 0, none⟩) (n + 1) (n + 1), .slice (some ⟨w.heap.size + 1, 0, none⟩) (n + 1) (n + 1), .slice none 0 0]
           exact ⟨_, _, rfl, NewS.start (q1 := w.heap.size) (q2 := w.heap.size + 1) z0 (HR1.out _ _ z1) (HR2.out _ _ z2) (Nat.le_refl _) (by omega) (by omega) (bel3 _ _ _ _)⟩)
        | (obtain ⟨z0, z1, z2⟩ := new3 w Z2 Z1 4 3 128 #[.int .i64 g, .slice (some ⟨w.heap.size + 1, 0, none⟩) (n + 1) (n + 1), .slice (some ⟨w.heap.size, 0, none⟩) (n + 1) (n + 1), .slice none 0 0]
           exact ⟨_, _, rfl, NewS.start (q1 := w.heap.size + 1) (q2 := w.heap.size) z0 (HR1.out _ _ z1) (HR2.out _ _ z2) (by omega) (Nat.le_refl _) (by omega) (bel3 _ _ _ _)⟩)
  case rest =>
    obtain ⟨xb, x, rfl, hns⟩ := hcut
    have HNS := Lib.hid hns
    clear hns hm1 hm2 HR1 HR2 w1
    go_wp2_with fail
    go_loopw [6] (fun i wr => ∃ (k : Nat) (x : XD), i = .int .i64 (k : Int) ∧ 1 ≤ k ∧ k ≤ n + 1 ∧ NewS w xb n g k x wr) (fun i _ => n + 1 - (intOf i).toNat)
    case atStart => exact ⟨1, x, rfl, by omega, by omega, HNS.out⟩
    case round =>
      obtain ⟨k, x, rfl, k1, k2, hns⟩ := hrel
      obtain ⟨hxb, hix, hfr, hmem, hlo, hbel⟩ := hns
      by_cases hlt : k ≤ n
      · have g3 : decide ((k : Int) ≤ (n : Int)) = true := by simp; omega
        have hgl : x.ix.gens.length = n + 1 := by rw [hix]; exact gensL_len _ _
        have hfl : x.fr.length = k - 1 := by rw [hfr, frL_len]
        obtain ⟨q, hq, d1, f1⟩ := hmem.grow (k := k) (by omega)
        obtain ⟨_, c1, _, _, _⟩ := hmem.cells
        rw [hq, hgl, hxb] at c1
        have j0 : (0 : Int) ≤ (k : Int) := by omega
        have j1 : (k : Int) < ((n + 1 : Nat) : Int) := by omega
        have hst1 := hmem.gput (k := k) (by omega) 1 hq
        have HST1 := Lib.hid hst1
        obtain ⟨_, _, _, c3, fz⟩ := hst1.mem.cells
        replace c3 : (wr.setCell ⟨q, k, none⟩ (.int .i64 1)).cell? ⟨x.xb, 3, none⟩ = some (.slice x.fa x.fr.length x.fc) := c3
        have f3 := fz 3
        replace f3 : (wr.setCell ⟨q, k, none⟩ (.int .i64 1)).frozen? ⟨x.xb, 3, none⟩ = false := f3
        rw [hxb] at c3 f3
        have HX := Lib.hid (And.intro hxb (And.intro hix (And.intro hfr hfl)))
        have HS0 := Lib.hid (show NewS w xb n g k x wr from ⟨hxb, hix, hfr, hmem, hlo, hbel⟩)
        obtain ⟨m, hm⟩ : ∃ m, x.fr.length = m := ⟨_, rfl⟩
        rw [hm] at c3
        have hmk : m ≤ 256 := by omega
        have hown := hst1.mem.freeR
        have hown : ((wr.setCell ⟨q, k, none⟩ (.int .i64 1)).alloc (.cells #[.int .i64 k] 3)).ownsRow 0 3 1 (.slice x.fa m x.fc) m (x.fr.map (.int .i64)) := by
          rw [← hm]; exact hst1.mem.freeR.alloc _
        have hfb := hst1.mem.fb
        have hkb := hst1.mem.blk
        have HAPP : Hid (∀ (w6 : World) (gq cap : Nat), ((wr.setCell ⟨q, k, none⟩ (.int .i64 1)).alloc (.cells #[.int .i64 k] 3)).grownBy w6 (Value.slice x.fa m x.fc).ownBlock → w6.ownsRow 0 3 1 (.slice (some ⟨gq, 0, none⟩) (m + 1) cap) (m + 1) (x.fr.map (.int .i64) ++ [.int .i64 k]) → ((Value.slice x.fa m x.fc).ownBlock = some gq ∨ gq = (wr.setCell ⟨q, k, none⟩ (.int .i64 1)).heap.size + 1) →
            (∃ x', NewS w xb n g (k + 1) x' (w6.setCell ⟨xb, 3, none⟩ (.slice (some ⟨gq, 0, none⟩) (m + 1) cap))) ∧ w6.cell? ⟨xb, 3, none⟩ = some (.slice x.fa m x.fc) ∧ w6.frozen? ⟨xb, 3, none⟩ = false) := Lib.hid fun w6 gq cap hg ho ha => by
          have hg' : ((wr.setCell ⟨q, k, none⟩ (.int .i64 1)).alloc (.cells #[.int .i64 k] 3)).drew.grownBy w6 (Value.slice x.fa m x.fc).ownBlock := ⟨hg.os, hg.tape, hg.output, hg.size, hg.block⟩
          rw [← hm] at hg' ho ha
          have hap := hst1.mem.fapp (w6 := w6) (o := .cells #[.int .i64 k] 3) (q := gq) (cap := cap) (y := (k : Int)) hg' ho ha
          have hst2 := hst1.trans hap
          have hb6 := keepG hg (show ((wr.setCell ⟨q, k, none⟩ (.int .i64 1)).alloc (.cells #[.int .i64 k] 3)).heap[xb]? = _ from keepA _ (hxb ▸ hkb)) (fun e => hfb xb (by rw [← hm] at e; exact e.symm) hxb.symm)
          refine ⟨⟨_, HS0.out.step (k' := k + 1) (by rw [← hm, ← hxb]; exact hst2) ?_ ?_⟩, by rw [cell_at hb6, ← hm]; rfl, free_at hb6 3⟩
          · show IX.withGen x.ix k 1 = _
            rw [hix]
            show (⟨g, (gensL n k).set k 1, List.replicate (n + 1) false⟩ : IX) = _
            rw [gensL_set k1 hlt]
          · show x.fr ++ [(k : Int)] = frL (k + 1 - 1)
            rw [hfr, show k + 1 - 1 = (k - 1) + 1 by omega, frL_succ]
            congr 2
            omega
        have hsz : (wr.setCell ⟨q, k, none⟩ (.int .i64 1)).heap.size = wr.heap.size := by simp [World.setCell]
        have hc1 := cell_one_new (wr.setCell ⟨q, k, none⟩ (.int .i64 1)) (.int .i64 k) 3
        rw [hsz] at hc1
        have HC1 := Lib.hid hc1
        have HSZ := Lib.hid hsz
        have HOWN := Lib.hid hown
        clear hc1 hsz fz hq hgl hst1 hxb hix hfr hmem hlo hbel hfl hm hown hfb hkb
        go_wp2_with (at_builtin; refine wpList_append_lies _ rfl (.tmp 45) (.tmp 47) 126 rfl 0 3 i0 (.int .i64 0) 1 8 Tryz.underlying126 hi hz0 hz1 hz2 rfl (by decide) (.slice x.fa m x.fc) m (x.fr.map (.int .i64)) rfl HOWN.out ⟨wr.heap.size, 0, none⟩ 1 1 [.int .i64 k] rfl rfl HC1.out (ints_oneCell .i64 [(k : Int)]) (by decide) (by unfold maxLen; omega) (by omega) (by simp) (wr.heap.size + 1) (by simp) ?_)
        intro gq vc w6 hown6 hg6 hat6 _
        obtain ⟨⟨x', hx'⟩, t3, tf3⟩ := HAPP.out _ _ _ hg6 hown6 (by rw [HSZ.out]; exact hat6)
        have HX' := Lib.hid hx'
        clear hx' hown6 hg6 hat6 c1 c3 d1 f1 f3
        go_wp2_with fail
        go_roundw
        case rel => exact ⟨k + 1, x', by go_num, by omega, by omega, HX'.out⟩
        case measure => simp [intOf]; omega
      · obtain rfl : k = n + 1 := by omega
        have g3 : decide (((n + 1 : Nat) : Int) ≤ (n : Int)) = false := by simp; omega
        have HF := Lib.hid (show ∃ x : XD, x.xb = xb ∧ x.ix = newIX n g ∧ XIn wr x ∧ (∀ b, x.foot b → w.heap.size ≤ b) ∧ Below w.heap.size w wr from ⟨x, hxb, hix, ⟨hmem, by rw [hix]; exact HOK.out.1, by rw [hix, hfr]; exact HOK.out.2⟩, hlo, hbel⟩)
        clear hxb hix hfr hmem hlo hbel
        go_wp2_with fail
        go_returns
        obtain ⟨x, h1, h2⟩ := HF.out
        exact ⟨x, by rw [h1]; rfl, h2⟩
end Go.Proofs.YtnhlnnehpmjeiaaGreatDoor
namespace Go.Proofs.YtnhlnnehpmjeiaaGreatDoor
open Go.RowKit
set_option linter.unusedVariables false
section
variable {w w' : World} {d : WD} {L : List Int} {N n : Nat}
theorem WRaw.cells (h : WRaw w d n) : w.cell? ⟨d.wb, 6, none⟩ = some (.pointer (some ⟨d.x.xb, 0, none⟩)) ∧ w.cell? ⟨d.wb, 7, none⟩ = some (.pointer (some ⟨d.gb, 0, none⟩)) ∧ w.cell? ⟨d.wb, 8, none⟩ = some (.map (some d.ab)) := by
  have c0 := cell_at h.blk 6
  have c1 := cell_at h.blk 7
  have c2 := cell_at h.blk 8
  simp at c0 c1 c2
  exact ⟨c0, c1, c2⟩
/-- Does somebody live? -/
theorem wLives_any (h : WIn w d N) (e : Int) (h0 : 0 ≤ e) (h1 : e < 18446744073709551616) : Calls Tryz.prog 135 #[.pointer (some ⟨d.wb, 0, none⟩), .int .u64 e] w fun en w' => en = .returned (.int .i64 (d.S.deadE e)) ∧ Below w.heap.size w w' := by
  obtain ⟨c6, _, _⟩ := h.raw.cells
  have ha := xAlive_any d.x w h.raw.ix e h0 h1
  have HA := Lib.hid ha
  have hE : d.S.deadE e = if d.x.ix.alive e then 0 else 11 := rfl
  cases hl : d.x.ix.alive e
  · rw [hl] at hE
    rw [hE]
    rw [hl] at ha
    have HC := Lib.hid ha
    clear ha h HA hE hl
    go_enter Tryz.func135, Tryz.ntmps135
    go_wp2_with fail
    refine HC.out.mono ?_
    rintro en w1 ⟨rfl, hb⟩
    go_wp2_with fail
    go_returns
    exact ⟨rfl, hb⟩
  · rw [hl] at hE
    rw [hE]
    rw [hl] at ha
    have HC := Lib.hid ha
    clear ha h HA hE hl
    go_enter Tryz.func135, Tryz.ntmps135
    go_wp2_with fail
    refine HC.out.mono ?_
    rintro en w1 ⟨rfl, hb⟩
    go_wp2_with fail
    go_returns
    exact ⟨rfl, hb⟩
theorem WIn.place (h : WIn w d N) {e : Int} (he : e ∈ d.x.ix.liveL) : ∃ p t v, d.pl e = some p ∧ d.T[p.tab]? = some t ∧ d.V[p.tab]? = some v ∧ Vals t v := WMid.at h he
theorem WIn.bd (h : WIn w d N) {e : Int} (he : e ∈ d.x.ix.liveL) : 0 ≤ e ∧ e < 18446744073709551616 := by
  have := h.raw.ix.ok.live_bd he
  omega
theorem WIn.dead0 (h : WIn w d N) {e : Int} (he : e ∉ d.x.ix.liveL) (h0 : 0 ≤ e) : d.S.deadE e = 11 := by
  have hh : d.x.ix.alive e = false := by
    cases ha : d.x.ix.alive e with
    | false => rfl
    | true => exact absurd ((alive_in h h0).1 ha) he
  show (if d.x.ix.alive e then (0 : Int) else 11) = 11
  rw [hh]; rfl
theorem WIn.live0 (h : WIn w d N) {e : Int} (he : e ∈ d.x.ix.liveL) : d.S.deadE e = 0 := by
  have hh := (alive_in h (h.bd he).1).2 he
  show (if d.x.ix.alive e then (0 : Int) else 11) = 0
  rw [hh]; rfl
end
end Go.Proofs.YtnhlnnehpmjeiaaGreatDoor
namespace Go.Proofs.YtnhlnnehpmjeiaaGreatDoor
open Go.RowKit
set_option linter.unusedVariables false
section
variable {w w' : World} {d : WD} {L : List Int} {N n : Nat}
theorem WMid.who_row (h : WMid w d L N) {e : Int} {i r : Nat} (hp : d.pl e = some ⟨i, some r⟩) {t : TD} (ht : d.T[i]? = some t) : ∃ v row, d.V[i]? = some v ∧ v[r]? = some row ∧ Vals t v ∧ r < t.ents.length ∧ t.ents[r]? = some e ∧ d.P.who e = some ⟨t.set, some row⟩ ∧ row.length = t.cps.length := by
  obtain ⟨v, hv, hV, hpt⟩ := h.tabv ht
  obtain ⟨u, hu, hr⟩ := (h.ok.row e i r).1 hp
  rw [hpt] at hu
  cases hu
  have hr : t.ents[r]? = some e := hr
  have hrl := (List.getElem?_eq_some_iff.1 hr).1
  have hvl : r < v.length := by rw [hV.len]; exact hrl
  refine ⟨v, v[r], hv, List.getElem?_eq_getElem hvl, hV, hrl, hr, ?_, hV.row _ (List.getElem_mem hvl)⟩
  rw [Go.Proofs.YtnhlnnehpmjeiaaGreatDoor.who_row hp hpt]
  show some (Who.mk t.set (some (v.getD r []))) = _
  rw [List.getD_eq_getElem?_getD, List.getElem?_eq_getElem hvl]; rfl
/-- Somebody lives: they wait, or stand in a row. -/
theorem WIn.cases (h : WIn w d N) {e : Int} (he : e ∈ d.x.ix.liveL) : (∃ i t, d.pl e = some ⟨i, none⟩ ∧ d.T[i]? = some t) ∨ ∃ i r t, d.pl e = some ⟨i, some r⟩ ∧ d.T[i]? = some t := by
  obtain ⟨⟨i, r⟩, t, v, hp, ht, _⟩ := h.place he
  cases r with
  | none => exact .inl ⟨i, t, hp, ht⟩
  | some r => exact .inr ⟨i, r, t, hp, ht⟩
end
end Go.Proofs.YtnhlnnehpmjeiaaGreatDoor
namespace Go.Proofs.YtnhlnnehpmjeiaaGreatDoor
open Go.RowKit
set_option linter.unusedVariables false
/-- What a deed of the graph leaves as it was. -/
structure SameW (d d' : WD) : Prop where
  x : d'.x = d.x
  pl : d'.pl = d.pl
  caps : d'.caps = d.caps
  ver : d'.g.ver = d.g.ver
  cs : d'.g.cs = d.g.cs
  wb : d'.wb = d.wb
  gb : d'.gb = d.gb
  ab : d'.ab = d.ab
section
variable {w w' : World} {d : WD} {L : List Int} {N n : Nat}
theorem makeG_same (g : GS) (s : Int) (tb : Nat) : (makeG g s tb).1.ver = g.ver ∧ (makeG g s tb).1.rows = g.rows ∧ (makeG g s tb).1.cs = g.cs ∧ (makeG g s tb).1.archs = g.archs ∧ (makeG g s tb).1.nw = g.nw ∧ (makeG g s tb).1.ways = g.ways := by
  unfold makeG
  split
  · exact ⟨rfl, rfl, rfl, rfl, rfl, rfl⟩
  · split
    · split <;> exact ⟨rfl, rfl, rfl, rfl, rfl, rfl⟩
    · exact ⟨rfl, rfl, rfl, rfl, rfl, rfl⟩
/-- Another graph, the same tables. -/
theorem WMid.gold (h : WMid w d L N) {g' : GS} {ta' : Option Addr} {tc' : Nat} (hg : Graph 0 d.gb g' d.mb d.wmb ta' tc' w') (ho : GOut d.gb d.mb d.wmb d.ta ta' w w') (hs : g'.ver = d.g.ver ∧ g'.rows = d.g.rows ∧ g'.cs = d.g.cs ∧ g'.archs = d.g.archs) (hts : g'.ts = d.g.ts) (hi : Inv g') {M : Nat} (hn : g'.nw ≤ M) :
    WMid w' { d with g := g', ta := ta', tc := tc' } L M ∧ WFr d { d with g := g', ta := ta', tc := tc' } w w' := by
  obtain ⟨h1, h2⟩ := h.raw.gold hg ho ⟨hs.1, hs.2.1, hs.2.2.1⟩ hts
  exact ⟨⟨h1, h.ok, hi, hn, hs.2.2.2.trans h.archs, hs.2.1.trans h.rows, h.gens, h.ents, by show schemaCheck g'.ver g'.cs = 0; rw [hs.1, hs.2.2.1]; exact h.sch, h.caps, h.lbd⟩, h2⟩
theorem zip_snoc {T : List TD} {V : List (List (List (List WI)))} (hl : V.length = T.length) (t : TD) (v : List (List (List WI))) : List.zipWith PTof (T ++ [t]) (V ++ [v]) = List.zipWith PTof T V ++ [PTof t v] := by
  rw [List.zipWith_append hl.symm]; rfl
/-- A new table. -/
theorem WMid.gnew (h : WMid w d L N) {g' : GS} {ta' : Option Addr} {tc' : Nat} (hg : Graph 0 d.gb g' d.mb d.wmb ta' tc' w') (ho : GOut d.gb d.mb d.wmb d.ta ta' w w') (hs : g'.ver = d.g.ver ∧ g'.rows = d.g.rows ∧ g'.cs = d.g.cs ∧ g'.archs = d.g.archs) {tb : Nat} {set : Int} (hts : g'.ts = d.g.ts ++ [(tb, set)])
    (hN : TableNew w' tb d.g.ver d.g.cs set d.g.rows) (hlo : w.heap.size ≤ tb) (hok : tableOk d.g.ver d.g.cs set d.g.rows = true) (hp : posOf set d.g.sigs = none) (h0 : 0 ≤ set) (h1 : set ≤ 4294967295) (hi : Inv g') {M : Nat} (hn : g'.nw ≤ M) :
    ∃ d' t, WMid w' d' L M ∧ WFr d d' w w' ∧ SameW d d' ∧ d'.T = d.T ++ [t] ∧ d'.g = g' ∧ t.set = set ∧ t.free ≠ 0 ∧ d'.P = d.P.snoc set := by
  have hrows := h.caps.rows
  obtain ⟨t, h1', h2, e1, e2, e3, e4, e5⟩ := h.raw.gnew hg ho ⟨hs.1, hs.2.1, hs.2.2.1⟩ hts hN hlo hok h0 h1 (most := d.caps.rows.toNat) (by rw [h.rows]; omega)
  have hP : WD.P { d with g := g', ta := ta', tc := tc', T := d.T ++ [t], V := d.V ++ [[]] } = d.P.snoc set := by
    show (⟨List.zipWith PTof (d.T ++ [t]) (d.V ++ [[]]), d.pl⟩ : PS) = _
    rw [zip_snoc h.raw.vlen]
    show (⟨d.P.tabs ++ [PTof t []], d.pl⟩ : PS) = ⟨d.P.tabs ++ [⟨set, [], 0, []⟩], d.pl⟩
    unfold PTof
    rw [e2, e3, e4]
  refine ⟨_, t, ⟨h1', ?_, hi, hn, hs.2.2.2.trans h.archs, hs.2.1.trans h.rows, h.gens, h.ents, by show schemaCheck g'.ver g'.cs = 0; rw [hs.1, hs.2.2.1]; exact h.sch, h.caps, h.lbd⟩, h2, ⟨rfl, rfl, rfl, hs.1, hs.2.2.1, rfl, rfl, rfl⟩, rfl, rfl, e2, ?_, hP⟩
  · rw [hP]
    refine h.ok.snoc ?_
    rw [h.sets_eq]
    intro hm
    obtain ⟨i, hi⟩ := List.getElem?_of_mem hm
    have := h.inv.nd i _ hi
    rw [hp] at this; cases this
  · unfold TD.free
    rw [e3, e4, e5]
    show d.caps.rows.toNat - 0 - 0 ≠ 0
    omega
/-- The graph's Make, in a world: the table there is, no table, or a new one. -/
theorem WMid.made (h : WMid w d L N) {s : Int} {e : Ending} (hm : IsMake 0 d.gb d.g d.mb d.wmb d.ta s w e w') (h0 : 0 ≤ s) (h1 : s ≤ 4294967295) :
    (∃ i t d', posOf s d.g.sigs = some i ∧ d.T[i]? = some t ∧ t.set = s ∧ e = .returned (.tuple #[.int .i64 (i : Int), .int .i64 0]) ∧ WMid w' d' L N ∧ WFr d d' w w' ∧ SameW d d' ∧ d'.T = d.T ∧ d'.g = d.g ∧ d'.P = d.P) ∨
    (∃ d' k, posOf s d.g.sigs = none ∧ k ≠ 0 ∧ (if tableOk d.g.ver d.g.cs s d.caps.rows then (if d.caps.archs ≤ (d.g.sigs.length : Int) then (5 : Int) else 0) else 6) = k ∧ e = .returned (.tuple #[.int .i64 0, .int .i64 k]) ∧ WMid w' d' L N ∧ WFr d d' w w' ∧ SameW d d' ∧ d'.T = d.T ∧ d'.g = d.g ∧ d'.P = d.P) ∨
    (∃ d' t, posOf s d.g.sigs = none ∧ (if tableOk d.g.ver d.g.cs s d.caps.rows then (if d.caps.archs ≤ (d.g.sigs.length : Int) then (5 : Int) else 0) else 6) = 0 ∧ e = .returned (.tuple #[.int .i64 (d.T.length : Int), .int .i64 0]) ∧ WMid w' d' L N ∧ WFr d d' w w' ∧ SameW d d' ∧ d'.T = d.T ++ [t] ∧ d'.g.sigs = d.g.sigs ++ [s] ∧ t.set = s ∧ t.free ≠ 0 ∧ d'.P = d.P.snoc s) := by
  obtain ⟨tb, ta', tc', he, hg, hT, ho, hnew⟩ := hm
  have hsame := makeG_same d.g s tb
  have hinv := (h.inv.made h0 h1 tb).1
  cases hp : posOf s d.g.sigs with
  | some i =>
    obtain ⟨t, ht, hts⟩ := h.of_pos hp
    have hM := makeG_has hp tb
    rw [hM] at he hg
    obtain ⟨k1, k2⟩ := h.gold hg ho ⟨rfl, rfl, rfl, rfl⟩ rfl h.inv h.nw
    exact .inl ⟨i, t, _, rfl, ht, hts, he, k1, k2, ⟨rfl, rfl, rfl, rfl, rfl, rfl, rfl, rfl⟩, rfl, rfl, rfl⟩
  | none =>
    have hlen := h.tlen
    have hgl : (d.g.ts.length : Int) ≤ d.g.archs := by obtain ⟨_, _, _, _, _, hh⟩ := h.raw.gr; exact hh.wf.2.2.2.2.1
    have harch := h.archs
    cases hok : tableOk d.g.ver d.g.cs s d.g.rows with
    | false =>
      have hM := makeG_no hp hok tb
      rw [hM] at he hg
      obtain ⟨k1, k2⟩ := h.gold hg ho ⟨rfl, rfl, rfl, rfl⟩ rfl h.inv h.nw
      refine .inr (.inl ⟨_, 6, rfl, by decide, ?_, he, k1, k2, ⟨rfl, rfl, rfl, rfl, rfl, rfl, rfl, rfl⟩, rfl, rfl, rfl⟩)
      rw [← h.rows, hok]; rfl
    | true =>
      by_cases hf : d.g.archs = d.g.ts.length
      · have hM := makeG_full hp hok hf tb
        rw [hM] at he hg
        obtain ⟨k1, k2⟩ := h.gold hg ho ⟨rfl, rfl, rfl, rfl⟩ rfl h.inv h.nw
        refine .inr (.inl ⟨_, 5, rfl, by decide, ?_, he, k1, k2, ⟨rfl, rfl, rfl, rfl, rfl, rfl, rfl, rfl⟩, rfl, rfl, rfl⟩)
        rw [← h.rows, hok, if_pos rfl, if_pos (by omega)]
      · have hM := makeG_new hp hok hf tb
        have hsig : (makeG d.g s tb).1.sigs = d.g.sigs ++ [s] := by rw [hM]; simp [GS.sigs]
        have hts : (makeG d.g s tb).1.ts = d.g.ts ++ [(tb, s)] := by rw [hM]
        obtain ⟨n1, n2, n3, n4⟩ := hnew hts
        obtain ⟨d', t, k1, k2, k3, k4, k5, k6, k7, k8⟩ := h.gnew hg ho ⟨hsame.1, hsame.2.1, hsame.2.2.1, hsame.2.2.2.1⟩ hts n1 n2 n3 n4 h0 h1 hinv (M := N) (by rw [hsame.2.2.2.2.1]; exact h.nw)
        refine .inr (.inr ⟨d', t, rfl, ?_, ?_, k1, k2, k3, k4, by rw [k5]; exact hsig, k6, k7, k8⟩)
        · rw [← h.rows, hok, if_pos rfl, if_neg (by omega)]
        · rw [he, hM, hlen.2.1]
theorem openE_none {d : WD} {s : Int} (h : posOf s d.g.sigs = none) : d.S.openE s = (if tableOk d.g.ver d.g.cs s d.caps.rows then (if d.caps.archs ≤ (d.g.sigs.length : Int) then (5 : Int) else 0) else 6) ∧ d.S.openS s = d.g.sigs ++ [s] := by
  unfold WS.openE WS.openS
  rw [show d.S.sets = d.g.sigs from rfl, h]
  exact ⟨rfl, rfl⟩
theorem openE_some {d : WD} {s : Int} {i : Nat} (h : posOf s d.g.sigs = some i) : d.S.openE s = (if d.caps.rows ≤ (d.S.cnt s : Int) then (5 : Int) else 0) ∧ d.S.openS s = d.g.sigs := by
  unfold WS.openE WS.openS
  rw [show d.S.sets = d.g.sigs from rfl, h]
  exact ⟨rfl, rfl⟩
theorem SameW.live {d d' : WD} (h : SameW d d') : d'.x.ix.liveL = d.x.ix.liveL := by rw [h.x]
theorem WMid.toIn {d d' : WD} (h : WMid w d' d.x.ix.liveL N) (hs : SameW d d') : WIn w d' N := by
  unfold WIn
  rw [hs.live]; exact h
/-- The answer of 'room'. -/
def IsRoomM (d : WD) (L : List Int) (s : Int) (N : Nat) (w : World) (e : Ending) (w' : World) : Prop :=
  ∃ d', WMid w' d' L N ∧ WFr d d' w w' ∧ SameW d d' ∧
    ((d.S.openE s ≠ 0 ∧ e = .returned (.tuple #[.int .i64 0, .int .i64 (d.S.openE s)]) ∧ d'.T = d.T ∧ d'.g = d.g ∧ d'.P = d.P) ∨
     (d.S.openE s = 0 ∧ ∃ i t, e = .returned (.tuple #[.int .i64 ((i : Nat) : Int), .int .i64 0]) ∧ d'.T[i]? = some t ∧ t.set = s ∧ t.free ≠ 0 ∧ d'.g.sigs = d.S.openS s ∧ (d'.P = d.P ∨ (posOf s d.g.sigs = none ∧ d'.P = d.P.snoc s))))
def IsRoom (d : WD) (s : Int) (N : Nat) (w : World) (e : Ending) (w' : World) : Prop :=
  ∃ d', WIn w' d' N ∧ WFr d d' w w' ∧ SameW d d' ∧
    ((d.S.openE s ≠ 0 ∧ e = .returned (.tuple #[.int .i64 0, .int .i64 (d.S.openE s)]) ∧ d'.T = d.T ∧ d'.g = d.g ∧ d'.P = d.P) ∨
     (d.S.openE s = 0 ∧ ∃ i t, e = .returned (.tuple #[.int .i64 ((i : Nat) : Int), .int .i64 0]) ∧ d'.T[i]? = some t ∧ t.set = s ∧ t.free ≠ 0 ∧ d'.g.sigs = d.S.openS s ∧ (d'.P = d.P ∨ (posOf s d.g.sigs = none ∧ d'.P = d.P.snoc s))))
/-- The told state counts all who have places. -/
def Counts (d : WD) (L : List Int) : Prop := ∀ s, d.S.cnt s = L.countP (hasSet d.P s)
theorem WMid.fullM (h : WMid w d L N) (hc : Counts d L) {i : Nat} {t : TD} (ht : d.T[i]? = some t) : t.free = 0 ↔ d.caps.rows ≤ (d.S.cnt t.set : Int) := by
  have h1 : d.S.cnt t.set = t.ents.length + t.kept := (hc t.set).trans (h.count ht)
  have h2 := (WMid.like h ht).1
  have h3 := (h.raw.tabs.tab t (List.mem_of_getElem? ht)).room
  unfold TD.free
  omega
set_option maxRecDepth 100000 in
set_option maxHeartbeats 2000000 in
theorem wRoom_mid (h : WMid w d L N) (hc : Counts d L) (s : Int) (h0 : 0 ≤ s) (h1 : s ≤ 4294967295) : Calls Tryz.prog 152 #[.pointer (some ⟨d.wb, 0, none⟩), .int .u32 s] w (IsRoomM d L s N w) := by
  obtain ⟨_, c7, _⟩ := h.raw.cells
  have hf := gfind_any 0 d.gb d.g s w h.raw.gr h0 h1
  have HMK := Lib.hid (fun (W : World) (hb : Below w.heap.size w W) => make_any 0 d.gb d.g s W (h.below hb).raw.gr h0 h1)
  have H := Lib.hid h
  have HB := Lib.hid h.raw.blk
  cases hp : posOf s d.g.sigs with
  | none =>
    rw [hp] at hf
    have HF := Lib.hid hf
    have HP := Lib.hid hp
    clear h hc hf hp
    go_enter Tryz.func152, Tryz.ntmps152
    go_wp2_with fail
    refine HF.out.mono ?_
    rintro e w1 ⟨rfl, rfl⟩
    go_wp2_with fail
    refine (HMK.out _ (Below.refl _ _)).mono ?_
    intro e w2 hm
    have hmade := WMid.made H.out hm h0 h1
    obtain ⟨q1, q2⟩ := openE_none HP.out
    rcases hmade with ⟨i, t, d', hp', _⟩ | ⟨d', k, _, hk, hke, rfl, k1, k2, k3, k4, k5, k6⟩ | ⟨d', t, _, hke, rfl, k1, k2, k3, k4, k5, k6, k7, k8⟩
    · rw [HP.out] at hp'; cases hp'
    · have HFIN := Lib.hid (show IsRoomM d L s N w (.returned (.tuple #[.int .i64 0, .int .i64 k])) w2 from ⟨d', k1, k2, k3, .inl ⟨by rw [q1, hke]; exact hk, by rw [q1, hke], k4, k5, k6⟩⟩)
      clear hm hk hke k1 k2 k3 k4 k5 k6 q1 q2
      go_wp2_with fail
      go_ret2
      exact HFIN.out
    · have HFIN := Lib.hid (show IsRoomM d L s N w (.returned (.tuple #[.int .i64 (d.T.length : Int), .int .i64 0])) w2 from ⟨d', k1, k2, k3, .inr ⟨by rw [q1, hke], d.T.length, t, rfl, by rw [k4]; simp, k6, k7, by rw [k5, q2], .inr ⟨HP.out, k8⟩⟩⟩)
      clear hm hke k1 k2 k3 k4 k5 k6 k7 k8 q1 q2
      go_wp2_with fail
      go_ret2
      exact HFIN.out
  | some i =>
    rw [hp] at hf
    obtain ⟨t, ht, hts⟩ := WMid.of_pos h hp
    have htab := table_any 0 d.gb d.g (i : Int) w h.raw.gr
    rw [WMid.ptr h ht] at htab
    have hroom := tabRoom_in (WMid.tab h ht)
    have hfull := h.fullM hc ht
    rw [hts] at hfull
    obtain ⟨q1, q2⟩ := openE_some hp
    have HF := Lib.hid hf
    have HP := Lib.hid hp
    have HTAB := Lib.hid htab
    have HT := Lib.hid ht
    have HTS := Lib.hid hts
    have HQ := Lib.hid (And.intro q1 q2)
    have HFU := Lib.hid hfull
    obtain ⟨fr, hfr⟩ : ∃ fr, t.free = fr := ⟨_, rfl⟩
    rw [hfr] at hroom
    have HR := Lib.hid hroom
    have HFR := Lib.hid hfr
    clear h hc hf hp ht hts htab hroom hfull q1 q2 hfr
    by_cases hz : fr = 0
    · subst hz
      go_enter Tryz.func152, Tryz.ntmps152
      go_wp2_with fail
      refine HF.out.mono ?_
      rintro e w1 ⟨rfl, rfl⟩
      go_wp2_with fail
      refine HTAB.out.mono ?_
      rintro e w1 ⟨rfl, rfl⟩
      go_wp2_with fail
      refine HR.out.mono ?_
      rintro e w1 ⟨rfl, nq, rfl⟩
      have h5 : d.S.openE s = 5 := by rw [HQ.out.1, if_pos (HFU.out.1 HFR.out)]
      have HFIN := Lib.hid (show IsRoomM d L s N w (.returned (.tuple #[.int .i64 0, .int .i64 5])) (w.drewN nq) from ⟨d, WMid.below H.out (below_drewN (Below.refl _ _) _), WFr.of_below (below_drewN (Below.refl _ _) _), ⟨rfl, rfl, rfl, rfl, rfl, rfl, rfl, rfl⟩, .inl ⟨by rw [h5]; decide, by rw [h5], rfl, rfl, rfl⟩⟩)
      clear h5
      go_wp2_with fail
      go_ret2
      exact HFIN.out
    · have e1 : ((fr : Int) == 0) = false := by simp; omega
      go_enter Tryz.func152, Tryz.ntmps152
      go_wp2_with fail
      refine HF.out.mono ?_
      rintro e w1 ⟨rfl, rfl⟩
      go_wp2_with fail
      refine HTAB.out.mono ?_
      rintro e w1 ⟨rfl, rfl⟩
      go_wp2_with fail
      refine HR.out.mono ?_
      rintro e w1 ⟨rfl, nq, rfl⟩
      have hbq : Below w.heap.size w (w.drewN nq) := below_drewN (Below.refl _ _) _
      have HBQ := Lib.hid hbq
      have hc7 : (w.drewN nq).cell? ⟨d.wb, 7, none⟩ = _ := c7
      generalize w.drewN nq = W at HBQ hc7 ⊢
      clear hbq c7
      go_wp2_with fail
      refine (HMK.out _ HBQ.out).mono ?_
      intro e w2 hm
      have hmade := WMid.made (H.out.below HBQ.out) hm h0 h1
      rcases hmade with ⟨i', t', d', hp', ht', hts', rfl, k1, k2, k3, k4, k5, k6⟩ | ⟨d', k, hp', _⟩ | ⟨d', t', hp', _⟩
      · rw [HP.out] at hp'
        cases hp'
        rw [HT.out] at ht'
        cases ht'
        have h5 : d.S.openE s = 0 := by rw [HQ.out.1, if_neg (fun hh => hz (HFR.out ▸ HFU.out.2 hh))]
        have HFIN := Lib.hid (show IsRoomM d L s N w (.returned (.tuple #[.int .i64 (i : Int), .int .i64 0])) w2 from ⟨d', k1, (WFr.of_below HBQ.out).trans k2, k3, .inr ⟨h5, i, t, rfl, by rw [k4]; exact HT.out, HTS.out, by rw [HFR.out]; exact hz, by rw [k5, HQ.out.2], .inl k6⟩⟩)
        clear hm hts' k1 k2 k3 k4 k5 k6 h5
        go_wp2_with fail
        go_ret2
        exact HFIN.out
      · rw [HP.out] at hp'; cases hp'
      · rw [HP.out] at hp'; cases hp'
theorem wRoom_any (h : WIn w d N) (s : Int) (h0 : 0 ≤ s) (h1 : s ≤ 4294967295) : Calls Tryz.prog 152 #[.pointer (some ⟨d.wb, 0, none⟩), .int .u32 s] w (IsRoom d s N w) := by
  refine (wRoom_mid h (fun _ => rfl) s h0 h1).mono ?_
  rintro e w' ⟨d', k1, k2, k3, k4⟩
  exact ⟨d', k1.toIn k3, k2, k3, k4⟩
end
end Go.Proofs.YtnhlnnehpmjeiaaGreatDoor
