/- The index: New. · The index: Clone. · A world's readers: who lives, who is awaited, rows, sets. -/
import Derived.Test.YthmpknlgkflhiabGreatQ33
import Derived.Laws.OwnMore
import Derived.Test.YthmpknlgkflhiabGreatQ14
import Derived.Test.YthmpknlgkflhiabGreatQ31
namespace Go.Proofs.YthmpknlgkflhiabGreat
open Go.RowKit
set_option linter.unusedVariables false
theorem make_ints (n : Nat) (hn : n ≤ 5000) (w : World) : (Instr.makeSlice 128 (.int .i64 (n : Int)) (.int .i64 (n : Int))).run Tryz.prog w = .ok (.slice (some ⟨w.heap.size, 0, none⟩) n n) (w.alloc (.cells (madeCells #[.int .i64 0] n) 3)) := by
  obtain ⟨i0, hi, hz0, hz1, hz2⟩ := info_parts Tryz.infoI
  have := run_makeSlice (P := Tryz.prog) w 128 3 i0 (.int .i64 0) Tryz.underlying128 hi hz0 .i64 .i64 (n : Int) (n : Int) (by omega) (Int.le_refl _) (by rw [hz1, Int.toNat_natCast]; omega) (by rw [hz2]; omega) (by omega)
  rw [hz1, Int.toNat_natCast, Nat.mul_one] at this
  exact this
theorem make_bools (n : Nat) (hn : n ≤ 5000) (w : World) : (Instr.makeSlice 129 (.int .i64 (n : Int)) (.int .i64 (n : Int))).run Tryz.prog w = .ok (.slice (some ⟨w.heap.size, 0, none⟩) n n) (w.alloc (.cells (madeCells #[.bool false] n) 4)) := by
  obtain ⟨i0, hi, hz0, hz1, hz2⟩ := info_parts Tryz.infoB
  have := run_makeSlice (P := Tryz.prog) w 129 4 i0 (.bool false) Tryz.underlying129 hi hz0 .i64 .i64 (n : Int) (n : Int) (by omega) (Int.le_refl _) (by rw [hz1, Int.toNat_natCast]; omega) (by rw [hz2]; omega) (by omega)
  rw [hz1, Int.toNat_natCast, Nat.mul_one] at this
  exact this
/-- The ids up to n, of which those below k are laid. -/
def gensL (n k : Nat) : List Int := (List.range (n + 1)).map fun j => if 1 ≤ j ∧ j < k then 1 else 0
def frL (k : Nat) : List Int := (List.range k).map fun (j : Nat) => (j : Int) + 1
def newIX (n : Nat) (gens : Int) : IX := ⟨gens, gensL n (n + 1), List.replicate (n + 1) false⟩
theorem make_ints1 (n : Nat) (hn : n ≤ 4000) (w : World) : (Instr.makeSlice 128 (.int .i64 ((n : Int) + 1)) (.int .i64 ((n : Int) + 1))).run Tryz.prog w = .ok (.slice (some ⟨w.heap.size, 0, none⟩) (n + 1) (n + 1)) (w.alloc (.cells (madeCells #[.int .i64 0] (n + 1)) 3)) := by
  have e : ((n : Int) + 1) = ((n + 1 : Nat) : Int) := by omega
  rw [e]; exact make_ints (n + 1) (by omega) w
theorem make_bools1 (n : Nat) (hn : n ≤ 4000) (w : World) : (Instr.makeSlice 129 (.int .i64 ((n : Int) + 1)) (.int .i64 ((n : Int) + 1))).run Tryz.prog w = .ok (.slice (some ⟨w.heap.size, 0, none⟩) (n + 1) (n + 1)) (w.alloc (.cells (madeCells #[.bool false] (n + 1)) 4)) := by
  have e : ((n : Int) + 1) = ((n + 1 : Nat) : Int) := by omega
  rw [e]; exact make_bools (n + 1) (by omega) w
theorem gensL_set {n k : Nat} (h1 : 1 ≤ k) (hk : k ≤ n) : (gensL n k).set k 1 = gensL n (k + 1) := by
  apply List.ext_getElem?
  intro j
  unfold gensL
  rw [List.getElem?_set, List.getElem?_map, List.getElem?_map]
  by_cases e : k = j
  · subst e
    rw [if_pos rfl, if_pos (by simp; omega), List.getElem?_range (by omega)]
    simp [h1]
  · rw [if_neg e]
    have h : (1 ≤ j ∧ j < k) ↔ (1 ≤ j ∧ j < k + 1) := by omega
    rcases Nat.lt_or_ge j (n + 1) with hj | hj
    · rw [List.getElem?_range hj]
      simp [h]
    · rw [List.getElem?_eq_none (by simpa using hj)]; rfl
theorem gensL_len (n k : Nat) : (gensL n k).length = n + 1 := by simp [gensL]
theorem frL_len (k : Nat) : (frL k).length = k := by simp [frL]
theorem frL_succ (k : Nat) : frL (k + 1) = frL k ++ [(k : Int) + 1] := by simp [frL, List.range_succ]
theorem gensL_one (n : Nat) : gensL n 1 = List.replicate (n + 1) 0 := by
  apply List.ext_getElem (by simp [gensL])
  intro i h1 h2
  simp [gensL]
  omega
theorem at0_frL {n k : Nat} (h : k < n) : at0 (frL n) k = (k : Int) + 1 := by
  refine at0_some ?_
  unfold frL
  rw [List.getElem?_map, List.getElem?_range h]; rfl
theorem newIX_ok {n : Nat} {g : Int} (n1 : 1 ≤ n) (n2 : n ≤ 256) (g1 : 1 ≤ g) (g2 : g ≤ 65535) : (newIX n g).Ok ∧ FreeOk (newIX n g) (frL n) := by
  have hgen : ∀ j, j < n + 1 → (newIX n g).gen j = if 1 ≤ j then 1 else 0 := fun j hj => by
    show (gensL n (n + 1)).getD j 0 = _
    unfold gensL
    rw [List.getD_eq_getElem?_getD, List.getElem?_map, List.getElem?_range hj]
    by_cases h : 1 ≤ j <;> simp [h, hj]
  have hlive : ∀ j, (newIX n g).live j = false := fun j => by
    show (List.replicate (n + 1) false).getD j false = false
    rw [List.getD_eq_getElem?_getD, List.getElem?_replicate]
    split <;> rfl
  have hgl : (newIX n g).gens.length = n + 1 := gensL_len _ _
  have hfree : ∀ j, (newIX n g).freeB j = true ↔ 1 ≤ j ∧ j ≤ n := fun j => by
    unfold IX.freeB
    rw [hgl, hlive]
    constructor
    · intro h
      simp at h
      omega
    · rintro ⟨h1, h2⟩
      rw [hgen j (by omega), if_pos h1]
      show (decide (1 ≤ j) && decide (j < n + 1) && !false && decide ((1 : Int) ≤ g)) = true
      simp [h1, g1]; omega
  refine ⟨⟨by rw [hgl]; show (List.replicate (n + 1) false).length = _; simp, by omega, by omega, g1, g2, fun j j1 j2 => ?_, hlive 0, fun j hj => by rw [hlive] at hj; cases hj⟩, ?_, ?_, fun y => ?_⟩
  · rw [hgl] at j2
    rw [hgen j j2, if_pos j1]
    exact ⟨by omega, by show (1 : Int) ≤ g + 1; omega⟩
  · intro k k1 k2
    rw [frL_len] at k2
    rw [at0_frL (by omega), at0_frL k2]
    omega
  · unfold frL
    rw [List.Nodup, List.pairwise_map]
    exact List.nodup_range.imp fun {a b} h => by omega
  · unfold frL
    rw [List.mem_map]
    constructor
    · rintro ⟨j, hj, rfl⟩
      have := List.mem_range.1 hj
      exact ⟨j + 1, by omega, (hfree _).2 (by omega)⟩
    · rintro ⟨j, rfl, hj⟩
      have := (hfree j).1 hj
      exact ⟨j - 1, List.mem_range.2 (by omega), by omega⟩
/-- Rows that have just been made. -/
theorem ownsRow_new {w : World} {q : Nat} {e : TypeId} {z : Value} {m : Nat} (h : w.heap[q]? = some (.cells (madeCells #[z] m) e (0, 0))) (hm : m ≤ maxLen) : w.ownsRow 0 e 1 (.slice (some ⟨q, 0, none⟩) m m) m (List.replicate m z) := by
  refine ⟨by simp, .inr ⟨q, m, madeCells #[z] m, rfl, Nat.zero_le _, h, Nat.le_refl _, hm, by simp [size_madeCells], ?_⟩⟩
  rw [toList_madeCells_one]
  simp
structure NewS (w : World) (xb n : Nat) (g : Int) (k : Nat) (x : XD) (wr : World) : Prop where
  xb : x.xb = xb
  ix : x.ix = ⟨g, gensL n k, List.replicate (n + 1) false⟩
  fr : x.fr = frL (k - 1)
  mem : XMem wr x
  lo : ∀ b, x.foot b → w.heap.size ≤ b
  bel : Below w.heap.size w wr
theorem NewS.step {w : World} {xb n : Nat} {g : Int} {k k' : Nat} {x x' : XD} {a b : World} (h : NewS w xb n g k x a) (hs : XStep x x' a b) (h1 : x'.ix = ⟨g, gensL n k', List.replicate (n + 1) false⟩) (h2 : x'.fr = frL (k' - 1)) : NewS w xb n g k' x' b :=
  ⟨hs.xb.trans h.xb, h1, h2, hs.mem, fun c hc => (hs.foot c hc).elim (h.lo c) fun hb => Nat.le_trans h.bel.size hb, h.bel.trans (hs.out.below h.lo h.bel.size)⟩
theorem NewS.start {w wx : World} {xb q1 q2 n : Nat} {g : Int} (hb : wx.heap[xb]? = some (.cells #[.int .i64 g, .slice (some ⟨q1, 0, none⟩) (n + 1) (n + 1), .slice (some ⟨q2, 0, none⟩) (n + 1) (n + 1), .slice none 0 0] 132 (0, 0)))
    (h1 : wx.ownsRow 0 3 1 (.slice (some ⟨q1, 0, none⟩) (n + 1) (n + 1)) (n + 1) ((gensL n 1).map (.int .i64))) (h2 : wx.ownsRow 0 4 1 (.slice (some ⟨q2, 0, none⟩) (n + 1) (n + 1)) (n + 1) ((List.replicate (n + 1) false).map .bool))
    (l1 : w.heap.size ≤ q1) (l2 : w.heap.size ≤ q2) (l3 : w.heap.size ≤ xb) (hbel : Below w.heap.size w wx) : NewS w xb n g 1 ⟨xb, ⟨g, gensL n 1, List.replicate (n + 1) false⟩, [], some ⟨q1, 0, none⟩, n + 1, some ⟨q2, 0, none⟩, n + 1, none, 0⟩ wx := by
  have e1 := gensL_len n 1
  have e2 : (List.replicate (n + 1) false).length = n + 1 := by simp
  refine ⟨rfl, rfl, rfl, ⟨?_, ?_, ?_, World.ownsRow_nil _ _ _ _, fun b _ hb => by cases hb⟩, ?_, hbel⟩
  · simp only [e1, e2]; exact hb
  · simp only [e1]; exact h1
  · simp only [e2]; exact h2
  · rintro b (hb | hb | hb | hb)
    · subst hb; exact l3
    · obtain rfl : q1 = b := by simpa [Value.ownBlock] using hb
      exact l1
    · obtain rfl : q2 = b := by simpa [Value.ownBlock] using hb
      exact l2
    · cases hb
theorem new3 (w : World) (a b : Array Value) (ta tb tt : TypeId) (o : Array Value) : (((w.alloc (.cells a ta)).alloc (.cells b tb)).alloc (.cells o tt)).drew.heap[w.heap.size + 1 + 1]? = some (.cells o tt (0, 0)) ∧ (((w.alloc (.cells a ta)).alloc (.cells b tb)).alloc (.cells o tt)).drew.heap[w.heap.size + 1]? = some (.cells b tb (0, 0)) ∧ (((w.alloc (.cells a ta)).alloc (.cells b tb)).alloc (.cells o tt)).drew.heap[w.heap.size]? = some (.cells a ta (0, 0)) := by
  refine ⟨?_, ?_, keepA _ (keepA _ (heap_alloc_new w _))⟩
  · have := heap_alloc_new ((w.alloc (.cells a ta)).alloc (.cells b tb)) (.cells o tt)
    rw [World.size_alloc, World.size_alloc] at this
    exact this
  · have := keepA (.cells o tt) (heap_alloc_new (w.alloc (.cells a ta)) (.cells b tb))
    rw [World.size_alloc] at this
    exact this
theorem bel3 (w : World) (a b o : Obj) : Below w.heap.size w (((w.alloc a).alloc b).alloc o).drew := ((((Below.refl _ w).alloc (Nat.le_refl _) _).alloc (by simp) _).alloc (by simp; omega) _).drew
set_option maxRecDepth 100000 in
set_option maxHeartbeats 2000000 in
theorem xNew_ok (n : Nat) (g : Int) (w : World) (n1 : 1 ≤ n) (n2 : n ≤ 256) (g1 : 1 ≤ g) (g2 : g ≤ 65535) : Calls Tryz.prog 29 #[.int .i64 n, .int .i64 g] w fun e w' => ∃ x, e = .returned (.pointer (some ⟨x.xb, 0, none⟩)) ∧ x.ix = newIX n g ∧ XIn w' x ∧ (∀ b, x.foot b → w.heap.size ≤ b) ∧ Below w.heap.size w w' := by
  obtain ⟨i0, hi, hz0, hz1, hz2⟩ := info_parts Tryz.infoI
  have w1 : IntKind.i64.wrap ((n : Int) + 1) = (n : Int) + 1 := IntWalk.i64_in _ (by omega)
  have hm1 := make_ints1 n (by omega)
  have hm2 := make_bools1 n (by omega)
  have HR1 : Hid (∀ (w : World) (q : Nat), w.heap[q]? = some (.cells (madeCells #[.int .i64 0] (n + 1)) 3 (0, 0)) → w.ownsRow 0 3 1 (.slice (some ⟨q, 0, none⟩) (n + 1) (n + 1)) (n + 1) ((gensL n 1).map (.int .i64))) := Lib.hid fun w q h => by
    rw [gensL_one, List.map_replicate]
    exact ownsRow_new h (by unfold maxLen; omega)
  have HR2 : Hid (∀ (w : World) (q : Nat), w.heap[q]? = some (.cells (madeCells #[.bool false] (n + 1)) 4 (0, 0)) → w.ownsRow 0 4 1 (.slice (some ⟨q, 0, none⟩) (n + 1) (n + 1)) (n + 1) ((List.replicate (n + 1) false).map .bool)) := Lib.hid fun w q h => by
    rw [List.map_replicate]
    exact ownsRow_new h (by unfold maxLen; omega)
  generalize madeCells #[.int .i64 0] (n + 1) = Z1 at *
  generalize madeCells #[.bool false] (n + 1) = Z2 at *
  have HOK := Lib.hid (newIX_ok n1 n2 g1 g2)
  have HGL : Hid ((gensL n 1).length = n + 1) := Lib.hid (gensL_len _ _)
  go_enter Tryz.func29, Tryz.ntmps29
  go_wp2_with fail
  go_upto_region 3 with (fail)
  go_cut [5] (fun s5 wx => ∃ xb x, s5 = .pointer (some ⟨xb, 0, none⟩) ∧ NewS w xb n g 1 x wx)
  case first =>
    go_region
    all_goals
      go_wp2_with fail
      go_meet
      first
        | (obtain ⟨z0, z2, z1⟩ := new3 w Z1 Z2 3 4 132 #[.int .i64 g, .slice (some ⟨w.heap.size, 0, none⟩) (n + 1) (n + 1), .slice (some ⟨w.heap.size + 1, 0, none⟩) (n + 1) (n + 1), .slice none 0 0]
           exact ⟨_, _, rfl, NewS.start (q1 := w.heap.size) (q2 := w.heap.size + 1) z0 (HR1.out _ _ z1) (HR2.out _ _ z2) (Nat.le_refl _) (by omega) (by omega) (bel3 _ _ _ _)⟩)
        | (obtain ⟨z0, z1, z2⟩ := new3 w Z2 Z1 4 3 132 #[.int .i64 g, .slice (some ⟨w.heap.size + 1, 0, none⟩) (n + 1) (n + 1), .slice (some ⟨w.heap.size, 0, none⟩) (n + 1) (n + 1), .slice none 0 0]
           exact ⟨_, _, rfl, NewS.start (q1 := w.heap.size + 1) (q2 := w.heap.size) z0 (HR1.out _ _ z1) (HR2.out _ _ z2) (by omega) (Nat.le_refl _) (by omega) (bel3 _ _ _ _)⟩)
  case rest =>
    obtain ⟨xb, x, rfl, hns⟩ := hcut
    have HNS := Lib.hid hns
    clear hns hm1 hm2 HR1 HR2 w1
    go_wp2_with fail
    go_loopw [6] (fun i wr => ∃ (k : Nat) (x : XD), i = .int .i64 (k : Int) ∧ 1 ≤ k ∧ k ≤ n + 1 ∧ NewS w xb n g k x wr) (fun i _ => n + 1 - (intOf i).toNat)
    case atStart => exact ⟨1, x, rfl, by omega, by omega, HNS.out⟩
    case round =>
      obtain ⟨k, x, rfl, k1, k2, hns⟩ := hrel
      obtain ⟨hxb, hix, hfr, hmem, hlo, hbel⟩ := hns
      by_cases hlt : k ≤ n
      · have g3 : decide ((k : Int) ≤ (n : Int)) = true := by simp; omega
        have hgl : x.ix.gens.length = n + 1 := by rw [hix]; exact gensL_len _ _
        have hfl : x.fr.length = k - 1 := by rw [hfr, frL_len]
        obtain ⟨q, hq, d1, f1⟩ := hmem.grow (k := k) (by omega)
        obtain ⟨_, c1, _, _, _⟩ := hmem.cells
        rw [hq, hgl, hxb] at c1
        have j0 : (0 : Int) ≤ (k : Int) := by omega
        have j1 : (k : Int) < ((n + 1 : Nat) : Int) := by omega
        have hst1 := hmem.gput (k := k) (by omega) 1 hq
        have HST1 := Lib.hid hst1
        obtain ⟨_, _, _, c3, fz⟩ := hst1.mem.cells
        replace c3 : (wr.setCell ⟨q, k, none⟩ (.int .i64 1)).cell? ⟨x.xb, 3, none⟩ = some (.slice x.fa x.fr.length x.fc) := c3
        have f3 := fz 3
        replace f3 : (wr.setCell ⟨q, k, none⟩ (.int .i64 1)).frozen? ⟨x.xb, 3, none⟩ = false := f3
        rw [hxb] at c3 f3
        have HX := Lib.hid (And.intro hxb (And.intro hix (And.intro hfr hfl)))
        have HS0 := Lib.hid (show NewS w xb n g k x wr from ⟨hxb, hix, hfr, hmem, hlo, hbel⟩)
        obtain ⟨m, hm⟩ : ∃ m, x.fr.length = m := ⟨_, rfl⟩
        rw [hm] at c3
        have hmk : m ≤ 256 := by omega
        have hown := hst1.mem.freeR
        have hown : ((wr.setCell ⟨q, k, none⟩ (.int .i64 1)).alloc (.cells #[.int .i64 k] 3)).ownsRow 0 3 1 (.slice x.fa m x.fc) m (x.fr.map (.int .i64)) := by
          rw [← hm]; exact hst1.mem.freeR.alloc _
        have hfb := hst1.mem.fb
        have hkb := hst1.mem.blk
        have HAPP : Hid (∀ (w6 : World) (gq cap : Nat), ((wr.setCell ⟨q, k, none⟩ (.int .i64 1)).alloc (.cells #[.int .i64 k] 3)).grownBy w6 (Value.slice x.fa m x.fc).ownBlock → w6.ownsRow 0 3 1 (.slice (some ⟨gq, 0, none⟩) (m + 1) cap) (m + 1) (x.fr.map (.int .i64) ++ [.int .i64 k]) → ((Value.slice x.fa m x.fc).ownBlock = some gq ∨ gq = (wr.setCell ⟨q, k, none⟩ (.int .i64 1)).heap.size + 1) →
            (∃ x', NewS w xb n g (k + 1) x' (w6.setCell ⟨xb, 3, none⟩ (.slice (some ⟨gq, 0, none⟩) (m + 1) cap))) ∧ w6.cell? ⟨xb, 3, none⟩ = some (.slice x.fa m x.fc) ∧ w6.frozen? ⟨xb, 3, none⟩ = false) := Lib.hid fun w6 gq cap hg ho ha => by
          have hg' : ((wr.setCell ⟨q, k, none⟩ (.int .i64 1)).alloc (.cells #[.int .i64 k] 3)).drew.grownBy w6 (Value.slice x.fa m x.fc).ownBlock := ⟨hg.os, hg.tape, hg.output, hg.size, hg.block⟩
          rw [← hm] at hg' ho ha
          have hap := hst1.mem.fapp (w6 := w6) (o := .cells #[.int .i64 k] 3) (q := gq) (cap := cap) (y := (k : Int)) hg' ho ha
          have hst2 := hst1.trans hap
          have hb6 := keepG hg (show ((wr.setCell ⟨q, k, none⟩ (.int .i64 1)).alloc (.cells #[.int .i64 k] 3)).heap[xb]? = _ from keepA _ (hxb ▸ hkb)) (fun e => hfb xb (by rw [← hm] at e; exact e.symm) hxb.symm)
          refine ⟨⟨_, HS0.out.step (k' := k + 1) (by rw [← hm, ← hxb]; exact hst2) ?_ ?_⟩, by rw [cell_at hb6, ← hm]; rfl, free_at hb6 3⟩
          · show IX.withGen x.ix k 1 = _
            rw [hix]
            show (⟨g, (gensL n k).set k 1, List.replicate (n + 1) false⟩ : IX) = _
            rw [gensL_set k1 hlt]
          · show x.fr ++ [(k : Int)] = frL (k + 1 - 1)
            rw [hfr, show k + 1 - 1 = (k - 1) + 1 by omega, frL_succ]
            congr 2
            omega
        have hsz : (wr.setCell ⟨q, k, none⟩ (.int .i64 1)).heap.size = wr.heap.size := by simp [World.setCell]
        have hc1 := cell_one_new (wr.setCell ⟨q, k, none⟩ (.int .i64 1)) (.int .i64 k) 3
        rw [hsz] at hc1
        have HC1 := Lib.hid hc1
        have HSZ := Lib.hid hsz
        have HOWN := Lib.hid hown
        clear hc1 hsz fz hq hgl hst1 hxb hix hfr hmem hlo hbel hfl hm hown hfb hkb
        go_wp2_with (at_builtin; refine wpList_append_lies _ rfl (.tmp 45) (.tmp 47) 130 rfl 0 3 i0 (.int .i64 0) 1 8 Tryz.underlying130 hi hz0 hz1 hz2 rfl (by decide) (.slice x.fa m x.fc) m (x.fr.map (.int .i64)) rfl HOWN.out ⟨wr.heap.size, 0, none⟩ 1 1 [.int .i64 k] rfl rfl HC1.out (ints_oneCell .i64 [(k : Int)]) (by decide) (by unfold maxLen; omega) (by omega) (by simp) (wr.heap.size + 1) (by simp) ?_)
        intro gq vc w6 hown6 hg6 hat6 _
        obtain ⟨⟨x', hx'⟩, t3, tf3⟩ := HAPP.out _ _ _ hg6 hown6 (by rw [HSZ.out]; exact hat6)
        have HX' := Lib.hid hx'
        clear hx' hown6 hg6 hat6 c1 c3 d1 f1 f3
        go_wp2_with fail
        go_roundw
        case rel => exact ⟨k + 1, x', by go_num, by omega, by omega, HX'.out⟩
        case measure => simp [intOf]; omega
      · obtain rfl : k = n + 1 := by omega
        have g3 : decide (((n + 1 : Nat) : Int) ≤ (n : Int)) = false := by simp; omega
        have HF := Lib.hid (show ∃ x : XD, x.xb = xb ∧ x.ix = newIX n g ∧ XIn wr x ∧ (∀ b, x.foot b → w.heap.size ≤ b) ∧ Below w.heap.size w wr from ⟨x, hxb, hix, ⟨hmem, by rw [hix]; exact HOK.out.1, by rw [hix, hfr]; exact HOK.out.2⟩, hlo, hbel⟩)
        clear hxb hix hfr hmem hlo hbel
        go_wp2_with fail
        go_returns
        obtain ⟨x, h1, h2⟩ := HF.out
        exact ⟨x, by rw [h1]; rfl, h2⟩
end Go.Proofs.YthmpknlgkflhiabGreat
namespace Go.Proofs.YthmpknlgkflhiabGreat
open Go.RowKit
set_option linter.unusedVariables false
theorem clone_then {P : Program} {f : FuncId} {args : Array Value} {w W : World} {e : TypeId} {xs : List Value} {n : Nat} (h : Calls P f args W (IsCopyOf e xs n W)) (hb : Below w.heap.size w W) :
  Calls P f args W fun en w' => ∃ va vc, en = .returned (.slice va n vc) ∧ w'.ownsRow w.heap.size e 1 (.slice va n vc) n xs ∧ Below W.heap.size W w' ∧ Below w.heap.size w w' ∧ ∀ b, (Value.slice va n vc).ownBlock = some b → W.heap.size ≤ b :=
 h.mono fun en w' ⟨va, vc, he, ho, hbb⟩ => ⟨va, vc, he, ownsRow_mono ho hb.size, hbb, hb.trans (hbb.mono hb.size), fun b hb => (ho.lt b hb).1⟩
theorem XIn.mk4 {w wl : World} {x : XD} (h : XIn w x) {ga la fa : Option Addr} {gc lc fc : Nat} (hb : Below w.heap.size w wl) (h1 : wl.ownsRow w.heap.size 3 1 (.slice ga x.ix.gens.length gc) x.ix.gens.length (x.ix.gens.map (.int .i64))) (h2 : wl.ownsRow w.heap.size 4 1 (.slice la x.ix.lives.length lc) x.ix.lives.length (x.ix.lives.map .bool)) (h3 : wl.ownsRow w.heap.size 3 1 (.slice fa x.fr.length fc) x.fr.length (x.fr.map (.int .i64)))
  (hne : ∀ b, (Value.slice ga x.ix.gens.length gc).ownBlock = some b → (Value.slice fa x.fr.length fc).ownBlock ≠ some b) :
  XIn (wl.alloc (.cells #[.int .i64 x.ix.most, .slice ga x.ix.gens.length gc, .slice la x.ix.lives.length lc, .slice fa x.fr.length fc] 132)) ⟨wl.heap.size, x.ix, x.fr, ga, gc, la, lc, fa, fc⟩ ∧
   (∀ b, XD.foot ⟨wl.heap.size, x.ix, x.fr, ga, gc, la, lc, fa, fc⟩ b → w.heap.size ≤ b) ∧ Below w.heap.size w (wl.alloc (.cells #[.int .i64 x.ix.most, .slice ga x.ix.gens.length gc, .slice la x.ix.lives.length lc, .slice fa x.fr.length fc] 132)) := by
 refine ⟨⟨⟨heap_alloc_new _ _, ownsRow_mono (h1.alloc _) (Nat.zero_le _), ownsRow_mono (h2.alloc _) (Nat.zero_le _), ownsRow_mono (h3.alloc _) (Nat.zero_le _), hne⟩, h.ok, h.free⟩, ?_, hb.alloc hb.size _⟩
 rintro b (hb' | hb' | hb' | hb')
 ·subst hb'; exact hb.size
 ·exact (h1.lt b hb').1
 ·exact (h2.lt b hb').1
 ·exact (h3.lt b hb').1
def IsXClone (x : XD) (w : World) (e : Ending) (w' : World) : Prop := ∃ x', e = .returned (.pointer (some ⟨x'.xb, 0, none⟩)) ∧ x'.ix = x.ix ∧ XIn w' x' ∧ (∀ b, x'.foot b → w.heap.size ≤ b) ∧ Below w.heap.size w w'
theorem XIn.cells4 {w : World} {x : XD} (h : XIn w x) : w.cell? ⟨x.xb, 0, none⟩ = some (.int .i64 x.ix.most) ∧ w.cell? ⟨x.xb, 1, none⟩ = some (.slice x.ga x.ix.gens.length x.gc) ∧ w.cell? ⟨x.xb, 2, none⟩ = some (.slice x.la x.ix.lives.length x.lc) ∧ w.cell? ⟨x.xb, 3, none⟩ = some (.slice x.fa x.fr.length x.fc) := by
 obtain ⟨c0, c1, c2, c3, _⟩ := h.cells
 exact ⟨c0, c1, c2, c3⟩
set_option maxRecDepth 100000 in
set_option maxHeartbeats 4000000 in
theorem xClone_any (x : XD) (w : World) (h : XIn w x) : Calls Tryz.prog 61 #[.pointer (some ⟨x.xb, 0, none⟩)] w (IsXClone x w) := by
 have hn2 := h.ok.n2
 have hlen := h.ok.len
 have hfl := h.free.len h.ok
 obtain ⟨c0, c1, c2, c3, _⟩ := h.cells
 have HC1 : Hid (∀ W, Below w.heap.size w W → _) := Lib.hid fun W hb => clone_then (cloneInts_any 0 x.ga x.gc x.ix.gens W (h.below hb).gensR (by omega)) hb
 have HC2 : Hid (∀ W, Below w.heap.size w W → _) := Lib.hid fun W hb => clone_then (cloneBools_any 0 x.la x.lc x.ix.lives W (h.below hb).livesR (by omega)) hb
 have HC3 : Hid (∀ W, Below w.heap.size w W → _) := Lib.hid fun W hb => clone_then (cloneQueue_any 0 x.fa x.fc x.fr W (h.below hb).freeR (by omega)) hb
 have H := Lib.hid h
 clear h hlen hfl hn2
 go_enter Tryz.func61, Tryz.ntmps61
 go_wp2_with fail
 go_region_held3 (fun w' => w'.cell? ⟨x.xb, 0, none⟩ = some (.int .i64 x.ix.most) ∧ w'.cell? ⟨x.xb, 1, none⟩ = some (.slice x.ga x.ix.gens.length x.gc) ∧ w'.cell? ⟨x.xb, 2, none⟩ = some (.slice x.la x.ix.lives.length x.lc) ∧ w'.cell? ⟨x.xb, 3, none⟩ = some (.slice x.fa x.fr.length x.fc))
  (first | go_keep | exact (H.out.below hBa).cells4 | exact (H.out.below hBb).cells4 | exact (H.out.below hBc).cells4)
  (first | (go_at_call 101; refine (HC1.out _ (by first | exact (Below.refl _ _).drew | exact hBb | exact hBc)).mono ?_; rintro e wa ⟨va, vca, rfl, hoa, hba, hBa, hla⟩) | (go_at_call 102; refine (HC2.out _ (by first | exact (Below.refl _ _).drew | exact hBa | exact hBc)).mono ?_; rintro e wb ⟨vb, vcb, rfl, hob, hbb, hBb, hlb⟩) | (go_at_call 103; refine (HC3.out _ (by first | exact (Below.refl _ _).drew | exact hBa | exact hBb)).mono ?_; rintro e wc ⟨vc, vcc, rfl, hoc, hbc, hBc, hlc⟩))
 all_goals
  have hfin := H.out.mk4 hBc (ownsRow_below (ownsRow_below hoa hbb) hbc) (ownsRow_below hob hbc) hoc (fun b hb hb' => by
   have k1 := (hoa.lt b hb).2
   have k2 := hlc b hb'
   have k3 := hbb.size
   omega)
  have HF := Lib.hid hfin
  clear hfin
  go_wp2_with fail
  go_returns
  exact ⟨⟨wc.heap.size, x.ix, x.fr, va, vca, vb, vcb, vc, vcc⟩, rfl, rfl, HF.out.1, HF.out.2.1, HF.out.2.2⟩
end Go.Proofs.YthmpknlgkflhiabGreat
namespace Go.Proofs.YthmpknlgkflhiabGreat
open Go.RowKit
set_option linter.unusedVariables false
section
variable {w w' : World} {d : WD} {L : List Int} {N n : Nat}
theorem WRaw.cells (h : WRaw w d n) : w.cell? ⟨d.wb, 6, none⟩ = some (.pointer (some ⟨d.x.xb, 0, none⟩)) ∧ w.cell? ⟨d.wb, 7, none⟩ = some (.pointer (some ⟨d.gb, 0, none⟩)) ∧ w.cell? ⟨d.wb, 8, none⟩ = some (.map (some d.ab)) := by
 have c0 := cell_at h.blk 6
 have c1 := cell_at h.blk 7
 have c2 := cell_at h.blk 8
 simp at c0 c1 c2
 exact ⟨c0, c1, c2⟩
theorem field_pl0 (a b : Int) (w : World) : (Instr.field 102 (.agg #[.int .i64 a, .int .i64 b]) 0).run Tryz.prog w = .ok (.int .i64 a) w := by kernel_rfl
theorem field_pl1 (a b : Int) (w : World) : (Instr.field 102 (.agg #[.int .i64 a, .int .i64 b]) 1).run Tryz.prog w = .ok (.int .i64 b) w := by kernel_rfl
theorem wLives_any (h : WIn w d N) (e : Int) (h0 : 0 ≤ e) (h1 : e < 18446744073709551616) : Calls Tryz.prog 43 #[.pointer (some ⟨d.wb, 0, none⟩), .int .u64 e] w fun en w' => en = .returned (.int .i64 (d.S.deadE e)) ∧ Below w.heap.size w w' := by
 obtain ⟨c6, _, _⟩ := h.raw.cells
 have ha := xAlive_any d.x w h.raw.ix e h0 h1
 have HA := Lib.hid ha
 have hE : d.S.deadE e = if d.x.ix.alive e then 0 else 11 := rfl
 cases hl : d.x.ix.alive e
 ·rw [hl] at hE
  rw [hE]
  rw [hl] at ha
  have HC := Lib.hid ha
  clear ha h HA hE hl
  go_enter Tryz.func43, Tryz.ntmps43
  go_wp2_with fail
  refine HC.out.mono ?_
  rintro en w1 ⟨rfl, hb⟩
  go_wp2_with fail
  go_returns
  exact ⟨rfl, hb⟩
 ·rw [hl] at hE
  rw [hE]
  rw [hl] at ha
  have HC := Lib.hid ha
  clear ha h HA hE hl
  go_enter Tryz.func43, Tryz.ntmps43
  go_wp2_with fail
  refine HC.out.mono ?_
  rintro en w1 ⟨rfl, hb⟩
  go_wp2_with fail
  go_returns
  exact ⟨rfl, hb⟩
set_option maxRecDepth 100000 in
theorem wAwaited_any (h : WRaw w d n) (e : Int) (h0 : 0 ≤ e) (h1 : e < 18446744073709551616) {p : Pl} (hp : d.pl e = some p) : Calls Tryz.prog 47 #[.pointer (some ⟨d.wb, 0, none⟩), .int .u64 e] w fun en w' => en = .returned (.bool p.row.isNone) ∧ w = w' := by
 obtain ⟨_, _, c8⟩ := h.cells
 have hl := h.atm.look h0 h1
 have hv : atV d.pl e = plV p := by unfold atV; rw [hp]
 rw [hv] at hl
 unfold plV at hl
 have hfd := field_pl1
 cases hr : p.row with
 | none =>
  have hri : p.rowI = -1 := by unfold Pl.rowI; rw [hr]
  rw [hri] at hl
  clear h hp hv hr hri
  go_enter Tryz.func47, Tryz.ntmps47
  go_wp2_with fail
  go_returns
  exact ⟨rfl, rfl⟩
 | some r =>
  have hri : p.rowI = (r : Int) := by unfold Pl.rowI; rw [hr]
  rw [hri] at hl
  have hn : decide ((r : Int) < 0) = false := by simp
  clear h hp hv hr hri
  go_enter Tryz.func47, Tryz.ntmps47
  go_wp2_with fail
  go_returns
  exact ⟨rfl, rfl⟩
theorem WIn.place (h : WIn w d N) {e : Int} (he : e ∈ d.x.ix.liveL) : ∃ p t v, d.pl e = some p ∧ d.T[p.tab]? = some t ∧ d.V[p.tab]? = some v ∧ Vals t v := WMid.at h he
theorem WIn.bd (h : WIn w d N) {e : Int} (he : e ∈ d.x.ix.liveL) : 0 ≤ e ∧ e < 18446744073709551616 := by
 have := h.raw.ix.ok.live_bd he
 omega
theorem WIn.dead0 (h : WIn w d N) {e : Int} (he : e ∉ d.x.ix.liveL) (h0 : 0 ≤ e) : d.S.deadE e = 11 := by
 have hh : d.x.ix.alive e = false := by
  cases ha : d.x.ix.alive e with
  | false => rfl
  | true => exact absurd ((alive_in h h0).1 ha) he
 show (if d.x.ix.alive e then (0 : Int) else 11) = 11
 rw [hh]; rfl
theorem WIn.live0 (h : WIn w d N) {e : Int} (he : e ∈ d.x.ix.liveL) : d.S.deadE e = 0 := by
 have hh := (alive_in h (h.bd he).1).2 he
 show (if d.x.ix.alive e then (0 : Int) else 11) = 0
 rw [hh]; rfl
set_option maxRecDepth 100000 in
theorem wRow_no (h : WIn w d N) (e : Int) (h0 : 0 ≤ e) (h1 : e < 18446744073709551616) (he : e ∉ d.x.ix.liveL) : Calls Tryz.prog 32 #[.pointer (some ⟨d.wb, 0, none⟩), .int .u64 e] w fun en w' => en = .returned (.tuple #[.pointer none, .int .i64 0, .int .i64 11]) ∧ Below w.heap.size w w' := by
 have hc := wLives_any h e h0 h1
 rw [h.dead0 he h0] at hc
 have HC := Lib.hid hc
 clear h hc he
 go_enter Tryz.func32, Tryz.ntmps32
 go_wp2_with fail
 refine HC.out.mono ?_
 rintro en w1 ⟨rfl, hb⟩
 go_wp2_with fail
 go_returns
 exact ⟨rfl, hb⟩
set_option maxRecDepth 100000 in
theorem wRow_wait (h : WIn w d N) (e : Int) (he : e ∈ d.x.ix.liveL) {i : Nat} (hp : d.pl e = some ⟨i, none⟩) : Calls Tryz.prog 32 #[.pointer (some ⟨d.wb, 0, none⟩), .int .u64 e] w fun en w' => en = .returned (.tuple #[.pointer none, .int .i64 0, .int .i64 7]) ∧ Below w.heap.size w w' := by
 obtain ⟨h0, h1⟩ := h.bd he
 have hc := wLives_any h e h0 h1
 rw [h.live0 he] at hc
 have HC := Lib.hid hc
 have HW := Lib.hid (fun (W : World) (hb : Below w.heap.size w W) => wAwaited_any (h.below hb).raw e h0 h1 hp)
 clear h hc he hp
 go_enter Tryz.func32, Tryz.ntmps32
 go_wp2_with fail
 refine HC.out.mono ?_
 rintro en w1 ⟨rfl, hb⟩
 go_wp2_with fail
 refine (HW.out _ hb).mono ?_
 rintro en w2 ⟨rfl, rfl⟩
 go_wp2_with fail
 go_returns
 exact ⟨rfl, hb⟩
set_option maxRecDepth 100000 in
set_option maxHeartbeats 2000000 in
theorem wRow_ok (h : WIn w d N) (e : Int) (he : e ∈ d.x.ix.liveL) {i r : Nat} (hp : d.pl e = some ⟨i, some r⟩) {t : TD} (ht : d.T[i]? = some t) : Calls Tryz.prog 32 #[.pointer (some ⟨d.wb, 0, none⟩), .int .u64 e] w fun en w' => en = .returned (.tuple #[.pointer (some ⟨t.tb, 0, none⟩), .int .i64 (r : Int), .int .i64 0]) ∧ Below w.heap.size w w' := by
 obtain ⟨h0, h1⟩ := h.bd he
 have hc := wLives_any h e h0 h1
 rw [h.live0 he] at hc
 have HC := Lib.hid hc
 have HW := Lib.hid (fun (W : World) (hb : Below w.heap.size w W) => wAwaited_any (h.below hb).raw e h0 h1 hp)
 have H := Lib.hid h
 have HP := Lib.hid hp
 have HT := Lib.hid (WMid.ptr h ht)
 clear h hc he hp ht
 go_enter Tryz.func32, Tryz.ntmps32
 go_wp2_with fail
 refine HC.out.mono ?_
 rintro en w1 ⟨rfl, hb⟩
 go_wp2_with fail
 refine (HW.out _ hb).mono ?_
 rintro en w2 ⟨rfl, rfl⟩
 have h2 := H.out.below hb
 obtain ⟨_, c7, c8⟩ := h2.raw.cells
 have hl := h2.raw.atm.look h0 h1
 have hv : atV d.pl e = plV ⟨i, some r⟩ := by unfold atV; rw [HP.out]
 rw [hv] at hl
 rw [show plV ⟨i, some r⟩ = .agg #[.int .i64 (i : Int), .int .i64 (r : Int)] from rfl] at hl
 have htab := fun (W : World) (hb' : Below w1.heap.size w1 W) => table_any 0 d.gb d.g (i : Int) W (h2.below hb').raw.gr
 rw [HT.out] at htab
 have HTAB := Lib.hid htab
 have HB := Lib.hid (h2.raw.blk)
 clear h2 hv htab
 go_wp2_with fail
 have hbA : Below w1.heap.size w1 (w1.alloc (.cells #[.int .i64 (i : Int), .int .i64 (r : Int)] 102)) := (Below.refl _ _).alloc (Nat.le_refl _) _
 have c7A : (w1.alloc (.cells #[.int .i64 (i : Int), .int .i64 (r : Int)] 102)).cell? ⟨d.wb, 7, none⟩ = some (.pointer (some ⟨d.gb, 0, none⟩)) := by rw [cell_at (keepA _ HB.out)]; rfl
 have p0 : (w1.alloc (.cells #[.int .i64 (i : Int), .int .i64 (r : Int)] 102)).cell? ⟨w1.heap.size, 0, none⟩ = some (.int .i64 (i : Int)) := by rw [cell_at (heap_alloc_new w1 _)]; rfl
 have p1 : (w1.alloc (.cells #[.int .i64 (i : Int), .int .i64 (r : Int)] 102)).cell? ⟨w1.heap.size, 1, none⟩ = some (.int .i64 (r : Int)) := by rw [cell_at (heap_alloc_new w1 _)]; rfl
 generalize w1.alloc (.cells #[.int .i64 (i : Int), .int .i64 (r : Int)] 102) = W at hbA c7A p0 p1 ⊢
 have HBA := Lib.hid hbA
 have HBW := Lib.hid hb
 clear c7 c8 hl hbA hb
 go_quiet ((go_at_call 41; exact quiet_sm (HTAB.out _ (below_drewN HBA.out _))))
 go_wp2_with fail
 go_returns
 exact ⟨rfl, below_drewN (HBW.out.trans (HBA.out.mono HBW.out.size)) _⟩
set_option maxRecDepth 100000 in
set_option maxHeartbeats 2000000 in
theorem wSig_ok (h : WIn w d N) (e : Int) (he : e ∈ d.x.ix.liveL) {p : Pl} (hp : d.pl e = some p) {t : TD} (ht : d.T[p.tab]? = some t) : Calls Tryz.prog 24 #[.pointer (some ⟨d.wb, 0, none⟩), .int .u64 e] w fun en w' => en = .returned (.tuple #[.int .u32 t.set, .int .i64 0]) ∧ Below w.heap.size w w' := by
 obtain ⟨h0, h1⟩ := h.bd he
 have hc := wLives_any h e h0 h1
 rw [h.live0 he] at hc
 have HC := Lib.hid hc
 have H := Lib.hid h
 have HP := Lib.hid hp
 have HT := Lib.hid (WMid.ptr h ht)
 have HTM := Lib.hid ht
 clear h hc he hp ht
 go_enter Tryz.func24, Tryz.ntmps24
 go_wp2_with fail
 refine HC.out.mono ?_
 rintro en w1 ⟨rfl, hb⟩
 have h2 := H.out.below hb
 obtain ⟨_, c7, c8⟩ := h2.raw.cells
 have HL := Lib.hid (fun (m : Nat) => (h2.raw.atm.out (F := fun _ => False) (Out.of (below_drewN (Below.refl _ w1) m)) id).look h0 h1)
 have hv : atV d.pl e = plV p := by unfold atV; rw [HP.out]
 have hl := fun m => HL.out m
 rw [hv] at hl
 unfold plV at hl
 have hfd := field_pl0
 have htab := fun m => table_any 0 d.gb d.g (p.tab : Int) (w1.drewN m) (h2.below (below_drewN (Below.refl _ _) m)).raw.gr
 rw [HT.out] at htab
 have HTAB := Lib.hid htab
 have HSIG := Lib.hid (fun m => tabSig_in (WMid.tab (h2.below (below_drewN (Below.refl _ _) m)) HTM.out))
 obtain ⟨z, hz⟩ : ∃ z : Int, p.rowI = z := ⟨_, rfl⟩
 rw [hz] at hl
 have hl0 := hl 0
 have HBW := Lib.hid hb
 clear h2 hv htab hz hb
 go_wp2_with fail
 go_quiet ((first | (go_at_call 41; exact quiet_sm (HTAB.out _)) | (go_at_call 50; exact quiet_sm (HSIG.out _))))
 go_wp2_with fail
 go_returns
 exact ⟨rfl, below_drewN HBW.out _⟩
end
end Go.Proofs.YthmpknlgkflhiabGreat
