/- slices.DeleteFunc with Remove's closure, where one part goes. · slices.DeleteFunc with Remove's closure: the walk. · A world's Remove. · A world's Remove: what it does. · world.CheckCaps. -/
import Derived.Test.YthmpknlgkflhiabGreatQ40
import Derived.Laws.OwnMore
import Derived.Laws.IdiomCopy
namespace Go.Proofs.YthmpknlgkflhiabGreat
open Go.RowKit
set_option linter.unusedVariables false
theorem Tryz.zeroPart (w : World) : (zeroValue 48).run Tryz.prog w = .ok (.agg #[.int .i64 0, .slice none 0 0]) w := by kernel_rfl
theorem flatP_len (l : List PW) : (l.flatMap partL).length = l.length * 2 := by
  induction l with
  | nil => rfl
  | cons x r ih => rw [List.flatMap_cons, List.length_append, ih, List.length_cons]; show 2 + r.length * 2 = _; omega
theorem flatP_set : ∀ (l : List PW) (i : Nat) (x : PW), ((l.flatMap partL).set (i * 2) (.int .i64 x.comp)).set (i * 2 + 1) (.slice x.va x.vl x.vc) = (l.set i x).flatMap partL
  | [], i, x => rfl
  | y :: r, 0, x => rfl
  | y :: r, i + 1, x => by
    have hh := flatP_set r i x
    rw [show (i + 1) * 2 = i * 2 + 1 + 1 by omega, List.flatMap_cons, List.set_cons_succ, List.flatMap_cons, ← hh]
    rfl
theorem flatP_take (l : List PW) (m : Nat) : (l.flatMap partL).take (m * 2) = (l.take m).flatMap partL := by
  induction l generalizing m with
  | nil => simp
  | cons x r ih =>
    cases m with
    | zero => simp
    | succ m =>
      rw [show (m + 1) * 2 = m * 2 + 1 + 1 by omega, List.flatMap_cons, List.take_succ_cons, List.flatMap_cons, ← ih m]
      rfl
/-- The parts behind m moves: part k is gone. -/
def movedP (ps : List PW) (k m : Nat) : List PW := (ps.eraseIdx k).take m ++ ps.drop m
theorem movedP_at {ps : List PW} {k : Nat} (hk : k < ps.length) : movedP ps k k = ps := by
  unfold movedP
  rw [List.eraseIdx_eq_take_drop_succ, List.take_append_of_le_length (by rw [List.length_take]; omega), List.take_take, Nat.min_self, List.take_append_drop]
theorem movedP_step {ps : List PW} {k m : Nat} {x : PW} (hkm : k ≤ m) (hx : ps[m + 1]? = some x) : (movedP ps k m).set m x = movedP ps k (m + 1) ∧ (movedP ps k m)[m + 1]? = some x := by
  have hl := (List.getElem?_eq_some_iff.1 hx).1
  have hE : (ps.eraseIdx k)[m]? = some x := by rw [List.getElem?_eraseIdx, if_neg (by omega)]; exact hx
  have hEl := (List.getElem?_eq_some_iff.1 hE).1
  have htl : ((ps.eraseIdx k).take m).length = m := by rw [List.length_take]; omega
  have hd : ps.drop m = ps[m] :: ps.drop (m + 1) := List.drop_eq_getElem_cons (by omega)
  unfold movedP
  constructor
  · rw [List.set_append_right _ _ (by omega), htl, Nat.sub_self, hd, List.set_cons_zero, take_snoc hE, List.append_assoc]
    rfl
  · rw [List.getElem?_append_right (by omega), htl, List.getElem?_drop, show m + (m + 1 - m) = m + 1 by omega]
    exact hx
theorem movedP_end {ps : List PW} {k m : Nat} (hk : k < ps.length) (hm : ps.length = m + 1) (z : PW) : ((movedP ps k m).set m z).take m = ps.eraseIdx k := by
  have htl : ((ps.eraseIdx k).take m).length = m := by rw [List.length_take, List.length_eraseIdx]; split <;> omega
  unfold movedP
  rw [List.set_append_right _ _ (by omega), List.take_append_of_le_length (by omega), List.take_take, Nat.min_self, List.take_of_length_le (by rw [List.length_eraseIdx]; split <;> omega)]
section
variable {w w' : World}
theorem ownsRow_cut {b s : Nat} {e : TypeId} {q n c m : Nat} {xs : List Value} (h : w.ownsRow b e s (.slice (some ⟨q, 0, none⟩) n c) n xs) (hm : m ≤ n) : w.ownsRow b e s (.slice (some ⟨q, 0, none⟩) m c) m (xs.take (m * s)) := by
  have hmn : m * s ≤ n * s := Nat.mul_le_mul_right s hm
  refine ⟨by rw [List.length_take, h.1]; omega, ?_⟩
  rcases h.2 with ⟨hv, _⟩ | ⟨g, cap, cur, hv, hg, hh, hc1, hc2, hc3, hc4⟩
  · cases hv
  · cases hv
    exact .inr ⟨q, c, cur, rfl, hg, hh, by omega, hc2, hc3, by rw [← hc4, List.take_take, Nat.min_eq_left hmn]⟩
theorem run_clearPart (q o c : Nat) (W : World) (h0 : (W.cell? ⟨q, o, none⟩).isSome = true) (h1 : (W.cell? ⟨q, o + 1, none⟩).isSome = true) (f0 : W.frozen? ⟨q, o, none⟩ = false) (f1 : W.frozen? ⟨q, o + 1, none⟩ = false) (ty : TypeId) :
    (Builtin.clear_ #[35] ty #[.slice (some ⟨q, o, none⟩) 1 c]).run Tryz.prog W = .ok (.tuple #[]) ((W.setCell ⟨q, o, none⟩ (.int .i64 0)).setCell ⟨q, o + 1, none⟩ (.slice none 0 0)) := by
  have hst := run_storeCells_cells (P := Tryz.prog) q o [.int .i64 0, .slice none 0 0] 0 W
    (by intro j hj; have hj : j < 2 := hj; rcases Nat.lt_or_ge j 1 with h | h
        · obtain rfl : j = 0 := by omega
          exact h0
        · obtain rfl : j = 1 := by omega
          exact h1)
    (by intro j hj; have hj : j < 2 := hj; rcases Nat.lt_or_ge j 1 with h | h
        · obtain rfl : j = 0 := by omega
          exact f0
        · obtain rfl : j = 1 := by omega
          exact f1)
    (by intro v hv; simp at hv; rcases hv with rfl | rfl <;> rfl)
  have hz : (Builtin.zeroCells (Value.agg #[.int .i64 0, .slice none 0 0]).cells 1).toList = [.int .i64 0, .slice none 0 0] := by kernel_rfl
  simp only [Nat.add_zero] at hst
  simp [Builtin.clear_, run_underlying Tryz.underlying35, Tryz.zeroPart W, hz, hst, World.setCells]
end
end Go.Proofs.YthmpknlgkflhiabGreat
namespace Go.Proofs.YthmpknlgkflhiabGreat
open Go.RowKit
set_option linter.unusedVariables false
section
variable {w w' : World}
theorem outOne {q : Nat} (hg : w.grownBy w' (some q)) : Out (fun b => b = q) w w' := ⟨hg.os, hg.tape, hg.output, hg.size, fun k hk hn => hg.block k hk (fun e => hn (by cases e; rfl))⟩
set_option maxRecDepth 100000 in
set_option maxHeartbeats 4000000 in
theorem delFunc_any (B b : Nat) (c : Int) (pa : Option Addr) (n pc : Nat) (ps : List PW) (w : World) (hpo : PO B w pa n pc ps) (hbB : b < B) (hB : B ≤ w.heap.size) (hb : w.cell? ⟨b, 0, none⟩ = some (.int .i64 c)) (k : Nat) (p : PW) (hk : ps[k]? = some p) (hp : p.comp = c) (hf : ∀ (j : Nat) (q : PW), j ≠ k → ps[j]? = some q → q.comp ≠ c) :
  Calls Tryz.prog 51 #[.slice pa n pc, rmClo b] w fun e w' => e = .returned (.slice pa (n - 1) pc) ∧ PO B w' pa (n - 1) pc (ps.eraseIdx k) ∧ Below B w w' := by
 have hlen := hpo.len
 have hkl : k < n := by rw [← hlen]; exact (List.getElem?_eq_some_iff.1 hk).1
 obtain ⟨hnc, hcm⟩ := own_max hpo.row
 have hmx : maxLen = 9223372036854775807 := rfl
 obtain ⟨q, rfl, hBq, hql, _⟩ := row_block hpo.row (by omega)
 have HIX := Lib.hid (idxFunc_any b c _ n pc ps w hpo.at hb k p hk hp (fun j x hj => hf j x (by omega)))
 have HPO := Lib.hid hpo
 have HB := Lib.hid hb
 have HF := Lib.hid hf
 have HLN := Lib.hid hlen
 have HCLR := Lib.hid run_clearPart
 clear hpo hb hk hf hp hlen
 unfold rmClo at HIX ⊢
 obtain ⟨n1, hn1⟩ : ∃ n1, n = n1 + 1 := ⟨n - 1, by omega⟩
 rw [show n - 1 = n1 by omega]
 have HN1 := Lib.hid hn1
 clear hn1
 go_enter Tryz.func51, Tryz.ntmps51
 go_wp2_with fail
 refine HIX.out.mono ?_
 rintro e w1 ⟨rfl, hb1⟩
 have HB1 := Lib.hid (hb1.mono hB)
 have HB1x := Lib.hid hb1
 have HR1 := Lib.hid ((HPO.out.below hb1).row)
 have hk1 : (k : Int) ≠ -1 := by omega
 clear hb1
 go_wp2_with fail
 go_loopw [5, 6] (fun i j wr => ∃ m J : Nat, J = m + 1 ∧ k ≤ m ∧ m < n ∧ i = .int .i64 (m : Int) ∧ j = .int .i64 (J : Int) ∧ wr.ownsRow B 48 2 (.slice (some ⟨q, 0, none⟩) n pc) n ((movedP ps k m).flatMap partL) ∧ Out (fun x => x = q) w wr) (fun _ j _ => n + 1 - (intOf j).toNat)
 case atStart => exact ⟨k, k + 1, rfl, Nat.le_refl _, hkl, by go_num, by go_num, by rw [movedP_at (by rw [HLN.out]; exact hkl)]; exact HR1.out, Out.of HB1x.out⟩
 case round =>
  obtain ⟨m, J, hJ, hkm, hmn, rfl, rfl, hrow, hout⟩ := hrel
  have hBw := hout.below (B := B) (fun x hx => by rw [hx]; exact hBq) hB
  have hBr : B ≤ wr.heap.size := Nat.le_trans hB hout.size
  obtain ⟨q', hq', _, hqr, hqc⟩ := row_block hrow (by omega)
  obtain rfl : q = q' := by cases hq'; rfl
  clear hq'
  have hlen0 : (movedP ps k m).length = n := by
   have := hrow.1
   rw [flatP_len] at this
   omega
  by_cases hJn : J < n
  ·obtain ⟨x, hx⟩ : ∃ x, ps[m + 1]? = some x := ⟨_, List.getElem?_eq_getElem (by rw [HLN.out]; omega)⟩
   obtain ⟨hst, hat⟩ := movedP_step hkm hx
   have hxc : x.comp ≠ c := HF.out (m + 1) x (by omega) hx
   obtain ⟨y, hy⟩ : ∃ y, (movedP ps k m)[m]? = some y := ⟨_, List.getElem?_eq_getElem (by omega)⟩
   rw [← hJ] at hat
   obtain ⟨g0, g1⟩ := partL_at _ _ _ hat
   have z0 := hqc _ _ g0
   have z1 := hqc _ _ g1
   have i1 : (0 : Int) ≤ (J : Int) := by omega
   have i2 : (J : Int) < (n : Int) := by omega
   have i3 : (0 : Int) ≤ (m : Int) := by omega
   have i4 : (m : Int) < (n : Int) := by omega
   have hbA : Below B wr (wr.alloc (.cells #[.int .i64 x.comp, .slice x.va x.vl x.vc] 48)) := (Below.refl _ wr).alloc hBr _
   have hcb : (wr.alloc (.cells #[.int .i64 x.comp, .slice x.va x.vl x.vc] 48)).cell? ⟨b, 0, none⟩ = some (.int .i64 c) := (World.cell?_of_block (a := ⟨b, 0, none⟩) ((hBw.trans hbA).block _ hbB)).trans HB.out
   have hne : (x.comp == c) = false := by simpa using hxc
   have hcl := rmClo_any b c _ hcb x.comp x.va x.vl x.vc
   rw [hne] at hcl
   have HCL := Lib.hid hcl
   have HROW := Lib.hid hrow
   have HOUT := Lib.hid hout
   have HY := Lib.hid (partL_at _ _ _ hy)
   have HST := Lib.hid hst
   have HNB := Lib.hid (heap_alloc_new wr (.cells #[.int .i64 x.comp, .slice x.va x.vl x.vc] 48))
   have HJ := Lib.hid hJ
   clear hx hst hat hxc hy g0 g1 hqc hbA hcb hne hcl hrow hout hlen0 hBw hJ
   go_wp2_with fail
   refine HCL.out.mono ?_
   rintro e w3 ⟨rfl, hb3⟩
   have hrow3 := ownsRow_below (HROW.out.alloc (.cells #[.int .i64 x.comp, .slice x.va x.vl x.vc] 48)) hb3
   obtain ⟨q', hq', _, hqr3, hqc3⟩ := row_block hrow3 (by omega)
   obtain rfl : q = q' := by cases hq'; rfl
   have t0 := hqc3 _ _ HY.out.1
   have t1 := hqc3 _ _ HY.out.2
   have f0 := hrow3.frozenAt (m * 2)
   have f1 := hrow3.frozenAt (m * 2 + 1)
   have hnb3 := keep hb3 HNB.out
   have v0 := cell_at hnb3 0
   have v1 := cell_at hnb3 1
   simp at v0 v1
   obtain ⟨s1, gr1⟩ := hrow3.stored (m * 2) (.int .i64 x.comp)
   obtain ⟨s2, gr2⟩ := s1.stored (m * 2 + 1) (.slice x.va x.vl x.vc)
   rw [flatP_set, HST.out] at s2
   have HO3 := Lib.hid (((HOUT.out.trans (Out.of (F := fun y => y = q) (((Below.refl _ wr).alloc (Nat.le_refl _) (.cells #[.int .i64 x.comp, .slice x.va x.vl x.vc] 48)).trans (hb3.mono (by simp)))) (fun _ => .inl)).trans (outOne gr1) (fun _ => .inl)).trans (outOne gr2) (fun _ => .inl))
   have HS2 := Lib.hid s2
   clear hb3 hrow3 hq' hqc3 hnb3 s1 gr1 s2 gr2 z0 z1
   go_wp2_with fail
   go_roundw
   case rel =>
    refine ⟨_, _, _, _, _, _, _, _, _, _, _, _, _, _, _, _, _, _, _, _, _, _, _, ?_, rfl⟩
    exact ⟨m + 1, J + 1, by have := HJ.out; omega, by omega, by have := HJ.out; omega, by go_num, by go_num, HS2.out, HO3.out⟩
   case measure => simp [intOf]; omega
  ·have hmn1 : n1 = m := by have := HN1.out; omega
   subst hmn1
   have hnm : n - n1 = 1 := by have := HN1.out; omega
   obtain ⟨y, hy⟩ : ∃ y, (movedP ps k n1)[n1]? = some y := ⟨_, List.getElem?_eq_getElem (by omega)⟩
   obtain ⟨g0, g1⟩ := partL_at _ _ _ hy
   have t0 := hqc _ _ g0
   have t1 := hqc _ _ g1
   have hcl := run_clearPart q (n1 * 2) (pc - n1) wr (by rw [t0]; rfl) (by rw [t1]; rfl) (hrow.frozenAt (n1 * 2)) (hrow.frozenAt (n1 * 2 + 1))
   have i3 : (0 : Int) ≤ (n1 : Int) := by omega
   have i4 : (n1 : Int) ≤ (n : Int) := by omega
   have i5 : (n1 : Int) ≤ (pc : Int) := by omega
   obtain ⟨z, hz⟩ : ∃ z : PW, z = ⟨0, none, 0, 0, []⟩ := ⟨_, rfl⟩
   obtain ⟨s1, gr1⟩ := hrow.stored (n1 * 2) (.int .i64 z.comp)
   obtain ⟨s2, gr2⟩ := s1.stored (n1 * 2 + 1) (.slice z.va z.vl z.vc)
   rw [flatP_set] at s2
   have s3 := ownsRow_cut s2 (show n1 ≤ n by omega)
   rw [flatP_take, movedP_end (by rw [HLN.out]; exact hkl) (by rw [HLN.out]; exact HN1.out)] at s3
   have hO := (hout.trans (outOne gr1) (fun _ => .inl)).trans (outOne gr2) (fun _ => .inl)
   subst hz
   have HFIN : Hid (PO B ((wr.setCell ⟨q, n1 * 2, none⟩ (.int .i64 0)).setCell ⟨q, n1 * 2 + 1, none⟩ (.slice none 0 0)) (some ⟨q, 0, none⟩) n1 pc (ps.eraseIdx k) ∧ Below B w ((wr.setCell ⟨q, n1 * 2, none⟩ (.int .i64 0)).setCell ⟨q, n1 * 2 + 1, none⟩ (.slice none 0 0))) := Lib.hid (by
    refine ⟨⟨s3, fun p' hp' => ?_, by rw [List.length_eraseIdx, if_pos (by rw [HLN.out]; exact hkl), HLN.out]; have := HN1.out; omega⟩, hO.below (fun x hx => by rw [hx]; exact hBq) hB⟩
    have hv := HPO.out.vals p' (List.mem_of_mem_eraseIdx hp')
    refine ⟨ownsRow_out hv.1 hO fun x hx hxq => ?_, hv.2⟩
    rcases ownsRow_ne hv.1 HPO.out.row (by decide) with h | h
    ·rw [h] at hx; cases hx
    ·exact h (by rw [hx, hxq]; rfl))
   clear hrow hout hqc hlen0 hBw g0 g1 hy s1 s2 s3 gr1 gr2 hO t0 t1
   go_wp2_with fail
   go_ret
   exact ⟨rfl, HFIN.out.1, HFIN.out.2⟩
end
end Go.Proofs.YthmpknlgkflhiabGreat
namespace Go.Proofs.YthmpknlgkflhiabGreat
open Go.RowKit
set_option linter.unusedVariables false
theorem map_eraseP {α β : Type} (f : α → β) : ∀ (l : List α) (k : Nat), (l.eraseIdx k).map f = (l.map f).eraseIdx k
 | [], k => rfl
 | x :: r, 0 => rfl
 | x :: r, k + 1 => by rw [List.eraseIdx_cons_succ, List.map_cons, List.map_cons, List.eraseIdx_cons_succ, map_eraseP f r k]
theorem erase_filter {c : Int} : ∀ {l : List (Int × List WI)} {k : Nat}, (l.map (·.1)).Nodup → (l.map (·.1))[k]? = some c → l.eraseIdx k = l.filter fun p => decide (p.1 ≠ c)
 | [], k, _, h => by simp at h
 | x :: r, 0, hn, h => by
  have hx : x.1 = c := by simpa using h
  rw [List.map_cons, List.nodup_cons, hx] at hn
  rw [List.eraseIdx_cons_zero, List.filter_cons, if_neg (by simp [hx])]
  refine (List.filter_eq_self.2 fun p hp => ?_).symm
  have hne : p.1 ≠ c := fun e => hn.1 (List.mem_map.2 ⟨p, hp, e⟩)
  simpa using hne
 | x :: r, k + 1, hn, h => by
  rw [List.map_cons, List.nodup_cons] at hn
  have h' : (r.map (·.1))[k]? = some c := by simpa using h
  have hne : x.1 ≠ c := fun e => hn.1 (e ▸ List.mem_of_getElem? h')
  rw [List.eraseIdx_cons_succ, List.filter_cons, if_pos (by simpa using hne), erase_filter hn.2 h']
section
variable {w w' : World} {d : WD} {L : List Int} {N n : Nat} {va : Option Addr} {vl vc : Nat} {v : List WI}
set_option maxRecDepth 100000 in
set_option maxHeartbeats 1000000 in
theorem wRemove_norow (h : WIn w d N) (c : Int) {k : Int} (hk : k ≠ 0) (e : Int) {S' : WS} {M : Nat} (hM : N ≤ M) (HC : ∀ W, Below w.heap.size w W → Calls Tryz.prog 32 #[.pointer (some ⟨d.wb, 0, none⟩), .int .u64 e] W fun en w' => en = .returned (.tuple #[.pointer none, .int .i64 0, .int .i64 k]) ∧ Below W.heap.size W w') : Calls Tryz.prog 15 #[.pointer (some ⟨d.wb, 0, none⟩), .int .u64 e, .int .i64 c] w (IsDeed d k S' M w) := by
 have hb0 : Below w.heap.size w (w.alloc (.cells #[.int .i64 c] 3)) := by go_grown
 have HB0 := Lib.hid hb0
 have HCC := Lib.hid (HC _ hb0)
 have HF := Lib.hid (fun (W : World) (hb : Below w.heap.size w W) => show IsDeed d k S' M w (.returned (.int .i64 k)) W from ⟨d, (h.below hb).mono hM, WFr.of_below hb, rfl, rfl, (if_neg hk).symm⟩)
 have hkn : (k != 0) = true := by simpa using hk
 clear h HC hb0 hk
 go_enter Tryz.func15, Tryz.ntmps15
 go_wp2_with fail
 refine HCC.out.mono ?_
 rintro en w1 ⟨rfl, hb⟩
 have HFF := Lib.hid (HF.out _ (HB0.out.trans (hb.mono HB0.out.size)))
 clear hb
 go_wp2_with fail
 go_ret
 exact HFF.out
set_option maxRecDepth 100000 in
set_option maxHeartbeats 1000000 in
theorem wRemove_not (h : WIn w d N) (c : Int) (e : Int) (he : e ∈ d.x.ix.liveL) {i r : Nat} (hpl : d.pl e = some ⟨i, some r⟩) {t : TD} (ht : d.T[i]? = some t) (hbt : hasB t.set c = false) {S' : WS} {M : Nat} (hM : N ≤ M) : Calls Tryz.prog 15 #[.pointer (some ⟨d.wb, 0, none⟩), .int .u64 e, .int .i64 c] w (IsDeed d 6 S' M w) := by
 have hb0 : Below w.heap.size w (w.alloc (.cells #[.int .i64 c] 3)) := by go_grown
 have HB0 := Lib.hid hb0
 have HCC := Lib.hid (wRow_ok (h.below hb0) e he hpl ht)
 have HP0 := Lib.hid (heap_alloc_new w (.cells #[.int .i64 c] 3))
 have HF := Lib.hid (fun (W : World) (hb : Below w.heap.size w W) => show IsDeed d 6 S' M w (.returned (.int .i64 6)) W from ⟨d, (h.below hb).mono hM, WFr.of_below hb, rfl, rfl, rfl⟩)
 have HSG := Lib.hid (fun (W : World) (hb : Below w.heap.size w W) => tabSig_in (WMid.tab (h.below hb) ht))
 have hbd := WMid.bd h ht
 have HHAS := Lib.hid (fun (W : World) => has_any t.set c W hbd.1 hbd.2)
 rw [hbt] at HHAS
 clear h hb0 he hpl ht hbt hbd
 go_enter Tryz.func15, Tryz.ntmps15
 go_wp2_with fail
 refine HCC.out.mono ?_
 rintro en w1 ⟨rfl, hb⟩
 have HB1 := Lib.hid (HB0.out.trans (hb.mono HB0.out.size))
 have x0 := cell_at (keep hb HP0.out) 0
 simp at x0
 clear hb
 go_upto_region 4 with (fail)
 go_quiet ((first | (go_at_call 50; exact quiet_sm (HSG.out _ (below_drewN HB1.out _))) | (go_at_call 48; exact quiet_sm (HHAS.out _))))
 have HFF := Lib.hid (HF.out _ (below_drewN HB1.out nq))
 go_wp2_with fail
 go_returns
 exact HFF.out
set_option maxRecDepth 100000 in
set_option maxHeartbeats 2000000 in
theorem wRemove_go (h : WIn w d N) (c : Int) (e : Int) (he : e ∈ d.x.ix.liveL) {i r : Nat} (hpl : d.pl e = some ⟨i, some r⟩) {t : TD} (ht : d.T[i]? = some t) (hbt : hasB t.set c = true) {V : List (List (List WI))} {row : List (List WI)} (hV : Vals t V) (hvr : V[r]? = some row) (hlen : row.length = (idsTo t.set 24).length) {k : Int} {Q : World → Prop}
  (HMV : ∀ (pa : Option Addr) (pc : Nat) (ps : List PW) (W : World), Below w.heap.size w W → PO (w.heap.size + 1) W pa ((cvOf t.set row).length - 1) pc ps → cv ps = ((cvOf t.set row).filter fun p => decide (p.1 ≠ c)) → Calls Tryz.prog 49 #[.pointer (some ⟨d.wb, 0, none⟩), .int .u64 e, .int .i64 c, .bool false, .slice pa ((cvOf t.set row).length - 1) pc] W fun en w' => en = .returned (.int .i64 k) ∧ Q w') : Calls Tryz.prog 15 #[.pointer (some ⟨d.wb, 0, none⟩), .int .u64 e, .int .i64 c] w fun en w' => en = .returned (.int .i64 k) ∧ Q w' := by
 have hb0 : Below w.heap.size w (w.alloc (.cells #[.int .i64 c] 3)) := by go_grown
 have HB0 := Lib.hid hb0
 have HCC := Lib.hid (wRow_ok (h.below hb0) e he hpl ht)
 have HP0 := Lib.hid (heap_alloc_new w (.cells #[.int .i64 c] 3))
 have HSG := Lib.hid (fun (W : World) (hb : Below w.heap.size w W) => tabSig_in (WMid.tab (h.below hb) ht))
 have hbd := WMid.bd h ht
 have HHAS := Lib.hid (fun (W : World) => has_any t.set c W hbd.1 hbd.2)
 obtain ⟨j, _, _, _, _, _, _, hix⟩ := (WMid.tab h ht).colIs hbt
 have hrc : rowCv t row = cvOf t.set row := rowCv_eq (WMid.tab h ht).ids row
 have HPT := Lib.hid (fun (W : World) (hb : Below w.heap.size w W) => tabParts_ok (WMid.tab (h.below hb) ht) V hV r row hvr)
 unfold IsParts at HPT
 rw [hrc] at HPT
 have hci := cvOf_ids hlen
 obtain ⟨l, hl⟩ : ∃ l, cvOf t.set row = l := ⟨_, rfl⟩
 rw [hl] at HPT hci HMV
 rw [hbt] at HHAS
 obtain ⟨m, hm⟩ : ∃ m, l.length = m := ⟨_, rfl⟩
 rw [hm] at HPT HMV
 have HMM := Lib.hid HMV
 have HCI := Lib.hid hci
 have HIX := Lib.hid hix
 have hmf : ∀ (fn : Fn) (first cap : Array Value) (w : World), (Instr.makeFunc fn first cap).run Tryz.prog w = .ok (.func fn first cap) w := fun _ _ _ _ => rfl
 clear h hb0 he hpl ht hbt hbd hV hvr hlen hrc hl hm HMV hci hix
 go_enter Tryz.func15, Tryz.ntmps15
 go_wp2_with fail
 refine HCC.out.mono ?_
 rintro en w1 ⟨rfl, hb⟩
 have HB1 := Lib.hid (HB0.out.trans (hb.mono HB0.out.size))
 have HP1 := Lib.hid (keep hb HP0.out)
 have x0 := cell_at HP1.out 0
 simp at x0
 clear hb
 go_upto_region 4 with (fail)
 go_quiet ((first | (go_at_call 50; exact quiet_sm (HSG.out _ (below_drewN HB1.out _))) | (go_at_call 48; exact quiet_sm (HHAS.out _))))
 have HB2 := Lib.hid (below_drewN HB1.out nq)
 have HP2 : Hid ((w1.drewN nq).heap[w.heap.size]? = some (.cells #[.int .i64 c] 3 (0, 0))) := Lib.hid HP1.out
 go_wp2_with fail
 refine (HPT.out _ HB2.out).mono ?_
 rintro en w5 ⟨pa, pc, ps, rfl, hpo, hcv, hb5⟩
 have HB5 := Lib.hid (HB2.out.trans (hb5.mono HB2.out.size))
 have hp5 := keep hb5 HP2.out
 have y0 := cell_at hp5 0
 simp at y0
 have hlt2 := lt_some HP2.out
 have hlt5 := lt_some hp5
 have hcm : comps ps = idsTo t.set 24 := by rw [comps_cv, hcv]; exact HCI.out
 obtain ⟨p, hpk, hpc⟩ : ∃ p, ps[j]? = some p ∧ p.comp = c := by
  have hh := HIX.out
  rw [← hcm] at hh
  unfold comps at hh
  rw [List.getElem?_map] at hh
  cases hq : ps[j]? with
  | none => rw [hq] at hh; cases hh
  | some p => rw [hq] at hh; exact ⟨p, rfl, by simpa using hh⟩
 have hdl := delFunc_any (w.heap.size + 1) w.heap.size c pa m pc ps w5 (hpo.mono (show w.heap.size + 1 ≤ (w1.drewN nq).heap.size by omega)) (Nat.lt_succ_self _) (by omega) y0 j p hpk hpc (by
  intro a q ha hq hqc
  have hn := idsTo_nodup t.set 24
  have h1 : (idsTo t.set 24)[a]? = some c := by rw [← hcm]; unfold comps; rw [List.getElem?_map, hq]; simp [hqc]
  have hal := (List.getElem?_eq_some_iff.1 h1).1
  exact ha ((List.getElem?_inj hal hn).1 (h1.trans HIX.out.symm)))
 unfold rmClo at hdl
 have hce : cv (ps.eraseIdx j) = l.filter fun p => decide (p.1 ≠ c) := by
  have h1 : cv (ps.eraseIdx j) = (cv ps).eraseIdx j := by unfold cv; exact map_eraseP _ _ _
  rw [h1, hcv]
  exact erase_filter (by rw [HCI.out]; exact idsTo_nodup _ _) (by rw [HCI.out]; exact HIX.out)
 have HDL := Lib.hid hdl
 have HCE := Lib.hid hce
 have HP5 := Lib.hid hp5
 clear hpo hcv hb5 hp5 hcm hpk hpc hdl hce x0
 go_wp2_with fail
 refine HDL.out.mono ?_
 rintro en w6 ⟨rfl, hpo6, hb6⟩
 have HB6 := Lib.hid (HB5.out.trans (hb6.mono (Nat.le_succ _)))
 have z0 := cell_at ((hb6.block _ (Nat.lt_succ_self _)).trans HP5.out) 0
 simp at z0
 have HMM6 := Lib.hid (HMM.out pa pc _ _ HB6.out hpo6 HCE.out)
 clear hpo6 hb6 y0
 go_wp2_with fail
 refine HMM6.out.mono ?_
 rintro en w7 ⟨rfl, hq⟩
 have HQ := Lib.hid hq
 clear hq
 go_wp2_with fail
 go_returns
 exact ⟨rfl, HQ.out⟩
end
end Go.Proofs.YthmpknlgkflhiabGreat
namespace Go.Proofs.YthmpknlgkflhiabGreat
open Go.RowKit
set_option linter.unusedVariables false
section
variable {w w' : World} {d : WD} {L : List Int} {N n : Nat}
theorem WMid.find_of (h : WMid w d L N) {i : Nat} {t : TD} (ht : d.T[i]? = some t) {c : Int} (hb : hasB t.set c = true) : (findC c d.g.cs).isSome = true := by
 obtain ⟨j, x, dc, hx, _, _, _, hix⟩ := (WMid.tab h ht).colIs hb
 obtain ⟨_, hlike⟩ := WMid.like h ht
 have hh := congrArg (·[j]?) hlike
 simp only [List.getElem?_map, hix] at hh
 have hcx : t.cs[j]? = some x.c := by unfold TD.cs; rw [List.getElem?_map, hx]; rfl
 rw [hcx] at hh
 have hfc : findC c d.g.cs = some x.c := by simpa using hh
 rw [hfc]; rfl
theorem wRemove_any (h : WIn w d N) (hN : N ≤ 999990) (e : Int) (h0 : 0 ≤ e) (h1 : e < 18446744073709551616) (c : Int) (hsis : ∀ s r, d.S.rowAt e = some (s, r) → sIs s = true) : Calls Tryz.prog 15 #[.pointer (some ⟨d.wb, 0, none⟩), .int .u64 e, .int .i64 c] w (IsDeed d (d.S.removeE e c) (d.S.removeS e c) (N + 2) w) := by
 have hM : N ≤ N + 2 := Nat.le_add_right _ _
 by_cases he : e ∈ d.x.ix.liveL
 ·have hE : d.S.removeE e c = match d.S.rowAt e with | none => 7 | some (s, _) => if hasB s c then d.S.openE (sWithout s c) else 6 := h.if_live he _ _
  rcases h.cases he with ⟨i, t, hpl, ht⟩ | ⟨i, r, t, hpl, ht⟩
  ·rw [rowAt_wait (show d.S.who e = _ from WMid.who_wait h hpl ht)] at hE
   have hE : d.S.removeE e c = 7 := hE
   rw [hE]
   exact wRemove_norow h c (by decide) e hM fun W hb => wRow_wait (h.below hb) e he hpl
  ·obtain ⟨V, row, hv, hvr, hV, hrl, hent, hw, hrow⟩ := WMid.who_row h hpl ht
   have hra := h.rowAt_row hpl ht hw
   have hS : d.S.removeS e c = match d.S.rowAt e with | none => d.S | some (s, r) => d.S.movedS e (sWithout s c) ((cvOf s r).filter fun p => decide (p.1 ≠ c)) := rfl
   rw [hra] at hE hS
   have hE : d.S.removeE e c = if hasB t.set c then d.S.openE (sWithout t.set c) else 6 := hE
   have hS : d.S.removeS e c = d.S.movedS e (sWithout t.set c) ((cvOf t.set row).filter fun p => decide (p.1 ≠ c)) := hS
   cases hb : hasB t.set c with
   | false =>
    rw [hb] at hE
    have hE : d.S.removeE e c = 6 := hE
    rw [hE]
    exact wRemove_not h c e he hpl ht hb hM
   | true =>
    rw [hb] at hE
    have hE : d.S.removeE e c = d.S.openE (sWithout t.set c) := hE
    rw [hE, hS]
    have hss := hsis _ _ hra
    have hlen := (WMid.fits h hpl ht hw).1
    have hcl : (cvOf t.set row).length = t.cps.length := by unfold cvOf; rw [List.length_zip, hlen, ← (WMid.tab h ht).ids, List.length_map]; exact Nat.min_self _
    have hn24 := (WMid.tab h ht).n24
    refine (wRemove_go h c e he hpl ht hb hV hvr hlen (k := d.S.openE (sWithout t.set c)) (Q := WAdded d (d.S.openE (sWithout t.set c)) (d.S.movedS e (sWithout t.set c) ((cvOf t.set row).filter fun p => decide (p.1 ≠ c))) (N + 2) w) ?_).mono ?_
    ·intro pa pc ps W hbW hpo hps
     have hW := h.below hbW
     obtain ⟨hpok, hfold⟩ := WMid.lessened hW hpl ht hw hss hb hps
     have hpin : PartsIn d W pa ((cvOf t.set row).length - 1) pc ps :=
      partsIn_own hW (B := w.heap.size + 1) (fun b hbf => Nat.lt_succ_of_lt (h.raw.lt hbf)) hpo.row hpo.len (by omega) fun p hpm => .inl (hpo.vals p hpm)
     have hmv := wMove_any hW e he hpl ht (b := false) (WMid.find_of h ht hb) hb hN hpin hpok hfold
     rw [hps] at hmv
     refine hmv.mono ?_
     rintro en w' ⟨d', hw', hf', hwb', rfl, hS'⟩
     exact ⟨rfl, d', hw', (WFr.of_below hbW).trans hf', hwb', hS'⟩
    ·rintro en w' ⟨rfl, d', hw', hf', hwb', hS'⟩
     exact ⟨d', hw', hf', hwb', rfl, hS'⟩
 ·have hE : d.S.removeE e c = 11 := h.if_dead h0 he _ _
  rw [hE]
  exact wRemove_norow h c (by decide) e hM fun W hb => wRow_no (h.below hb) e h0 h1 he
end
end Go.Proofs.YthmpknlgkflhiabGreat
namespace Go.Proofs.YthmpknlgkflhiabGreat
open Go.RowKit
set_option linter.unusedVariables false
section
variable {w w' : World}
theorem isWithin_any (x lo hi : Int) (w : World) : Calls Tryz.prog 66 #[.int .i64 x, .int .i64 lo, .int .i64 hi] w fun e w' => e = .returned (.bool (decide (lo ≤ x ∧ x ≤ hi))) ∧ w = w' := by
 by_cases h1 : lo ≤ x
 ·by_cases h2 : x ≤ hi
  ·have h3 : decide (lo ≤ x ∧ x ≤ hi) = true := by simp [h1, h2]
   rw [h3]
   go_enter Tryz.func66, Tryz.ntmps66
   go_wp2_with fail
   go_ret
   exact ⟨rfl, rfl⟩
  ·have h3 : decide (lo ≤ x ∧ x ≤ hi) = false := by simp [h2]
   rw [h3]
   go_enter Tryz.func66, Tryz.ntmps66
   go_wp2_with fail
   go_ret
   exact ⟨rfl, rfl⟩
 ·have h3 : decide (lo ≤ x ∧ x ≤ hi) = false := by simp [h1]
  rw [h3]
  go_enter Tryz.func66, Tryz.ntmps66
  go_wp2_with fail
  go_ret
  exact ⟨rfl, rfl⟩
set_option maxRecDepth 100000 in
set_option maxHeartbeats 1000000 in
theorem checkCaps_ok (c : CapsD) (h : CapsOk c) (w : World) : Calls Tryz.prog 27 #[.agg #[.int .i64 c.ents, .int .i64 c.rows, .int .i64 c.archs, .int .i64 c.cmds, .int .i64 c.fuel, .int .i64 c.gens]] w fun e w' => e = .returned (.int .i64 0) ∧ Below w.heap.size w w' := by
 obtain ⟨a1, a2, a3, a4, a5, a6, hcc⟩ : ∃ a1 a2 a3 a4 a5 a6, c = ⟨a1, a2, a3, a4, a5, a6⟩ := ⟨_, _, _, _, _, _, rfl⟩
 subst hcc
 have k1 := fun (W : World) => isWithin_any a1 1 256 W
 have k2 := fun (W : World) => isWithin_any a2 1 256 W
 have k3 := fun (W : World) => isWithin_any a3 1 64 W
 have k4 := fun (W : World) => isWithin_any a4 0 64 W
 have k5 := fun (W : World) => isWithin_any a5 0 4096 W
 have k6 := fun (W : World) => isWithin_any a6 1 65535 W
 rw [decide_eq_true h.ents] at k1
 rw [decide_eq_true h.rows] at k2
 rw [decide_eq_true h.archs] at k3
 rw [decide_eq_true h.cmds] at k4
 rw [decide_eq_true h.fuel] at k5
 rw [decide_eq_true h.gens] at k6
 have K1 := Lib.hid k1
 have K2 := Lib.hid k2
 have K3 := Lib.hid k3
 have K4 := Lib.hid k4
 have K5 := Lib.hid k5
 have K6 := Lib.hid k6
 clear k1 k2 k3 k4 k5 k6 h
 go_enter Tryz.func27, Tryz.ntmps27
 go_wp2_with fail
 refine (K1.out _).mono ?_
 rintro e w1 ⟨rfl, rfl⟩
 go_wp2_with fail
 refine (K2.out _).mono ?_
 rintro e w1 ⟨rfl, rfl⟩
 go_wp2_with fail
 refine (K3.out _).mono ?_
 rintro e w1 ⟨rfl, rfl⟩
 go_wp2_with fail
 refine (K4.out _).mono ?_
 rintro e w1 ⟨rfl, rfl⟩
 go_wp2_with fail
 refine (K5.out _).mono ?_
 rintro e w1 ⟨rfl, rfl⟩
 go_wp2_with fail
 refine (K6.out _).mono ?_
 rintro e w1 ⟨rfl, rfl⟩
 go_wp2_with fail
 go_ret
 exact ⟨rfl, by go_grown⟩
end
end Go.Proofs.YthmpknlgkflhiabGreat
