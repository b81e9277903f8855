/- slices.Clone of commands that wait; what a command is. · The queue of commands: its other methods. · Swap of two that wait. Printed by mkN6d.py. · The heap of commands: its calls through the interface; down. -/
import Derived.Test.YtnhlnnehpmjeiaaGreatDoorP14
import Derived.Test.YtnhlnnehpmjeiaaGreatDoorP15
import Derived.Test.YtnhlnnehpmjeiaaGreatDoorP5
import Derived.BigQuiet
import Derived.Deep.QuietTactic
import Derived.Deep.DeepCutAuto
import Derived.Deep.AppendLies
import Derived.Deep.RegionLaw
namespace Go.Proofs.YtnhlnnehpmjeiaaGreatDoor
open Go.RowKit
set_option linter.unusedVariables false
theorem Tryz.info67 : (Tryz.prog.info? 67).map (fun i => (i.zero, i.size, i.bytes)) = some (some (.agg #[.int .i64 0, .int .i64 0, .int .i64 0, .int .i64 0, .int .i64 0, .int .i64 0, .int .u64 0, .int .i64 0, .slice none 0 0]), 9, 88) := by kernel_rfl
theorem IT.c_one (y : IT) : ∀ u ∈ y.c, u.oneCell' = true := by
  intro u hu
  unfold IT.c at hu
  simp only [List.mem_cons, List.mem_nil_iff, or_false] at hu
  rcases hu with rfl | rfl | rfl | rfl | rfl | rfl | rfl | rfl | rfl <;> rfl
theorem its_one (l : List IT) : ∀ u ∈ l.flatMap IT.c, u.oneCell' = true := by
  intro u hu
  obtain ⟨y, _, h⟩ := List.mem_flatMap.1 hu
  exact y.c_one u h
set_option maxRecDepth 100000 in
theorem cqClone_any (B : Nat) (a : Option Addr) (cap : Nat) (xs : List IT) (w : World) (h : w.ownsRow B 67 9 (.slice a xs.length cap) xs.length (xs.flatMap IT.c)) (hl : xs.length ≤ 300) :
    Calls Tryz.prog 22 #[.slice a xs.length cap] w fun en w' => ∃ va vc, en = .returned (.slice va xs.length vc) ∧ w'.ownsRow w.heap.size 67 9 (.slice va xs.length vc) xs.length (xs.flatMap IT.c) ∧ Below w.heap.size w w' := by
  obtain ⟨i0, hi, hz0, hz1, hz2⟩ := info_parts Tryz.info67
  have hnn := fun (wx : World) (a : Option Addr) (n c : Nat) => Lib.run_eql_slice_nil (P := Tryz.prog) wx 60 67 a n c 0 0 Tryz.underlying60
  obtain ⟨L, hL⟩ : ∃ L, xs.length = L := ⟨_, rfl⟩
  rw [hL] at h hl ⊢
  rcases h.2 with ⟨hv, h0⟩ | ⟨g, cap', cur, hv, hg, hh, hc1, hc2, hc3, hc4⟩
  · subst h0
    cases hv
    obtain rfl := List.eq_nil_of_length_eq_zero hL
    go_enter Tryz.func22, Tryz.ntmps22
    go_wp2
    go_returns
    exact ⟨none, 0, rfl, World.ownsRow_nil _ _ _ _, Below.refl _ _⟩
  · cases hv
    have hcc : ∀ j u, (xs.flatMap IT.c)[j]? = some u → (w.alloc (.cells #[] 67)).cell? ((⟨g, 0, none⟩ : Addr).add j) = some u := fun j u hu => by
      rw [show (⟨g, 0, none⟩ : Addr).add j = ⟨g, j, none⟩ from by simp [Addr.add]; omega, cell_at (keepA _ hh)]
      rw [← hc4, List.getElem?_take] at hu
      split at hu
      · simpa using hu
      · cases hu
    have hown : (w.alloc (.cells #[] 67)).ownsRow w.heap.size 67 9 (.slice (some ⟨w.heap.size, 0, none⟩) 0 0) 0 [] := World.ownsRow_made w #[] 0 (Nat.le_refl _) (by simp) (by simp)
    have hcl : (xs.flatMap IT.c).length = L * 9 := by rw [it_len, hL]
    have HL := Lib.hid hL
    have HCC := Lib.hid hcc
    have HCL := Lib.hid hcl
    clear hL h hh hc1 hc2 hc3 hc4 hcc hcl
    go_enter Tryz.func22, Tryz.ntmps22
    go_wp2_with (at_builtin; refine wpList_append_own _ rfl (.tmp 5) (.tmp 6) 60 rfl w.heap.size 67 i0 _ 9 88 Tryz.underlying60 hi hz0 hz1 hz2 rfl (by decide) (.slice (some ⟨w.heap.size, 0, none⟩) 0 0) 0 [] rfl hown ⟨g, 0, none⟩ L cap (xs.flatMap IT.c) rfl HCL.out HCC.out (its_one xs) (by unfold maxLen; omega) (by omega) (by simp) ?_)
    intro v' w1 hown1 hg1 hnil
    obtain ⟨va, vc, hv⟩ := ownsRow_slice hown1
    rw [hv] at hown1 hnil ⊢
    clear hv
    have hbel : Below w.heap.size w w1 := ((Below.refl _ w).alloc (Nat.le_refl _) _).grown hg1 (by simp) (fun x hx => by simp [Value.ownBlock] at hx; omega)
    have HO := Lib.hid hown1
    clear hown1 hnil
    go_wp2
    go_returns
    exact ⟨va, vc, rfl, HO.out, hbel⟩
/-- A command's cells. -/
def IT.d (y : IT) : List Value := [.int .i64 y.kind, .int .u64 y.ent, .int .i64 y.comp, .slice none 0 0]
def IT.e (y : IT) : Value := .agg #[.int .i64 y.kind, .int .u64 y.ent, .int .i64 y.comp, .slice none 0 0]
theorem cmds_at : ∀ (l : List IT) (i : Nat) (x : IT), l[i]? = some x → ∀ (j : Nat) (u : Value), x.d[j]? = some u → (l.flatMap IT.d)[i * 4 + j]? = some u
  | [], _, _, h, _, _, _ => by simp at h
  | y :: l, 0, x, h, j, u, hu => by
    simp at h
    subst h
    have hj : j < 4 := (List.getElem?_eq_some_iff.1 hu).1
    rw [List.flatMap_cons, List.getElem?_append_left (by show _ < 4; omega), Nat.zero_mul, Nat.zero_add]
    exact hu
  | y :: l, i + 1, x, h, j, u, hu => by
    have := cmds_at l i x (by simpa using h) j u hu
    rw [List.flatMap_cons, List.getElem?_append_right (by show 4 ≤ _; omega)]
    rw [show (i + 1) * 4 + j - y.d.length = i * 4 + j by show (i + 1) * 4 + j - 4 = _; omega]
    exact this
theorem IT.d_one (y : IT) : ∀ u ∈ y.d, u.oneCell' = true := by
  intro u hu
  unfold IT.d at hu
  simp only [List.mem_cons, List.mem_nil_iff, or_false] at hu
  rcases hu with rfl | rfl | rfl | rfl <;> rfl
end Go.Proofs.YtnhlnnehpmjeiaaGreatDoor
namespace Go.Proofs.YtnhlnnehpmjeiaaGreatDoor
open Go.RowKit
set_option linter.unusedVariables false
theorem cqLen_any (a : Option Addr) (n c : Nat) (w : World) : Calls Tryz.prog 42 #[.slice a n c] w fun e w' => e = .returned (.int .i64 n) ∧ w = w' := by
  go_enter Tryz.func42, Tryz.ntmps42
  go_wp2_with fail
  go_returns
  exact ⟨rfl, rfl⟩
set_option maxHeartbeats 2000000 in
theorem cqPop_any (x : QD) (w : World) (h : QMem w x) (m : Nat) (hm : x.its.length = m + 1) (y : IT) (hy : x.its[m]? = some y) (hl : m ≤ 300) : Calls Tryz.prog 220 #[.pointer (some ⟨x.pb, x.po, none⟩)] w fun e w' => e = .returned (.iface 67 y.v) ∧ QStep x (x.withIts (x.its.take m)) w w' := by
  obtain ⟨q, y', hq, hql, hy', hc, hfz, hcap, hqp⟩ := h.item (show m < x.its.length by omega)
  obtain rfl : y' = y := Option.some.inj (hy'.symm.trans hy)
  obtain ⟨c3, f3⟩ := h.cell
  unfold QD.v at c3
  have hb1 : Below w.heap.size w (w.alloc (.cells #[.int .i64 y'.k.st, .int .i64 y'.k.sy, .int .i64 y'.k.id, .int .i64 y'.k.sq, .int .i64 y'.at_, .int .i64 y'.kind, .int .u64 y'.ent, .int .i64 y'.comp, .slice none 0 0] 67)) := by go_grown
  have h1 : QMem (w.alloc (.cells #[.int .i64 y'.k.st, .int .i64 y'.k.sy, .int .i64 y'.k.id, .int .i64 y'.k.sq, .int .i64 y'.at_, .int .i64 y'.kind, .int .u64 y'.ent, .int .i64 y'.comp, .slice none 0 0] 67)) x := h.below hb1
  obtain ⟨c3a, f3a⟩ := h1.cell
  unfold QD.v at c3a
  have hst := (h.less hm).below (c := (w.setCell ⟨x.pb, x.po, none⟩ (.slice x.fa m x.fc)).alloc (.cells #[.int .i64 y'.k.st, .int .i64 y'.k.sy, .int .i64 y'.k.id, .int .i64 y'.k.sq, .int .i64 y'.at_, .int .i64 y'.kind, .int .u64 y'.ent, .int .i64 y'.comp, .slice none 0 0] 67)) (by go_grown)
  have hpb : x.pb < w.heap.size := lt_some h.blk
  have hnew : ((w.alloc (.cells #[.int .i64 y'.k.st, .int .i64 y'.k.sy, .int .i64 y'.k.id, .int .i64 y'.k.sq, .int .i64 y'.at_, .int .i64 y'.kind, .int .u64 y'.ent, .int .i64 y'.comp, .slice none 0 0] 67)).setCell ⟨x.pb, x.po, none⟩ (.slice x.fa m x.fc)).heap[w.heap.size]? = some (.cells #[.int .i64 y'.k.st, .int .i64 y'.k.sy, .int .i64 y'.k.id, .int .i64 y'.k.sq, .int .i64 y'.at_, .int .i64 y'.kind, .int .u64 y'.ent, .int .i64 y'.comp, .slice none 0 0] 67 (0, 0)) := keepO (Only.at _ x.pb x.po _) (heap_alloc_new w _) (by omega)
  have z0 := cell_at hnew 0
  have z1 := cell_at hnew 1
  have z2 := cell_at hnew 2
  have z3 := cell_at hnew 3
  have z4 := cell_at hnew 4
  have z5 := cell_at hnew 5
  have z6 := cell_at hnew 6
  have z7 := cell_at hnew 7
  have z8 := cell_at hnew 8
  simp at z0 z1 z2 z3 z4 z5 z6 z7 z8
  rw [hm] at c3 c3a hcap
  rw [hq] at c3 c3a hst z0 z1 z2 z3 z4 z5 z6 z7 z8
  have i0 : (0 : Int) ≤ (m : Int) := by omega
  have i1 : (m : Int) < (m : Int) + 1 := by omega
  have i2 : (m : Int) ≤ (x.fc : Int) := by omega
  have x0 : w.cell? ⟨q, m * 9, none⟩ = some (.int .i64 y'.k.st) := hc 0 _ rfl
  have x1 : w.cell? ⟨q, m * 9 + 1, none⟩ = some (.int .i64 y'.k.sy) := hc 1 _ rfl
  have x2 : w.cell? ⟨q, m * 9 + 2, none⟩ = some (.int .i64 y'.k.id) := hc 2 _ rfl
  have x3 : w.cell? ⟨q, m * 9 + 3, none⟩ = some (.int .i64 y'.k.sq) := hc 3 _ rfl
  have x4 : w.cell? ⟨q, m * 9 + 4, none⟩ = some (.int .i64 y'.at_) := hc 4 _ rfl
  have x5 : w.cell? ⟨q, m * 9 + 5, none⟩ = some (.int .i64 y'.kind) := hc 5 _ rfl
  have x6 : w.cell? ⟨q, m * 9 + 6, none⟩ = some (.int .u64 y'.ent) := hc 6 _ rfl
  have x7 : w.cell? ⟨q, m * 9 + 7, none⟩ = some (.int .i64 y'.comp) := hc 7 _ rfl
  have x8 : w.cell? ⟨q, m * 9 + 8, none⟩ = some (.slice none 0 0) := hc 8 _ rfl
  have HST := Lib.hid hst
  have HV : Hid (y'.v = .agg #[.int .i64 y'.k.st, .int .i64 y'.k.sy, .int .i64 y'.k.id, .int .i64 y'.k.sq, .int .i64 y'.at_, .int .i64 y'.kind, .int .u64 y'.ent, .int .i64 y'.comp, .slice none 0 0]) := Lib.hid rfl
  rw [HV.out]
  clear h hq hst hm hy hy' hc hfz h1 hb1 hnew
  go_enter Tryz.func220, Tryz.ntmps220
  go_wp2_with fail
  go_returns
  exact ⟨rfl, HST.out⟩
theorem assert_item (cs : Array Value) (w : World) : (Instr.typeAssert (.iface 67 (.agg cs)) 20 67 false).run Tryz.prog w = .ok (.agg cs) w := by kernel_rfl
set_option maxRecDepth 100000 in
set_option maxHeartbeats 2000000 in
theorem cqPush_any (x : QD) (w : World) (h : QMem w x) (y : IT) (hl : x.its.length ≤ 300) : Calls Tryz.prog 221 #[.pointer (some ⟨x.pb, x.po, none⟩), .iface 67 y.v] w fun e w' => e = .returned (.tuple #[]) ∧ ∃ fa fc, QStep x (x.withFa fa fc (x.its ++ [y])) w w' := by
  obtain ⟨i0, hi, hz0, hz1, hz2⟩ := info_parts Tryz.info67
  obtain ⟨c3, f3⟩ := h.cell
  unfold QD.v at c3
  obtain ⟨pb, po, cs, ty, fa, fc, its⟩ := x
  simp only at c3 f3 hl ⊢
  obtain ⟨n, hn⟩ : ∃ n, its.length = n := ⟨_, rfl⟩
  have hown : ((w.alloc (.cells #[.int .i64 y.k.st, .int .i64 y.k.sy, .int .i64 y.k.id, .int .i64 y.k.sq, .int .i64 y.at_, .int .i64 y.kind, .int .u64 y.ent, .int .i64 y.comp, .slice none 0 0] 67)).drew).ownsRow 0 67 9 (.slice fa n fc) n (its.flatMap IT.c) := by
    rw [← hn]; exact h.row.alloc _
  have hnews : ∀ j u, (y.c : List Value)[j]? = some u → ((w.alloc (.cells #[.int .i64 y.k.st, .int .i64 y.k.sy, .int .i64 y.k.id, .int .i64 y.k.sq, .int .i64 y.at_, .int .i64 y.kind, .int .u64 y.ent, .int .i64 y.comp, .slice none 0 0] 67)).drew).cell? ((⟨w.heap.size, 0, none⟩ : Addr).add j) = some u :=
    World.news_of_block (w := ((w.alloc (.cells #[.int .i64 y.k.st, .int .i64 y.k.sy, .int .i64 y.k.id, .int .i64 y.k.sq, .int .i64 y.at_, .int .i64 y.kind, .int .u64 y.ent, .int .i64 y.comp, .slice none 0 0] 67)).drew)) (cs := #[.int .i64 y.k.st, .int .i64 y.k.sy, .int .i64 y.k.id, .int .i64 y.k.sq, .int .i64 y.at_, .int .i64 y.kind, .int .u64 y.ent, .int .i64 y.comp, .slice none 0 0]) (t := 67) (fr := (0, 0)) (heap_alloc_new w _)
  have hd : ∀ w6, ((w.alloc (.cells #[.int .i64 y.k.st, .int .i64 y.k.sy, .int .i64 y.k.id, .int .i64 y.k.sq, .int .i64 y.at_, .int .i64 y.kind, .int .u64 y.ent, .int .i64 y.comp, .slice none 0 0] 67)).drew).grownBy w6 (Value.slice fa n fc).ownBlock → w6.cell? ⟨pb, po, none⟩ = some (.slice fa n fc) ∧ w6.frozen? ⟨pb, po, none⟩ = false := by
    intro w6 hg6
    have hb6 := keepG hg6 (show ((w.alloc (.cells #[.int .i64 y.k.st, .int .i64 y.k.sy, .int .i64 y.k.id, .int .i64 y.k.sq, .int .i64 y.at_, .int .i64 y.kind, .int .u64 y.ent, .int .i64 y.comp, .slice none 0 0] 67)).drew).heap[pb]? = _ from keepA _ h.blk) (fun e => by rw [← hn] at e; exact h.pb_ne e.symm rfl)
    refine ⟨?_, free_at hb6 po⟩
    rw [cell_at hb6, Array.getElem?_setIfInBounds_self]
    have := h.po
    simp only at this
    rw [if_pos this]
    show some (Value.slice fa its.length fc) = _
    rw [hn]
  have c3a : (w.alloc (.cells #[.int .i64 y.k.st, .int .i64 y.k.sy, .int .i64 y.k.id, .int .i64 y.k.sq, .int .i64 y.at_, .int .i64 y.kind, .int .u64 y.ent, .int .i64 y.comp, .slice none 0 0] 67)).cell? ⟨pb, po, none⟩ = some (.slice fa n fc) := by
    have := (h.below (w' := w.alloc (.cells #[.int .i64 y.k.st, .int .i64 y.k.sy, .int .i64 y.k.id, .int .i64 y.k.sq, .int .i64 y.at_, .int .i64 y.kind, .int .u64 y.ent, .int .i64 y.comp, .slice none 0 0] 67)) (by go_grown)).cell.1
    unfold QD.v at this
    rw [← hn]; exact this
  rw [hn] at c3 hl
  have H := Lib.hid h
  have HN := Lib.hid hn
  have HOWN := Lib.hid hown
  have HNEWS := Lib.hid hnews
  have HD := Lib.hid hd
  have hm1 : n + 1 ≤ maxLen := by unfold maxLen; omega
  have hm2 : (n + 1) * 88 ≤ 140737488355328 := by omega
  have hT := assert_item #[.int .i64 y.k.st, .int .i64 y.k.sy, .int .i64 y.k.id, .int .i64 y.k.sq, .int .i64 y.at_, .int .i64 y.kind, .int .u64 y.ent, .int .i64 y.comp, .slice none 0 0]
  have HC1 := Lib.hid y.c_one
  unfold IT.v
  clear h hn hown hnews hd
  go_enter Tryz.func221, Tryz.ntmps221
  go_wp2_with fail
  go_region_law (first | (refine step_append_lies _ (by rfl) _ _ 60 (by rfl) 0 67 i0 _ 9 88 Tryz.underlying60 hi hz0 hz1 hz2 rfl (by omega) (.slice fa n fc) n (its.flatMap IT.c) (by rfl) HOWN.out ⟨w.heap.size, 0, none⟩ 1 1 y.c (by rfl) (by rfl) HNEWS.out HC1.out (by omega) hm1 hm2 (by simp) (w.heap.size + 1) (by simp) ?_; intro gq cap6 w6 hown6 hg6 hat6 hlt6; obtain ⟨d0, d1⟩ := HD.out _ hg6))
  all_goals
    have hfin := H.out.app (o := .cells #[.int .i64 y.k.st, .int .i64 y.k.sy, .int .i64 y.k.id, .int .i64 y.k.sq, .int .i64 y.at_, .int .i64 y.kind, .int .u64 y.ent, .int .i64 y.comp, .slice none 0 0] 67) (w6 := w6) (q := gq) (cap := cap6) (y := y) (by unfold QD.v; simp only; rw [HN.out]; exact hg6) (by simp only; rw [HN.out]; exact hown6) (by unfold QD.v; simp only; rw [HN.out]; exact hat6)
    simp only [HN.out] at hfin
    have HFIN := Lib.hid hfin
    clear hfin
    go_wp2_with fail
    go_end0
    exact ⟨rfl, _, _, HFIN.out⟩
end Go.Proofs.YtnhlnnehpmjeiaaGreatDoor
namespace Go.Proofs.YtnhlnnehpmjeiaaGreatDoor
open Go.RowKit
set_option linter.unusedVariables false
theorem below_drew1 (W : World) : Below W.heap.size W W.drew := ⟨rfl, rfl, rfl, Nat.le_refl _, fun _ _ => rfl⟩
set_option linter.unusedSimpArgs false
set_option maxRecDepth 100000 in
set_option maxHeartbeats 6000000 in
theorem cqSwap_any (x : QD) (w : World) (h : QMem w x) (i j : Nat) (hi : i < x.its.length) (hj : j < x.its.length) : Calls Tryz.prog 215 #[.slice x.fa x.its.length x.fc, .int .i64 i, .int .i64 j] w fun e w' => e = .returned (.tuple #[]) ∧ QStep x (x.withIts (swapI x.its i j)) w w' := by
  obtain ⟨q, a, hq, hql, ha, hca, hfz, hcap, _⟩ := h.item hi
  obtain ⟨q', b, hq', _, hb0, hcb, hfz2, _, _⟩ := h.item hj
  have : q' = q := by rw [hq] at hq'; cases hq'; rfl
  subst this
  rw [hq]
  have i0 : (0 : Int) ≤ (i : Int) := by omega
  have i1 : (i : Int) < (x.its.length : Int) := by omega
  have j0 : (0 : Int) ≤ (j : Int) := by omega
  have j1 : (j : Int) < (x.its.length : Int) := by omega
  have x0 : w.cell? ⟨q', i * 9, none⟩ = some (.int .i64 a.k.st) := hca 0 _ rfl
  have x1 : w.cell? ⟨q', i * 9 + 1, none⟩ = some (.int .i64 a.k.sy) := hca 1 _ rfl
  have x2 : w.cell? ⟨q', i * 9 + 2, none⟩ = some (.int .i64 a.k.id) := hca 2 _ rfl
  have x3 : w.cell? ⟨q', i * 9 + 3, none⟩ = some (.int .i64 a.k.sq) := hca 3 _ rfl
  have x4 : w.cell? ⟨q', i * 9 + 4, none⟩ = some (.int .i64 a.at_) := hca 4 _ rfl
  have x5 : w.cell? ⟨q', i * 9 + 5, none⟩ = some (.int .i64 a.kind) := hca 5 _ rfl
  have x6 : w.cell? ⟨q', i * 9 + 6, none⟩ = some (.int .u64 a.ent) := hca 6 _ rfl
  have x7 : w.cell? ⟨q', i * 9 + 7, none⟩ = some (.int .i64 a.comp) := hca 7 _ rfl
  have x8 : w.cell? ⟨q', i * 9 + 8, none⟩ = some (.slice none 0 0) := hca 8 _ rfl
  have g0 : w.cell? ⟨q', j * 9, none⟩ = some (.int .i64 b.k.st) := hcb 0 _ rfl
  have g1 : w.cell? ⟨q', j * 9 + 1, none⟩ = some (.int .i64 b.k.sy) := hcb 1 _ rfl
  have g2 : w.cell? ⟨q', j * 9 + 2, none⟩ = some (.int .i64 b.k.id) := hcb 2 _ rfl
  have g3 : w.cell? ⟨q', j * 9 + 3, none⟩ = some (.int .i64 b.k.sq) := hcb 3 _ rfl
  have g4 : w.cell? ⟨q', j * 9 + 4, none⟩ = some (.int .i64 b.at_) := hcb 4 _ rfl
  have g5 : w.cell? ⟨q', j * 9 + 5, none⟩ = some (.int .i64 b.kind) := hcb 5 _ rfl
  have g6 : w.cell? ⟨q', j * 9 + 6, none⟩ = some (.int .u64 b.ent) := hcb 6 _ rfl
  have g7 : w.cell? ⟨q', j * 9 + 7, none⟩ = some (.int .i64 b.comp) := hcb 7 _ rfl
  have g8 : w.cell? ⟨q', j * 9 + 8, none⟩ = some (.slice none 0 0) := hcb 8 _ rfl
  have u0 : w.frozen? ⟨q', i * 9, none⟩ = false := hfz _
  have u1 : w.frozen? ⟨q', i * 9 + 1, none⟩ = false := hfz _
  have u2 : w.frozen? ⟨q', i * 9 + 2, none⟩ = false := hfz _
  have u3 : w.frozen? ⟨q', i * 9 + 3, none⟩ = false := hfz _
  have u4 : w.frozen? ⟨q', i * 9 + 4, none⟩ = false := hfz _
  have u5 : w.frozen? ⟨q', i * 9 + 5, none⟩ = false := hfz _
  have u6 : w.frozen? ⟨q', i * 9 + 6, none⟩ = false := hfz _
  have u7 : w.frozen? ⟨q', i * 9 + 7, none⟩ = false := hfz _
  have u8 : w.frozen? ⟨q', i * 9 + 8, none⟩ = false := hfz _
  have v0 : w.frozen? ⟨q', j * 9, none⟩ = false := hfz _
  have v1 : w.frozen? ⟨q', j * 9 + 1, none⟩ = false := hfz _
  have v2 : w.frozen? ⟨q', j * 9 + 2, none⟩ = false := hfz _
  have v3 : w.frozen? ⟨q', j * 9 + 3, none⟩ = false := hfz _
  have v4 : w.frozen? ⟨q', j * 9 + 4, none⟩ = false := hfz _
  have v5 : w.frozen? ⟨q', j * 9 + 5, none⟩ = false := hfz _
  have v6 : w.frozen? ⟨q', j * 9 + 6, none⟩ = false := hfz _
  have v7 : w.frozen? ⟨q', j * 9 + 7, none⟩ = false := hfz _
  have v8 : w.frozen? ⟨q', j * 9 + 8, none⟩ = false := hfz _
  have hst := h.put hi b hq
  have hj2 : j < (x.its.set i b).length := by simpa using hj
  obtain ⟨q2, y2, hq2, _, hy2, hcs, hfs, _, _⟩ := hst.mem.item (k := j) hj2
  have : q2 = q' := by
    have hq2 : x.fa = some ⟨q2, 0, none⟩ := hq2
    rw [hq] at hq2; cases hq2; rfl
  subst this
  have hy3 : (x.its.set i b)[j]? = some b := by
    rw [List.getElem?_set]
    split
    · simp [hi]
    · exact hb0
  have : y2 = b := Option.some.inj ((show (x.its.set i b)[j]? = some y2 from hy2).symm.trans hy3)
  subst this
  have hst2 := hst.trans (hst.mem.put hj2 a hq)
  have hsw : (x.withIts (x.its.set i y2)).withIts ((x.withIts (x.its.set i y2)).its.set j a) = x.withIts (swapI x.its i j) := by
    rw [swapI_eq ha hb0]; rfl
  rw [hsw] at hst2
  have s0 : (putIt w q2 i y2).cell? ⟨q2, j * 9, none⟩ = some (.int .i64 y2.k.st) := hcs 0 _ rfl
  have r0 : (putIt w q2 i y2).frozen? ⟨q2, j * 9, none⟩ = false := hfs _
  have s1 : (putIt w q2 i y2).cell? ⟨q2, j * 9 + 1, none⟩ = some (.int .i64 y2.k.sy) := hcs 1 _ rfl
  have r1 : (putIt w q2 i y2).frozen? ⟨q2, j * 9 + 1, none⟩ = false := hfs _
  have s2 : (putIt w q2 i y2).cell? ⟨q2, j * 9 + 2, none⟩ = some (.int .i64 y2.k.id) := hcs 2 _ rfl
  have r2 : (putIt w q2 i y2).frozen? ⟨q2, j * 9 + 2, none⟩ = false := hfs _
  have s3 : (putIt w q2 i y2).cell? ⟨q2, j * 9 + 3, none⟩ = some (.int .i64 y2.k.sq) := hcs 3 _ rfl
  have r3 : (putIt w q2 i y2).frozen? ⟨q2, j * 9 + 3, none⟩ = false := hfs _
  have s4 : (putIt w q2 i y2).cell? ⟨q2, j * 9 + 4, none⟩ = some (.int .i64 y2.at_) := hcs 4 _ rfl
  have r4 : (putIt w q2 i y2).frozen? ⟨q2, j * 9 + 4, none⟩ = false := hfs _
  have s5 : (putIt w q2 i y2).cell? ⟨q2, j * 9 + 5, none⟩ = some (.int .i64 y2.kind) := hcs 5 _ rfl
  have r5 : (putIt w q2 i y2).frozen? ⟨q2, j * 9 + 5, none⟩ = false := hfs _
  have s6 : (putIt w q2 i y2).cell? ⟨q2, j * 9 + 6, none⟩ = some (.int .u64 y2.ent) := hcs 6 _ rfl
  have r6 : (putIt w q2 i y2).frozen? ⟨q2, j * 9 + 6, none⟩ = false := hfs _
  have s7 : (putIt w q2 i y2).cell? ⟨q2, j * 9 + 7, none⟩ = some (.int .i64 y2.comp) := hcs 7 _ rfl
  have r7 : (putIt w q2 i y2).frozen? ⟨q2, j * 9 + 7, none⟩ = false := hfs _
  have s8 : (putIt w q2 i y2).cell? ⟨q2, j * 9 + 8, none⟩ = some (.slice none 0 0) := hcs 8 _ rfl
  have r8 : (putIt w q2 i y2).frozen? ⟨q2, j * 9 + 8, none⟩ = false := hfs _
  unfold putIt at s0 s1 s2 s3 s4 s5 s6 s7 s8 r0 r1 r2 r3 r4 r5 r6 r7 r8
  have HST := Lib.hid hst2
  clear h hq hq' ha hb0 hca hcb hfz hfz2 hi hj hst hj2 hq2 hy2 hcs hfs hy3 hst2 hsw
  go_enter Tryz.func215, Tryz.ntmps215
  go_wp2_with fail
  go_region
  all_goals
    go_wp2_with fail
    go_end0
    unfold putIt at HST
    exact ⟨rfl, HST.out.below (below_drew1 _)⟩
end Go.Proofs.YtnhlnnehpmjeiaaGreatDoor
namespace Go.Proofs.YtnhlnnehpmjeiaaGreatDoor
open Go.RowKit
set_option linter.unusedVariables false
theorem load_cqueue (a : Addr) (w : World) (v : Value) (h : w.cell? a = some v) : (loadVar 60 a).run Tryz.prog w = .ok v w := by
  have e : (loadVar 60 a).run Tryz.prog w = (load a).run Tryz.prog w := by kernel_rfl
  rw [e, run_load, h]
theorem cmethod_len (a : Addr) (w : World) (v : Value) (h : w.cell? a = some v) : (method 411 65 (.pointer (some a)) "Len").run Tryz.prog w = .ok (42, v) w := by
  have e : (method 411 65 (.pointer (some a)) "Len").run Tryz.prog w = (do pure (42, ← loadVar 60 a) : Sem (FuncId × Value)).run Tryz.prog w := by kernel_rfl
  rw [e]
  simp [load_cqueue a w v h]
theorem cmethod_less (a : Addr) (w : World) (v : Value) (h : w.cell? a = some v) : (method 411 65 (.pointer (some a)) "Less").run Tryz.prog w = .ok (214, v) w := by
  have e : (method 411 65 (.pointer (some a)) "Less").run Tryz.prog w = (do pure (214, ← loadVar 60 a) : Sem (FuncId × Value)).run Tryz.prog w := by kernel_rfl
  rw [e]
  simp [load_cqueue a w v h]
theorem cmethod_swap (a : Addr) (w : World) (v : Value) (h : w.cell? a = some v) : (method 411 65 (.pointer (some a)) "Swap").run Tryz.prog w = .ok (215, v) w := by
  have e : (method 411 65 (.pointer (some a)) "Swap").run Tryz.prog w = (do pure (215, ← loadVar 60 a) : Sem (FuncId × Value)).run Tryz.prog w := by kernel_rfl
  rw [e]
  simp [load_cqueue a w v h]
theorem cmethod_pop (a : Addr) (w : World) : (method 411 65 (.pointer (some a)) "Pop").run Tryz.prog w = .ok (220, .pointer (some a)) w := by kernel_rfl
theorem cmethod_push (a : Addr) (w : World) : (method 411 65 (.pointer (some a)) "Push").run Tryz.prog w = .ok (221, .pointer (some a)) w := by kernel_rfl
theorem cqLess_i (x : QD) (w : World) (h : QMem w x) (i j : Int) (a b : Nat) (hi : i = a) (hj : j = b) (ha : a < x.its.length) (hb : b < x.its.length) (hwf : ∀ y ∈ x.its, y.wf) : Calls Tryz.prog 214 #[.slice x.fa x.its.length x.fc, .int .i64 i, .int .i64 j] w fun e w' => e = .returned (.bool (decide (atR x.its a < atR x.its b))) ∧ Below w.heap.size w w' := by
  subst hi; subst hj
  exact cqLess_any x w h a b ha hb hwf
theorem cqSwap_i (x : QD) (w : World) (h : QMem w x) (i j : Int) (a b : Nat) (hi : i = a) (hj : j = b) (ha : a < x.its.length) (hb : b < x.its.length) : Calls Tryz.prog 215 #[.slice x.fa x.its.length x.fc, .int .i64 i, .int .i64 j] w fun e w' => e = .returned (.tuple #[]) ∧ QStep x (x.withIts (swapI x.its a b)) w w' := by
  subst hi; subst hj
  exact cqSwap_any x w h a b ha hb
set_option maxRecDepth 100000 in
set_option maxHeartbeats 2000000 in
/-- heap.down: from a heap but for i's children to a heap. -/
theorem cDown_any (x : QD) (w : World) (h : QMem w x) (m : Nat) (hm : m ≤ x.its.length) (hl : x.its.length ≤ 300) (hwf : ∀ y ∈ x.its, y.wf) (hd : DownI x.its m 0) : Calls Tryz.prog 60 #[.iface 65 (.pointer (some ⟨x.pb, x.po, none⟩)), .int .i64 (0 : Int), .int .i64 (m : Int)] w fun e w' => (∃ b, e = .returned (.bool b)) ∧ ∃ l, QStep x (x.withIts l) w w' ∧ l.Perm x.its ∧ (∀ k, m ≤ k → l[k]? = x.its[k]?) ∧ HeapI l m := by
  have H := Lib.hid h
  have HD := Lib.hid hd
  have HW := Lib.hid hwf
  clear h hd hwf
  go_enter Tryz.func60, Tryz.ntmps60
  go_wp2_with fail
  go_loopw [7] (fun i wr => ∃ (k : Nat) (l : List IT), i = .int .i64 (k : Int) ∧ k ≤ m ∧ QStep x (x.withIts l) w wr ∧ l.Perm x.its ∧ (∀ j, m ≤ j → l[j]? = x.its[j]?) ∧ DownI l m k) (fun i _ => m - (intOf i).toNat)
  case atStart => exact ⟨0, x.its, rfl, Nat.zero_le _, QStep.refl H.out, .refl _, fun _ _ => rfl, HD.out⟩
  case round =>
    obtain ⟨k, l, rfl, hk, hst, hp, heq, hdn⟩ := hrel
    have hll : l.length = x.its.length := hp.length_eq
    have HWF : Hid (∀ y ∈ l, y.wf) := Lib.hid fun y hy => HW.out y (hp.mem_iff.1 hy)
    obtain ⟨c3, _⟩ := hst.mem.cell
    have c3 : wr.cell? ⟨x.pb, x.po, none⟩ = some (.slice x.fa l.length x.fc) := c3
    have HST := Lib.hid hst
    have HP := Lib.hid hp
    have HEQ := Lib.hid heq
    have HDN := Lib.hid hdn
    have HLL := Lib.hid hll
    have hll1 : l.length ≤ 300 := by omega
    have hml : m ≤ l.length := by omega
    clear hst hp heq hdn hll
    by_cases h1 : m ≤ 2 * k + 1
    · have HF : Hid (HeapI l m) := Lib.hid (HDN.out.leaf h1)
      have g1 : decide ((m : Int) ≤ 2 * (k : Int) + 1) = true := by simp; omega
      go_wp2_with fail
      go_returns
      exact ⟨⟨_, rfl⟩, l, HST.out, HP.out, HEQ.out, HF.out⟩
    · have g1 : decide ((m : Int) ≤ 2 * (k : Int) + 1) = false := by simp; omega
      have g2 : decide (2 * (k : Int) + 1 < 0) = false := by simp; omega
      have hM := cmethod_less ⟨x.pb, x.po, none⟩ wr _ c3
      by_cases h3 : 2 * k + 2 < m
      · have g3 : decide (2 * (k : Int) + 1 + 1 < (m : Int)) = true := by simp; omega
        go_wp2_with fail
        refine (cqLess_i (x.withIts l) wr HST.out.mem (2 * (k : Int) + 1 + 1) (2 * (k : Int) + 1) (2 * k + 2) (2 * k + 1) (by omega) (by omega) (by show _ < l.length; omega) (by show _ < l.length; omega) HWF.out).mono ?_
        rintro e w1 ⟨rfl, hb1⟩
        have hst1 := HST.out.below hb1
        generalize w1 = W1 at hst1 ⊢
        clear HST c3 hM
        by_cases h4 : atR l (2 * k + 2) < atR l (2 * k + 1)
        · have g4 : decide (atR (x.withIts l).its (2 * k + 2) < atR (x.withIts l).its (2 * k + 1)) = true := decide_eq_true h4
          have HLEAST : Hid (∀ j, 1 ≤ j → j < m → (j - 1) / 2 = k → atR l (2 * k + 2) ≤ atR l j) := Lib.hid fun j h1 h2 h3 => by
            rcases (show j = 2 * k + 1 ∨ j = 2 * k + 2 by omega) with rfl | rfl <;> omega
          have hmem1 := hst1.mem
          have hlf : (x.withIts l).its.length = x.its.length := HLL.out
          obtain ⟨c31, _⟩ := hmem1.cell
          have c31 : W1.cell? ⟨x.pb, x.po, none⟩ = some (.slice x.fa l.length x.fc) := c31
          have hM1 := cmethod_less ⟨x.pb, x.po, none⟩ W1 _ c31
          have HST1 := Lib.hid hst1
          clear hst1
          go_wp2_with fail
          refine (cqLess_i (x.withIts l) W1 hmem1 (2 * (k : Int) + 1 + 1) k (2 * k + 2) k (by omega) rfl (by show _ < l.length; omega) (by show _ < l.length; omega) HWF.out).mono ?_
          rintro e w2 ⟨rfl, hb2⟩
          have hst2 := HST1.out.below hb2
          generalize w2 = W2 at hst2 ⊢
          clear HST1 hmem1 c31 hM1
          by_cases h5 : atR l (2 * k + 2) < atR l k
          · have g5 : decide (atR (x.withIts l).its (2 * k + 2) < atR (x.withIts l).its k) = true := decide_eq_true h5
            have HSTEP := Lib.hid (HDN.out.step (j := 2 * k + 2) hml (by omega) (by omega) (by omega) h5 HLEAST.out)
            have hmem2 := hst2.mem
            obtain ⟨c32, _⟩ := hmem2.cell
            have c32 : W2.cell? ⟨x.pb, x.po, none⟩ = some (.slice x.fa l.length x.fc) := c32
            have hM2 := cmethod_swap ⟨x.pb, x.po, none⟩ W2 _ c32
            have HST2 := Lib.hid hst2
            clear hst2
            go_wp2_with fail
            refine (cqSwap_i (x.withIts l) W2 hmem2 k (2 * (k : Int) + 1 + 1) k (2 * k + 2) rfl (by omega) (by show _ < l.length; omega) (by show _ < l.length; omega)).mono ?_
            rintro e w3 ⟨rfl, hst3⟩
            have hst3 : QStep x (x.withIts (swapI l k (2 * k + 2))) w w3 := HST2.out.trans hst3
            have HST3 := Lib.hid hst3
            have hpp : (swapI l k (2 * k + 2)).Perm x.its := (swapI_perm (by omega) (by omega)).trans HP.out
            have HPP := Lib.hid hpp
            have heqq : ∀ j, m ≤ j → (swapI l k (2 * k + 2))[j]? = x.its[j]? := fun j hj => by
              rw [swapI_other (by omega) (by omega) (by omega) (by omega)]
              exact HEQ.out j hj
            have HEQQ := Lib.hid heqq
            clear hst3 hpp heqq HST2 hmem2 c32 hM2
            go_wp2_with fail
            go_roundw
            case rel => exact ⟨2 * k + 2, _, by go_num, by omega, HST3.out, HPP.out, HEQQ.out, HSTEP.out⟩
            case measure => simp [intOf]; omega
          · have g5 : decide (atR (x.withIts l).its (2 * k + 2) < atR (x.withIts l).its k) = false := decide_eq_false h5
            have HF := Lib.hid (HDN.out.stop (j := 2 * k + 2) (by omega) HLEAST.out)
            have HST2 := Lib.hid hst2
            clear hst2
            go_wp2_with fail
            go_returns
            exact ⟨⟨_, rfl⟩, l, HST2.out, HP.out, HEQ.out, HF.out⟩
        · have g4 : decide (atR (x.withIts l).its (2 * k + 2) < atR (x.withIts l).its (2 * k + 1)) = false := decide_eq_false h4
          have HLEAST : Hid (∀ j, 1 ≤ j → j < m → (j - 1) / 2 = k → atR l (2 * k + 1) ≤ atR l j) := Lib.hid fun j h1 h2 h3 => by
            rcases (show j = 2 * k + 1 ∨ j = 2 * k + 2 by omega) with rfl | rfl <;> omega
          have hmem1 := hst1.mem
          have hlf : (x.withIts l).its.length = x.its.length := HLL.out
          obtain ⟨c31, _⟩ := hmem1.cell
          have c31 : W1.cell? ⟨x.pb, x.po, none⟩ = some (.slice x.fa l.length x.fc) := c31
          have hM1 := cmethod_less ⟨x.pb, x.po, none⟩ W1 _ c31
          have HST1 := Lib.hid hst1
          clear hst1
          go_wp2_with fail
          refine (cqLess_i (x.withIts l) W1 hmem1 (2 * (k : Int) + 1) k (2 * k + 1) k (by omega) rfl (by show _ < l.length; omega) (by show _ < l.length; omega) HWF.out).mono ?_
          rintro e w2 ⟨rfl, hb2⟩
          have hst2 := HST1.out.below hb2
          generalize w2 = W2 at hst2 ⊢
          clear HST1 hmem1 c31 hM1
          by_cases h5 : atR l (2 * k + 1) < atR l k
          · have g5 : decide (atR (x.withIts l).its (2 * k + 1) < atR (x.withIts l).its k) = true := decide_eq_true h5
            have HSTEP := Lib.hid (HDN.out.step (j := 2 * k + 1) hml (by omega) (by omega) (by omega) h5 HLEAST.out)
            have hmem2 := hst2.mem
            obtain ⟨c32, _⟩ := hmem2.cell
            have c32 : W2.cell? ⟨x.pb, x.po, none⟩ = some (.slice x.fa l.length x.fc) := c32
            have hM2 := cmethod_swap ⟨x.pb, x.po, none⟩ W2 _ c32
            have HST2 := Lib.hid hst2
            clear hst2
            go_wp2_with fail
            refine (cqSwap_i (x.withIts l) W2 hmem2 k (2 * (k : Int) + 1) k (2 * k + 1) rfl (by omega) (by show _ < l.length; omega) (by show _ < l.length; omega)).mono ?_
            rintro e w3 ⟨rfl, hst3⟩
            have hst3 : QStep x (x.withIts (swapI l k (2 * k + 1))) w w3 := HST2.out.trans hst3
            have HST3 := Lib.hid hst3
            have hpp : (swapI l k (2 * k + 1)).Perm x.its := (swapI_perm (by omega) (by omega)).trans HP.out
            have HPP := Lib.hid hpp
            have heqq : ∀ j, m ≤ j → (swapI l k (2 * k + 1))[j]? = x.its[j]? := fun j hj => by
              rw [swapI_other (by omega) (by omega) (by omega) (by omega)]
              exact HEQ.out j hj
            have HEQQ := Lib.hid heqq
            clear hst3 hpp heqq HST2 hmem2 c32 hM2
            go_wp2_with fail
            go_roundw
            case rel => exact ⟨2 * k + 1, _, by go_num, by omega, HST3.out, HPP.out, HEQQ.out, HSTEP.out⟩
            case measure => simp [intOf]; omega
          · have g5 : decide (atR (x.withIts l).its (2 * k + 1) < atR (x.withIts l).its k) = false := decide_eq_false h5
            have HF := Lib.hid (HDN.out.stop (j := 2 * k + 1) (by omega) HLEAST.out)
            have HST2 := Lib.hid hst2
            clear hst2
            go_wp2_with fail
            go_returns
            exact ⟨⟨_, rfl⟩, l, HST2.out, HP.out, HEQ.out, HF.out⟩
      · have g3 : decide (2 * (k : Int) + 1 + 1 < (m : Int)) = false := by simp; omega
        have HLEAST : Hid (∀ j, 1 ≤ j → j < m → (j - 1) / 2 = k → atR l (2 * k + 1) ≤ atR l j) := Lib.hid fun j h1 h2 h3 => by
          obtain rfl : j = 2 * k + 1 := by omega
          exact Int.le_refl _
        have hst1 := HST.out
        generalize wr = W1 at *
        clear HST c3 hM
        have hmem1 := hst1.mem
        have hlf : (x.withIts l).its.length = x.its.length := HLL.out
        obtain ⟨c31, _⟩ := hmem1.cell
        have c31 : W1.cell? ⟨x.pb, x.po, none⟩ = some (.slice x.fa l.length x.fc) := c31
        have hM1 := cmethod_less ⟨x.pb, x.po, none⟩ W1 _ c31
        have HST1 := Lib.hid hst1
        clear hst1
        go_wp2_with fail
        refine (cqLess_i (x.withIts l) W1 hmem1 (2 * (k : Int) + 1) k (2 * k + 1) k (by omega) rfl (by show _ < l.length; omega) (by show _ < l.length; omega) HWF.out).mono ?_
        rintro e w2 ⟨rfl, hb2⟩
        have hst2 := HST1.out.below hb2
        generalize w2 = W2 at hst2 ⊢
        clear HST1 hmem1 c31 hM1
        by_cases h5 : atR l (2 * k + 1) < atR l k
        · have g5 : decide (atR (x.withIts l).its (2 * k + 1) < atR (x.withIts l).its k) = true := decide_eq_true h5
          have HSTEP := Lib.hid (HDN.out.step (j := 2 * k + 1) hml (by omega) (by omega) (by omega) h5 HLEAST.out)
          have hmem2 := hst2.mem
          obtain ⟨c32, _⟩ := hmem2.cell
          have c32 : W2.cell? ⟨x.pb, x.po, none⟩ = some (.slice x.fa l.length x.fc) := c32
          have hM2 := cmethod_swap ⟨x.pb, x.po, none⟩ W2 _ c32
          have HST2 := Lib.hid hst2
          clear hst2
          go_wp2_with fail
          refine (cqSwap_i (x.withIts l) W2 hmem2 k (2 * (k : Int) + 1) k (2 * k + 1) rfl (by omega) (by show _ < l.length; omega) (by show _ < l.length; omega)).mono ?_
          rintro e w3 ⟨rfl, hst3⟩
          have hst3 : QStep x (x.withIts (swapI l k (2 * k + 1))) w w3 := HST2.out.trans hst3
          have HST3 := Lib.hid hst3
          have hpp : (swapI l k (2 * k + 1)).Perm x.its := (swapI_perm (by omega) (by omega)).trans HP.out
          have HPP := Lib.hid hpp
          have heqq : ∀ j, m ≤ j → (swapI l k (2 * k + 1))[j]? = x.its[j]? := fun j hj => by
            rw [swapI_other (by omega) (by omega) (by omega) (by omega)]
            exact HEQ.out j hj
          have HEQQ := Lib.hid heqq
          clear hst3 hpp heqq HST2 hmem2 c32 hM2
          go_wp2_with fail
          go_roundw
          case rel => exact ⟨2 * k + 1, _, by go_num, by omega, HST3.out, HPP.out, HEQQ.out, HSTEP.out⟩
          case measure => simp [intOf]; omega
        · have g5 : decide (atR (x.withIts l).its (2 * k + 1) < atR (x.withIts l).its k) = false := decide_eq_false h5
          have HF := Lib.hid (HDN.out.stop (j := 2 * k + 1) (by omega) HLEAST.out)
          have HST2 := Lib.hid hst2
          clear hst2
          go_wp2_with fail
          go_returns
          exact ⟨⟨_, rfl⟩, l, HST2.out, HP.out, HEQ.out, HF.out⟩
end Go.Proofs.YtnhlnnehpmjeiaaGreatDoor
