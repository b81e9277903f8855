/- slices.DeleteFunc with the closure of query.Rows. · world.Schema, world.Match. -/
import Derived.Test.YtgebbmfoamkfnaaGreatDoorP32
import Derived.Test.YtgebbmfoamkfnaaGreatDoorP37
import Derived.Test.YtgebbmfoamkfnaaGreatDoorP36
namespace Go.Proofs.YtgebbmfoamkfnaaGreatDoor
open Go.RowKit
set_option linter.unusedVariables false
/-- Rows' closure; block b holds the query. -/
def rqClo (b : Nat) : Value := .func (.func 59) #[] #[.pointer (some ⟨b, 0, none⟩)]
section
variable {w w' : World}
set_option maxRecDepth 100000 in
theorem rqClo_any (b : Nat) (al : Int) (w : World) (al0 : 0 ≤ al) (al1 : al ≤ 4294967295) (hb : w.cell? ⟨b, 0, none⟩ = some (.int .u32 al)) (x : Int) (va : Option Addr) (vl vc : Nat) : Calls Tryz.prog 59 #[.agg #[.int .i64 x, .slice va vl vc], .pointer (some ⟨b, 0, none⟩)] w fun e w' => e = .returned (.bool (!hasB al x)) ∧ Below w.heap.size w w' := by
  have hn := World.new_ne w _ hb
  have hlt := World.block_lt_of_cell? w _ hb
  have HH := fun W => has_any al x W al0 al1
  obtain ⟨r, hr⟩ : ∃ r, hasB al x = r := ⟨_, rfl⟩
  simp only [hr] at HH ⊢
  go_enter Tryz.func59, Tryz.ntmps59
  go_wp2_with fail
  refine (HH _).mono ?_
  rintro e w2 ⟨rfl, rfl⟩
  go_wp2_with fail
  go_ret
  exact ⟨rfl, by go_grown⟩
set_option maxRecDepth 100000 in
set_option maxHeartbeats 1000000 in
theorem idxQ_any (b : Nat) (al : Int) (al0 : 0 ≤ al) (al1 : al ≤ 4294967295) (pa : Option Addr) (n pc : Nat) (ps : List PW) (w : World) (hcs : PartsAt w.heap.size w pa n pc ps) (hb : w.cell? ⟨b, 0, none⟩ = some (.int .u32 al)) (hn : n ≤ 100000) :
    Calls Tryz.prog 98 #[.slice pa n pc, rqClo b] w fun e w' => Below w.heap.size w w' ∧ ((e = .returned (.int .i64 (-1)) ∧ ∀ p ∈ ps, hasB al p.comp = true) ∨ ∃ (k : Nat) (p : PW), e = .returned (.int .i64 (k : Int)) ∧ ps[k]? = some p ∧ hasB al p.comp = false ∧ ∀ q ∈ ps.take k, hasB al q.comp = true) := by
  obtain ⟨h1, h2, h3, _, h5⟩ := hcs
  have hlt := World.block_lt_of_cell? w _ hb
  have HH := Lib.hid h5
  have HB := Lib.hid hb
  have HL := Lib.hid h1
  clear h1 h5 hb
  unfold rqClo
  go_enter Tryz.func98, Tryz.ntmps98
  go_wp2_with fail
  go_loopw [8] (fun j wr => ∃ m : Nat, m ≤ n ∧ j = .int .i64 (m : Int) ∧ (∀ q ∈ ps.take m, hasB al q.comp = true) ∧ Below w.heap.size w wr) (fun j _ => n - (intOf j).toNat)
  case atStart => exact ⟨0, by omega, rfl, by simp, Below.refl _ _⟩
  case round =>
    obtain ⟨m, hm, rfl, hall, hbr⟩ := hrel
    by_cases hml : m < n
    · rcases HH.out with h0 | ⟨q, off, rfl, hq, hcell⟩
      · omega
      obtain ⟨x, hx⟩ : ∃ x, ps[m]? = some x := ⟨_, List.getElem?_eq_getElem (by rw [HL.out]; exact hml)⟩
      obtain ⟨z0, z1⟩ := hcell m x hx
      have y0 := (World.cell?_of_block (a := ⟨q, off + m * 2, none⟩) (hbr.block _ hq)).trans z0
      have y1 := (World.cell?_of_block (a := ⟨q, off + m * 2 + 1, none⟩) (hbr.block _ hq)).trans z1
      have i1 : (0 : Int) ≤ (m : Int) := by omega
      have i2 : (m : Int) < (n : Int) := by omega
      have HBR := Lib.hid hbr
      have HALL := Lib.hid hall
      have HX := Lib.hid hx
      have HTK := Lib.hid (take_snoc hx)
      have HCL := Lib.hid (rqClo_any b al wr al0 al1 ((World.cell?_of_block (a := ⟨b, 0, none⟩) (hbr.block _ hlt)).trans HB.out) x.comp x.va x.vl x.vc)
      obtain ⟨r, hr⟩ : ∃ r, hasB al x.comp = r := ⟨_, rfl⟩
      rw [hr] at HCL
      have HR := Lib.hid hr
      clear z0 z1 hx hbr hcell hr hall
      cases r
      · go_wp2_with fail
        refine HCL.out.mono ?_
        rintro e w2 ⟨rfl, hb2⟩
        have HF2 := Lib.hid (HBR.out.trans (hb2.mono HBR.out.size))
        clear hb2
        go_wp2_with fail
        go_ret
        exact ⟨HF2.out, .inr ⟨m, x, rfl, HX.out, HR.out, HALL.out⟩⟩
      · go_wp2_with fail
        refine HCL.out.mono ?_
        rintro e w2 ⟨rfl, hb2⟩
        have HF2 := Lib.hid (HBR.out.trans (hb2.mono HBR.out.size))
        clear hb2
        go_wp2_with fail
        go_roundw
        case rel => exact ⟨m + 1, by omega, by go_num, by
          rw [HTK.out]
          intro q hq
          rcases List.mem_append.1 hq with hq | hq
          · exact HALL.out q hq
          · rw [List.mem_singleton.1 hq]; exact HR.out, HF2.out⟩
        case measure => simp [intOf]; omega
    · obtain rfl : m = n := by omega
      have hfull : ps.take m = ps := by rw [← HL.out, List.take_length]
      rw [hfull] at hall
      have HALL := Lib.hid hall
      have HBR := Lib.hid hbr
      clear hall hbr hfull
      go_wp2_with fail
      go_ret
      exact ⟨HBR.out, .inl ⟨rfl, HALL.out⟩⟩
theorem owns_setCells {B q n c s : Nat} {e : TypeId} : ∀ (vs : List Value) (o : Nat) (xs : List Value) (w : World), w.ownsRow B e s (.slice (some ⟨q, 0, none⟩) n c) n xs → ∃ ys, (w.setCells q o vs).ownsRow B e s (.slice (some ⟨q, 0, none⟩) n c) n ys ∧ ys.take o = xs.take o ∧ Out (fun b => b = q) w (w.setCells q o vs)
  | [], o, xs, w, h => ⟨xs, h, rfl, Out.refl _ _⟩
  | v :: r, o, xs, w, h => by
    obtain ⟨h1, g1⟩ := h.stored o v
    obtain ⟨ys, h2, h3, h4⟩ := owns_setCells r (o + 1) _ _ h1
    refine ⟨ys, h2, ?_, (Out.only (F := fun b => b = q) (Only.at w q o v) rfl).trans h4 (fun _ => .inl)⟩
    have h5 := congrArg (List.take o) h3
    rw [List.take_take, List.take_take, Nat.min_eq_left (Nat.le_succ o)] at h5
    rw [h5]
    exact List.take_set_of_le (Nat.le_refl _)
def zpL (m : Nat) : List Value := (Builtin.zeroCells (Value.agg #[.int .i64 0, .slice none 0 0]).cells m).toList
theorem zpL_len (m : Nat) : (zpL m).length = m * 2 := by
  unfold zpL Builtin.zeroCells
  simp [Value.cells]
theorem zpL_one (m : Nat) : ∀ v ∈ zpL m, v.oneCell' = true := by
  intro v hv
  unfold zpL Builtin.zeroCells at hv
  simp [Value.cells] at hv
  obtain ⟨i, _, rfl⟩ := hv
  rcases (by omega : i % 2 = 0 ∨ i % 2 = 1) with h | h <;> simp [h] <;> rfl
theorem run_clearParts (q o m c : Nat) (hm : 0 < m) (W : World) (h : ∀ j, j < m * 2 → (W.cell? ⟨q, o + j, none⟩).isSome = true) (f : ∀ j, j < m * 2 → W.frozen? ⟨q, o + j, none⟩ = false) (ty : TypeId) :
    (Builtin.clear_ #[48] ty #[.slice (some ⟨q, o, none⟩) m c]).run Tryz.prog W = .ok (.tuple #[]) (W.setCells q o (zpL m)) := by
  have hst := run_storeCells_cells (P := Tryz.prog) q o (zpL m) 0 W (by rw [zpL_len]; simpa using h) (by rw [zpL_len]; simpa using f) (zpL_one m)
  simp only [Nat.add_zero] at hst
  obtain ⟨k, rfl⟩ : ∃ k, m = k + 1 := ⟨m - 1, by omega⟩
  have hz : (Builtin.zeroCells (Value.agg #[.int .i64 0, .slice none 0 0]).cells (k + 1)).toList = zpL (k + 1) := rfl
  simp [Builtin.clear_, run_underlying Tryz.underlying48, Tryz.zeroPart W, hz, hst]
/-- Rows of parts while some go: those that stay come first. -/
def Moved (al : Int) (ps R : List PW) (i j : Nat) : Prop := R.length = ps.length ∧ i < j ∧ R.take i = (ps.take j).filter (fun p => hasB al p.comp) ∧ R.drop j = ps.drop j
theorem Moved.start {al : Int} {ps : List PW} {k : Nat} {p : PW} (hk : ps[k]? = some p) (hp : hasB al p.comp = false) (hall : ∀ q ∈ ps.take k, hasB al q.comp = true) : Moved al ps ps k (k + 1) := by
  refine ⟨rfl, Nat.lt_succ_self _, ?_, rfl⟩
  rw [take_snoc hk, List.filter_append, List.filter_eq_self.2 hall]
  simp [hp]
theorem Moved.at {al : Int} {ps R : List PW} {i j : Nat} {x : PW} (h : Moved al ps R i j) (hx : ps[j]? = some x) : R[j]? = some x := by
  have h1 := congrArg (·[0]?) h.2.2.2
  simp only [List.getElem?_drop, Nat.add_zero] at h1
  rw [h1, hx]
theorem Moved.skip {al : Int} {ps R : List PW} {i j : Nat} {x : PW} (h : Moved al ps R i j) (hx : ps[j]? = some x) (hn : hasB al x.comp = false) : Moved al ps R i (j + 1) := by
  refine ⟨h.1, Nat.lt_succ_of_lt h.2.1, ?_, ?_⟩
  · rw [h.2.2.1, take_snoc hx, List.filter_append]
    simp [hn]
  · have h1 := congrArg (List.drop 1) h.2.2.2
    rw [List.drop_drop, List.drop_drop] at h1
    exact h1
theorem Moved.move {al : Int} {ps R : List PW} {i j : Nat} {x : PW} (h : Moved al ps R i j) (hx : ps[j]? = some x) (hn : hasB al x.comp = true) : Moved al ps (R.set i x) (i + 1) (j + 1) := by
  have hj : j < ps.length := (List.getElem?_eq_some_iff.1 hx).1
  have hi : i < R.length := by rw [h.1]; have := h.2.1; omega
  refine ⟨by rw [List.length_set]; exact h.1, Nat.succ_lt_succ h.2.1, ?_, ?_⟩
  · rw [take_snoc (x := x) (by rw [List.getElem?_set_self hi]), List.take_set_of_le (Nat.le_refl _), h.2.2.1, take_snoc hx, List.filter_append]
    simp [hn]
  · rw [List.drop_set_of_lt (Nat.lt_succ_of_lt h.2.1)]
    have h1 := congrArg (List.drop 1) h.2.2.2
    rw [List.drop_drop, List.drop_drop] at h1
    exact h1
set_option maxRecDepth 100000 in
set_option maxHeartbeats 4000000 in
theorem delQ_any (B b : Nat) (al : Int) (al0 : 0 ≤ al) (al1 : al ≤ 4294967295) (pa : Option Addr) (n pc : Nat) (ps : List PW) (w : World) (hpo : PO B w pa n pc ps) (hbB : b < B) (hB : B ≤ w.heap.size) (hb : w.cell? ⟨b, 0, none⟩ = some (.int .u32 al)) (hn : n ≤ 100000) :
    Calls Tryz.prog 58 #[.slice pa n pc, rqClo b] w fun e w' => ∃ m, e = .returned (.slice pa m pc) ∧ PO B w' pa m pc (ps.filter fun p => hasB al p.comp) ∧ m ≤ n ∧ Below B w w' := by
  have hlen := hpo.len
  have HIX := Lib.hid (idxQ_any b al al0 al1 pa n pc ps w hpo.at hb hn)
  obtain ⟨hnc, hcm⟩ := own_max hpo.row
  have hmx : maxLen = 9223372036854775807 := rfl
  have HPO := Lib.hid hpo
  have HB := Lib.hid hb
  have HLN := Lib.hid hlen
  clear hpo hb hlen
  unfold rqClo at HIX ⊢
  go_enter Tryz.func58, Tryz.ntmps58
  go_wp2_with fail
  refine HIX.out.mono ?_
  rintro e w1 ⟨hb1, hor⟩
  have HB1x := Lib.hid hb1
  have HP1 := Lib.hid (HPO.out.below hb1)
  clear hb1 HIX
  rcases hor with ⟨rfl, hall⟩ | ⟨k, p, rfl, hk, hp, hall⟩
  · have HALL := Lib.hid hall
    clear hall
    go_wp2_with fail
    go_ret
    refine ⟨n, rfl, ?_, Nat.le_refl _, HB1x.out.mono hB⟩
    rw [List.filter_eq_self.2 HALL.out]
    exact HP1.out
  have hkn : k < n := by rw [← HLN.out]; exact (List.getElem?_eq_some_iff.1 hk).1
  have HM := Lib.hid (Moved.start hk hp hall)
  obtain ⟨q, hpa, hBq, hql, _⟩ := row_block HPO.out.row (by omega)
  subst hpa
  have hk1 : ((k : Int) == -1) = false := by simp
  clear hk hp hall
  go_wp2_with fail
  go_loopw [5, 6] (fun i j wr => ∃ (m J : Nat) (R : List PW), Moved al ps R m J ∧ J ≤ n ∧ i = .int .i64 (m : Int) ∧ j = .int .i64 (J : Int) ∧ wr.ownsRow B 85 2 (.slice (some ⟨q, 0, none⟩) n pc) n (R.flatMap partL) ∧ Out (fun x => x = q) w wr) (fun _ j _ => n + 1 - (intOf j).toNat)
  case atStart => exact ⟨k, k + 1, ps, HM.out, hkn, by go_num, by go_num, HP1.out.row, Out.of HB1x.out⟩
  case round =>
    obtain ⟨m, J, R, hmv, hJn, rfl, rfl, hrow, hout⟩ := hrel
    have hmJ := hmv.2.1
    have hRl : R.length = n := by rw [hmv.1, HLN.out]
    have hBw := hout.below (B := B) (fun x hx => by rw [hx]; exact hBq) hB
    have hBr : B ≤ wr.heap.size := Nat.le_trans hB hout.size
    obtain ⟨q', hq', _, hqr, hqc⟩ := row_block hrow (by omega)
    obtain rfl : q = q' := by cases hq'; rfl
    clear hq'
    by_cases hJ : J < n
    · obtain ⟨x, hx⟩ : ∃ x, ps[J]? = some x := ⟨_, List.getElem?_eq_getElem (by rw [HLN.out]; exact hJ)⟩
      obtain ⟨g0, g1⟩ := partL_at _ _ _ (hmv.at hx)
      have z0 := hqc _ _ g0
      have z1 := hqc _ _ g1
      obtain ⟨y, hy⟩ : ∃ y, R[m]? = some y := ⟨_, List.getElem?_eq_getElem (by omega)⟩
      have i1 : (0 : Int) ≤ (J : Int) := by omega
      have i2 : (J : Int) < (n : Int) := by omega
      have i3 : (0 : Int) ≤ (m : Int) := by omega
      have i4 : (m : Int) < (n : Int) := by omega
      have hbA : Below B wr (wr.alloc (.cells #[.int .i64 x.comp, .slice x.va x.vl x.vc] 85)) := (Below.refl _ wr).alloc hBr _
      have hcb : (wr.alloc (.cells #[.int .i64 x.comp, .slice x.va x.vl x.vc] 85)).cell? ⟨b, 0, none⟩ = some (.int .u32 al) := (World.cell?_of_block (a := ⟨b, 0, none⟩) ((hBw.trans hbA).block _ hbB)).trans HB.out
      have hcl := rqClo_any b al _ al0 al1 hcb x.comp x.va x.vl x.vc
      obtain ⟨r, hr⟩ : ∃ r, hasB al x.comp = r := ⟨_, rfl⟩
      rw [hr] at hcl
      have HR := Lib.hid hr
      have HX := Lib.hid hx
      have HMV := Lib.hid hmv
      have HCL := Lib.hid hcl
      have HROW := Lib.hid hrow
      have HOUT := Lib.hid hout
      have HY := Lib.hid (partL_at _ _ _ hy)
      have HNB := Lib.hid (heap_alloc_new wr (.cells #[.int .i64 x.comp, .slice x.va x.vl x.vc] 85))
      have hOA : Out (fun y => y = q) wr (wr.alloc (.cells #[.int .i64 x.comp, .slice x.va x.vl x.vc] 85)) := Out.of ((Below.refl _ wr).alloc (Nat.le_refl _) _)
      have HOA := Lib.hid hOA
      clear hr hx hmv hy g0 g1 hqc hbA hcb hcl hrow hout hBw hOA
      cases r
      · go_wp2_with fail
        refine HCL.out.mono ?_
        rintro e w3 ⟨rfl, hb3⟩
        have HROW3 := Lib.hid (ownsRow_below (HROW.out.alloc (.cells #[.int .i64 x.comp, .slice x.va x.vl x.vc] 85)) hb3)
        have HO3 := Lib.hid ((HOUT.out.trans HOA.out (fun _ => .inl)).trans (Out.of (F := fun y => y = q) hb3) (fun _ => .inl))
        clear hb3 z0 z1
        go_wp2_with fail
        go_roundw
        case rel =>
          exact ⟨m, J + 1, R, HMV.out.skip HX.out HR.out, hJ, by go_num, by go_num, HROW3.out, HO3.out⟩
        case measure => simp [intOf]; omega
      · go_wp2_with fail
        refine HCL.out.mono ?_
        rintro e w3 ⟨rfl, hb3⟩
        have hrow3 := ownsRow_below (HROW.out.alloc (.cells #[.int .i64 x.comp, .slice x.va x.vl x.vc] 85)) hb3
        obtain ⟨q', hq', _, hqr3, hqc3⟩ := row_block hrow3 (by omega)
        obtain rfl : q = q' := by cases hq'; rfl
        have t0 := hqc3 _ _ HY.out.1
        have t1 := hqc3 _ _ HY.out.2
        have f0 := hrow3.frozenAt (m * 2)
        have f1 := hrow3.frozenAt (m * 2 + 1)
        have hnb3 := keep hb3 HNB.out
        have v0 := cell_at hnb3 0
        have v1 := cell_at hnb3 1
        simp at v0 v1
        obtain ⟨s1, gr1⟩ := hrow3.stored (m * 2) (.int .i64 x.comp)
        obtain ⟨s2, gr2⟩ := s1.stored (m * 2 + 1) (.slice x.va x.vl x.vc)
        rw [flatP_set] at s2
        have hO3 := (HOUT.out.trans HOA.out (fun _ => .inl)).trans (Out.of (F := fun y => y = q) hb3) (fun _ => .inl)
        have HO3 := Lib.hid ((hO3.trans (Out.only (F := fun y => y = q) (Only.at _ q _ _) rfl) (fun _ => .inl)).trans (Out.only (F := fun y => y = q) (Only.at (w3.setCell ⟨q, m * 2, none⟩ (.int .i64 x.comp)) q (m * 2 + 1) (.slice x.va x.vl x.vc)) rfl) (fun _ => .inl))
        have HS2 := Lib.hid s2
        clear hb3 hrow3 hq' hqc3 hnb3 s1 gr1 s2 gr2 z0 z1 hO3
        go_wp2_with fail
        go_roundw
        case rel =>
          exact ⟨m + 1, J + 1, _, HMV.out.move HX.out HR.out, hJ, by go_num, by go_num, HS2.out, HO3.out⟩
        case measure => simp [intOf]; omega
    · obtain rfl : J = n := by omega
      obtain ⟨m', hm'⟩ : ∃ m', J - m = m' := ⟨_, rfl⟩
      have hcl := run_clearParts q (m * 2) m' (pc - m) (by omega) wr (fun j hj => by
        obtain ⟨u, hu⟩ : ∃ u, (R.flatMap partL)[m * 2 + j]? = some u := ⟨_, List.getElem?_eq_getElem (by rw [flatP_len]; omega)⟩
        rw [hqc _ _ hu]; rfl) (fun j _ => hrow.frozenAt (m * 2 + j))
      have i3 : (0 : Int) ≤ (m : Int) := by omega
      have i4 : (m : Int) ≤ (J : Int) := by omega
      have i5 : (m : Int) ≤ (pc : Int) := by omega
      obtain ⟨ys, o1, o2, o3⟩ := owns_setCells (zpL m') (m * 2) _ _ hrow
      have s3 := ownsRow_cut o1 (show m ≤ J by omega)
      have hfl : R.take m = ps.filter fun p => hasB al p.comp := by
        rw [hmv.2.2.1, List.take_of_length_le (by rw [HLN.out]; exact Nat.le_refl _)]
      rw [o2, flatP_take, hfl] at s3
      have hO := hout.trans o3 (fun _ => .inl)
      have hfn : (ps.filter fun p => hasB al p.comp).length = m := by rw [← hfl, List.length_take]; omega
      have HFIN : Hid (PO B (wr.setCells q (m * 2) (zpL m')) (some ⟨q, 0, none⟩) m pc (ps.filter fun p => hasB al p.comp) ∧ m ≤ J ∧ Below B w (wr.setCells q (m * 2) (zpL m'))) := Lib.hid (by
        refine ⟨⟨s3, fun p' hp' => ?_, hfn⟩, by omega, hO.below (fun x hx => by rw [hx]; exact hBq) hB⟩
        have hv := HPO.out.vals p' ((List.mem_filter.1 hp').1)
        refine ⟨ownsRow_out hv.1 hO fun x hx hxq => ?_, hv.2⟩
        rcases ownsRow_ne hv.1 HPO.out.row (by decide) with h | h
        · rw [h] at hx; cases hx
        · exact h (by rw [hx, hxq]; rfl))
      clear hrow hout hqc hBw o1 o2 o3 s3 hO hfl hfn hmv
      generalize wr.setCells q (m * 2) (zpL m') = W9 at HFIN hcl
      go_wp2_with fail
      go_ret
      exact ⟨m, rfl, HFIN.out.1, HFIN.out.2.1, HFIN.out.2.2⟩
end
end Go.Proofs.YtgebbmfoamkfnaaGreatDoor
namespace Go.Proofs.YtgebbmfoamkfnaaGreatDoor
open Go.RowKit
set_option linter.unusedVariables false
/-- The set of somebody; those whose set matches. -/
def WS.setOf (S : WS) (e : Int) : Int := match S.who e with | some x => x.set | none => 0
def WS.matchL (S : WS) (al no : Int) : List Int := S.ix.liveL.filter fun e => matchB al no (S.setOf e)
set_option maxRecDepth 100000 in
/-- graph.Schema: a copy of the schema; its blocks by type. -/
theorem gschema_ty (B1 gb : Nat) (g : GS) (w : World) {mb wb : Nat} {ta : Option Addr} {tc : Nat} (h : Graph B1 gb g mb wb ta tc w) : Calls Tryz.prog 47 #[.pointer (some ⟨gb, 0, none⟩)] w fun e w' => ∃ va vc, e = .returned (.agg #[.int .i64 g.ver, .slice va g.cs.length vc]) ∧ CompsAt w'.heap.size w' va g.cs.length g.cs ∧ CompsTy w' va g.cs.length g.cs ∧ Below w.heap.size w w' := by
  obtain ⟨ca, cl, cc, bs, ws, h⟩ := h
  have hcl : g.cs.length = cl := h.comps.1
  have hb0 : Below w.heap.size w (w.alloc (.cells #[.int .i64 0, .slice none 0 0] 24)) := by go_grown
  have hU := heap_alloc_new w (.cells #[.int .i64 0, .slice none 0 0] 24)
  have h' := h.below hb0
  have c0 := cell_at h'.blk 0
  have c1 := cell_at h'.blk 1
  simp at c0 c1
  have H := Lib.hid (And.intro h' (And.intro hU hb0))
  have HL := Lib.hid hcl
  clear h h' hU hb0 hcl
  go_enter Tryz.func47, Tryz.ntmps47
  go_wp2_with fail
  refine (schemaClone_any _ _ _ _ _ _ H.out.1.comps H.out.1.cn.2 H.out.1.wf.2.1 H.out.1.cn.1).mono ?_
  rintro e w2 ⟨va, vc, rfl, hcs2, hvn, hb2, hty2⟩
  have hU2 := keep hb2 H.out.2.1
  have f0 := free_at hU2 0
  have f1 := free_at hU2 1
  have u0 := cell_at hU2 0
  have u1 := cell_at hU2 1
  simp at u0 u1
  have HC := Lib.hid hcs2
  have HTY := Lib.hid hty2
  have HU2 := Lib.hid hU2
  have HB := Lib.hid hb2
  clear hcs2 hb2 hU2 hty2
  have hb3 : Below w.heap.size w ((w2.setCell ⟨w.heap.size, 0, none⟩ (.int .i64 g.ver)).setCell ⟨w.heap.size, 1, none⟩ (.slice va cl vc)) := ((H.out.2.2.trans (HB.out.mono H.out.2.2.size)).setCell (by simp) _).setCell (by simp) _
  have k2 := hset _ _ 1 (.slice va cl vc) _ _ _ (hset _ _ 0 (.int .i64 g.ver) _ _ _ HU2.out)
  simp at k2
  have r0 := cell_at (hset _ _ 0 (.int .i64 g.ver) _ _ _ HU2.out) 0
  have r1 := cell_at k2 1
  simp at r0 r1
  have hty : KeepsTy w2 ((w2.setCell ⟨w.heap.size, 0, none⟩ (.int .i64 g.ver)).setCell ⟨w.heap.size, 1, none⟩ (.slice va cl vc)) := by
    intro b c e fz hb he
    have hne : b ≠ w.heap.size := fun e' => by subst e'; rw [HU2.out] at hb; cases hb; rcases he with h | h <;> cases h
    rw [hset_ne _ _ _ _ hne, hset_ne _ _ _ _ hne]
    exact hb
  have HF := Lib.hid (And.intro hb3 (And.intro (HC.out.ty HTY.out hty) (HTY.out.hk hty)))
  clear hb3 k2 hty
  go_wp2_with fail
  refine bodyPost_ret (v := .agg #[.int .i64 g.ver, .slice va cl vc]) (by simp [results, Tryz.results47, go_sem, r0, r1]) rfl ?_
  refine ⟨va, vc, by rw [HL.out], ?_, by rw [HL.out]; exact HF.out.2.2, HF.out.1⟩
  rw [HL.out]
  simpa [World.setCell] using HF.out.2.1
section
variable {w w' : World} {d : WD} {N : Nat}
theorem WIn.setOf (h : WIn w d N) {e : Int} (he : e ∈ d.x.ix.liveL) : ∃ p t, d.pl e = some p ∧ d.T[p.tab]? = some t ∧ d.S.setOf e = t.set ∧ 0 ≤ t.set ∧ t.set ≤ 4294967295 := by
  obtain ⟨⟨i, r⟩, t, v, hp, ht, _⟩ := h.place he
  refine ⟨_, t, hp, ht, ?_, WMid.bd h ht⟩
  show (match d.P.who e with | some x => x.set | none => 0) = t.set
  cases r with
  | none => rw [WMid.who_wait h hp ht]
  | some r =>
    obtain ⟨v, row, _, _, _, _, _, hw, _⟩ := WMid.who_row h hp ht
    rw [hw]
theorem wSig_set (h : WIn w d N) {e : Int} (he : e ∈ d.x.ix.liveL) : (0 ≤ d.S.setOf e ∧ d.S.setOf e ≤ 4294967295) ∧ ∀ W, Below w.heap.size w W → Calls Tryz.prog 95 #[.pointer (some ⟨d.wb, 0, none⟩), .int .u64 e] W fun en w' => en = .returned (.tuple #[.int .u32 (d.S.setOf e), .int .i64 0]) ∧ Below W.heap.size W w' := by
  obtain ⟨p, t, hp, ht, hs, h0, h1⟩ := h.setOf he
  rw [hs]
  exact ⟨⟨h0, h1⟩, fun W hb => wSig_ok (h.below hb) e he hp ht⟩
set_option maxRecDepth 100000 in
set_option maxHeartbeats 2000000 in
theorem wMatch_any (h : WIn w d N) (al no : Int) (al0 : 0 ≤ al) (al1 : al ≤ 4294967295) (no0 : 0 ≤ no) (no1 : no ≤ 4294967295) : Calls Tryz.prog 56 #[.pointer (some ⟨d.wb, 0, none⟩), .int .u32 al, .int .u32 no] w (IsLive (d.S.matchL al no) w) := by
  obtain ⟨i0, hi, hz0, hz1, hz2⟩ := info_parts Tryz.infoE
  have hlv := wLive_any h
  have hlb : d.S.ix.liveL.length ≤ 257 := WMid.lbd h
  have hsg : ∀ e ∈ d.S.ix.liveL, (0 ≤ d.S.setOf e ∧ d.S.setOf e ≤ 4294967295) ∧ ∀ W, Below w.heap.size w W → Calls Tryz.prog 95 #[.pointer (some ⟨d.wb, 0, none⟩), .int .u64 e] W fun en w' => en = .returned (.tuple #[.int .u32 (d.S.setOf e), .int .i64 0]) ∧ Below W.heap.size W w' := fun e he => wSig_set h he
  unfold WS.matchL
  generalize d.S.ix.liveL = L at *
  generalize d.S.setOf = f at *
  have HLV := Lib.hid hlv
  have HSG := Lib.hid hsg
  clear h hlv hsg
  obtain ⟨n, hn⟩ : ∃ n, L.length = n := ⟨_, rfl⟩
  rw [hn] at hlb
  go_enter Tryz.func56, Tryz.ntmps56
  go_wp2_with fail
  refine HLV.out.mono ?_
  rintro e w1 ⟨la, lc, rfl, hlo, hlb1⟩
  rw [hn] at hlo ⊢
  have HN := Lib.hid hn
  have HLO := Lib.hid hlo
  have HB1 := Lib.hid hlb1
  clear hn hlo hlb1 HLV
  go_wp2_with fail
  go_loopw [7, 15] (fun o i wr => ∃ (k m : Nat) (oa : Option Addr) (oc : Nat), o = .slice oa m oc ∧ i = .int .i64 (k : Int) ∧ k ≤ n ∧ ((L.take k).filter fun e => matchB al no (f e)).length = m ∧ m ≤ k ∧ wr.ownsRow w1.heap.size 50 1 (.slice oa m oc) m (((L.take k).filter fun e => matchB al no (f e)).map (.int .u64)) ∧ Below w1.heap.size w1 wr) (fun _ i _ => n - (intOf i).toNat)
  case atStart => exact ⟨0, 0, none, 0, rfl, rfl, Nat.zero_le _, by simp, Nat.le_refl _, by simpa using World.ownsRow_nil _ _ _ _, Below.refl _ _⟩
  case round =>
    obtain ⟨k, m, oa, oc, rfl, rfl, hk, hfl, hmk, hown, hb⟩ := hrel
    by_cases hlt : k < n
    · obtain ⟨q, rfl, hBq, hql, hqc⟩ := row_block (ownsRow_out HLO.out (Out.of hb (F := fun _ => False)) (fun _ _ hf => hf)) (by omega)
      obtain ⟨e, he⟩ : ∃ e, L[k]? = some e := ⟨_, List.getElem?_eq_getElem (by rw [HN.out]; exact hlt)⟩
      have e0 := hqc k (.int .u64 e) (by rw [List.getElem?_map, he]; rfl)
      have g0 : (0 : Int) ≤ (k : Int) := by omega
      have g1 : (k : Int) < (n : Int) := by omega
      have hsz := hb.size
      obtain ⟨⟨s0, s1⟩, hsig⟩ := HSG.out e (List.mem_of_getElem? he)
      have HSGE := Lib.hid (hsig wr (HB1.out.trans (hb.mono HB1.out.size)))
      have HTK := Lib.hid (take_snoc he)
      obtain ⟨s, hs⟩ : ∃ s, f e = s := ⟨_, rfl⟩
      rw [hs] at s0 s1 HSGE
      have HS := Lib.hid hs
      have HFL := Lib.hid hfl
      have HOWN := Lib.hid hown
      have HB := Lib.hid hb
      have HWI := Lib.hid (fun W => within_any al s W al0 al1 s0 s1)
      have HME := Lib.hid (fun W => meets_any no s W no0 no1 s0 s1)
      obtain ⟨r1, hr1⟩ : ∃ r, within al s = r := ⟨_, rfl⟩
      obtain ⟨r2, hr2⟩ : ∃ r, meets no s = r := ⟨_, rfl⟩
      rw [hr1] at HWI
      rw [hr2] at HME
      have HMT : Hid (matchB al no s = (r1 && !r2)) := Lib.hid (by unfold matchB; rw [hr1, hr2])
      clear he hqc hsig hs hfl hown hb hr1 hr2
      go_wp2_with fail
      refine HSGE.out.mono ?_
      rintro en w2 ⟨rfl, hb2⟩
      have HBR := Lib.hid (HB.out.trans (hb2.mono HB.out.size))
      have HOWN2 := Lib.hid (ownsRow_out HOWN.out (Out.of hb2 (F := fun _ => False)) (fun _ _ hf => hf))
      clear hb2
      go_wp2_with fail
      refine (HWI.out _).mono ?_
      rintro en w3 ⟨rfl, rfl⟩
      have hno : (r1 && !r2) = false → ((L.take (k + 1)).filter fun e => matchB al no (f e)) = (L.take k).filter fun e => matchB al no (f e) := fun hf => by
        rw [HTK.out, List.filter_append]
        simp [HS.out, HMT.out, hf]
      have hyes : (r1 && !r2) = true → ((L.take (k + 1)).filter fun e => matchB al no (f e)) = ((L.take k).filter fun e => matchB al no (f e)) ++ [e] := fun hf => by
        rw [HTK.out, List.filter_append]
        simp [HS.out, HMT.out, hf]
      have HNO := Lib.hid hno
      have HYES := Lib.hid hyes
      clear hno hyes
      cases r1
      · go_wp2_with fail
        go_roundw
        case rel => exact ⟨k + 1, m, oa, oc, rfl, by go_num, by omega, by rw [HNO.out rfl]; exact HFL.out, by omega, by rw [HNO.out rfl]; exact HOWN2.out, HBR.out⟩
        case measure => simp [intOf]; omega
      · go_wp2_with fail
        refine (HME.out _).mono ?_
        rintro en w4 ⟨rfl, rfl⟩
        cases r2
        · have HA := Lib.hid (HOWN2.out.alloc (.cells #[.int .u64 e] 50))
          have hsz2 := HBR.out.size
          go_wp2_with (at_builtin; refine wpList_append_own _ rfl (.tmp 34) (.tmp 36) 57 rfl w1.heap.size 50 i0 (.int .u64 0) 1 8 Tryz.underlying57 hi hz0 hz1 hz2 rfl (by decide) (.slice oa m oc) m _ rfl HA.out ⟨w2.heap.size, 0, none⟩ 1 1 [.int .u64 e] rfl rfl (cell_one_new _ _ _) (ints_oneCell .u64 [e]) (by unfold maxLen; omega) (by omega) (by simp; omega) ?_)
          intro v' w5 hown5 hg5 _
          obtain ⟨va', vc', hv'⟩ := ownsRow_slice hown5
          rw [hv'] at hown5 ⊢
          clear hv'
          have HB5 := Lib.hid ((HBR.out.alloc hsz2 (.cells #[.int .u64 e] 50)).trans (below_own HA.out hg5 (by simp; omega)))
          have HO5 := Lib.hid hown5
          clear hown5 hg5 HA
          go_wp2_with fail
          go_roundw
          case rel => exact ⟨k + 1, m + 1, va', vc', rfl, by go_num, by omega, by rw [HYES.out rfl, List.length_append, HFL.out]; rfl, by omega, by rw [HYES.out rfl, List.map_append]; exact HO5.out, HB5.out⟩
          case measure => simp [intOf]; omega
        · go_wp2_with fail
          go_roundw
          case rel => exact ⟨k + 1, m, oa, oc, rfl, by go_num, by omega, by rw [HNO.out rfl]; exact HFL.out, by omega, by rw [HNO.out rfl]; exact HOWN2.out, HBR.out⟩
          case measure => simp [intOf]; omega
    · obtain rfl : k = n := by omega
      have hfull : L.take k = L := by rw [← HN.out, List.take_length]
      rw [hfull] at hfl hown
      have HFIN : Hid (wr.ownsRow w.heap.size 50 1 (.slice oa m oc) m ((L.filter fun e => matchB al no (f e)).map (.int .u64)) ∧ Below w.heap.size w wr ∧ (L.filter fun e => matchB al no (f e)).length = m) := Lib.hid ⟨ownsRow_mono hown HB1.out.size, HB1.out.trans (hb.mono HB1.out.size), hfl⟩
      clear hown hb hfull hfl
      go_wp2_with fail
      go_returns
      exact ⟨oa, oc, ret_sl HFIN.out.2.2.symm, by rw [HFIN.out.2.2]; exact HFIN.out.1, HFIN.out.2.1⟩
set_option maxRecDepth 100000 in
set_option maxHeartbeats 1000000 in
theorem wSchema_any (h : WIn w d N) : Calls Tryz.prog 55 #[.pointer (some ⟨d.wb, 0, none⟩)] w fun e w' => ∃ va vc, e = .returned (.agg #[.int .i64 d.g.ver, .slice va d.g.cs.length vc]) ∧ CompsAt w'.heap.size w' va d.g.cs.length d.g.cs ∧ Below w.heap.size w w' := by
  have hb0 : Below w.heap.size w (w.alloc (.cells #[.int .i64 0, .slice none 0 0] 24)) := by go_grown
  have hU := heap_alloc_new w (.cells #[.int .i64 0, .slice none 0 0] 24)
  have h' := h.below hb0
  obtain ⟨_, c7, _⟩ := h'.raw.cells
  have HSC := Lib.hid (gschema_ty 0 d.gb d.g _ h'.raw.gr)
  have HU := Lib.hid hU
  have HB0 := Lib.hid hb0
  obtain ⟨cs, hcs⟩ : ∃ cs, d.g.cs = cs := ⟨_, rfl⟩
  obtain ⟨n, hn⟩ : ∃ n, cs.length = n := ⟨_, rfl⟩
  rw [hcs, hn] at HSC ⊢
  clear h h' hU hb0 hcs hn
  go_enter Tryz.func55, Tryz.ntmps55
  go_wp2_with fail
  refine HSC.out.mono ?_
  rintro e w2 ⟨va, vc, rfl, hcs2, hty2, hb2⟩
  have hU2 := keep hb2 HU.out
  have f0 := free_at hU2 0
  have f1 := free_at hU2 1
  have u0 := cell_at hU2 0
  have u1 := cell_at hU2 1
  simp at u0 u1
  have hb3 : Below w.heap.size w ((w2.setCell ⟨w.heap.size, 0, none⟩ (.int .i64 d.g.ver)).setCell ⟨w.heap.size, 1, none⟩ (.slice va n vc)) := ((HB0.out.trans (hb2.mono HB0.out.size)).setCell (by simp) _).setCell (by simp) _
  have k2 := hset _ _ 1 (.slice va n vc) _ _ _ (hset _ _ 0 (.int .i64 d.g.ver) _ _ _ hU2)
  simp at k2
  have r0 := cell_at (hset _ _ 0 (.int .i64 d.g.ver) _ _ _ hU2) 0
  have r1 := cell_at k2 1
  simp at r0 r1
  have hty : KeepsTy w2 ((w2.setCell ⟨w.heap.size, 0, none⟩ (.int .i64 d.g.ver)).setCell ⟨w.heap.size, 1, none⟩ (.slice va n vc)) := by
    intro b c e fz hb he
    have hne : b ≠ w.heap.size := fun e' => by subst e'; rw [hU2] at hb; cases hb; rcases he with h | h <;> cases h
    rw [hset_ne _ _ _ _ hne, hset_ne _ _ _ _ hne]
    exact hb
  have HF := Lib.hid (And.intro hb3 (hcs2.ty hty2 hty))
  have HU2 := Lib.hid hU2
  clear hb3 k2 hU2 hcs2 hb2 hty hty2
  go_wp2_with fail
  refine bodyPost_ret (v := .agg #[.int .i64 d.g.ver, .slice va n vc]) (by simp [results, Tryz.results55, go_sem, r0, r1]) rfl ?_
  refine ⟨va, vc, rfl, ?_, HF.out.1⟩
  simpa [World.setCell] using HF.out.2
end
end Go.Proofs.YtgebbmfoamkfnaaGreatDoor
