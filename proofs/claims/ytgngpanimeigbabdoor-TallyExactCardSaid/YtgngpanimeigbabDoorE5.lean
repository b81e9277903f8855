/- Contract of retrofitref36.Of. -/
import Derived.Test.YtgngpanimeigbabDoorE0
import Derived.Test.YtgngpanimeigbabDoorT9
namespace Go.Proofs.YtgngpanimeigbabDoor
open Go.RowKit
set_option linter.unusedVariables false
def RMarksAt (B : Nat) (w : World) (a : Option Addr) (n : Nat) (l : List Mk0) : Prop :=
  l.length = n ∧ n ≤ 1000000 ∧ (n = 0 ∨ ∃ b off, a = some ⟨b, off, none⟩ ∧ b < B ∧ ∀ (i : Nat) (m : Mk0), l[i]? = some m → ∀ j u, (markL m)[j]? = some u → w.cell? ⟨b, off + i * 7 + j, none⟩ = some u)
theorem rmarks_of_row {w : World} {B : Nat} {a : Option Addr} {n c : Nat} {l : List Mk0} (h : w.ownsRow B 72 7 (.slice a n c) n (l.flatMap markL)) (hl : l.length = n) (hn : n ≤ 1000000) : RMarksAt w.heap.size w a n l := by
  refine ⟨hl, hn, ?_⟩
  by_cases h0 : n = 0
  · exact .inl h0
  · obtain ⟨q, rfl, hB, hq, hc⟩ := row_block h (by omega)
    refine .inr ⟨q, 0, rfl, hq, fun i m hm j u hj => ?_⟩
    have hjl : j < 7 := (List.getElem?_eq_some_iff.1 hj).1
    rw [show 0 + i * 7 + j = i * 7 + j by omega]
    exact hc _ u (by rw [flatMap_get (f := markL) (s := 7) l i j m (fun y _ => rfl) hm hjl]; exact hj)
def rs1 (t : List Int) (kq : Int) : List Int := bump t kq.toNat
def rs2 (t : List Int) (code : Int) : List Int := if code = 0 then bump t 12 else bump t 13
def rs3 (t : List Int) (kq done failed : Int) (sn : Nat) : List Int :=
  if kq = 9 then ((t.set 14 (wrap64 (gt t 14 + done))).set 15 (wrap64 (gt t 15 + failed))).set 16 (wrap64 (gt t 16 + sn)) else t
def rs4 (t : List Int) (kq code : Int) : List Int := if kq = 10 ∧ code = 0 then bump t 17 else t
def rs5 (t : List Int) (kq code : Int) : List Int := if kq = 10 ∧ code ≠ 0 then bump t 18 else t
def rs6 (t : List Int) (kq code : Int) : List Int := if kq = 11 ∧ code = 0 then bump t 19 else t
def rs7 (t : List Int) (rows : Int) : List Int := if gt t 20 < rows then t.set 20 rows else t
def rstep (t : List Int) (m : Mk0) : List Int :=
  (rs7 (rs6 (rs5 (rs4 (rs3 (rs2 (rs1 t (kindF m.k)) m.code) (kindF m.k) m.done m.failed (stN m.st)) (kindF m.k) m.code) (kindF m.k) m.code) (kindF m.k) m.code) m.rows).set 21 m.ver
def rofF (l : List Mk0) : List Int := l.foldl rstep zeros
theorem rofF_snoc (l : List Mk0) (m : Mk0) : rofF (l ++ [m]) = rstep (rofF l) m := by simp [rofF]
theorem bump_len (t : List Int) (i : Nat) : (bump t i).length = t.length := by simp [bump]
theorem rs2_len (t : List Int) (c : Int) : (rs2 t c).length = t.length := by unfold rs2; split <;> simp [bump_len]
theorem rs3_len (t : List Int) (a b c : Int) (d : Nat) : (rs3 t a b c d).length = t.length := by unfold rs3; split <;> simp
theorem rs4_len (t : List Int) (a b : Int) : (rs4 t a b).length = t.length := by unfold rs4; split <;> simp [bump_len]
theorem rs5_len (t : List Int) (a b : Int) : (rs5 t a b).length = t.length := by unfold rs5; split <;> simp [bump_len]
theorem rs6_len (t : List Int) (a b : Int) : (rs6 t a b).length = t.length := by unfold rs6; split <;> simp [bump_len]
theorem rs7_len (t : List Int) (a : Int) : (rs7 t a).length = t.length := by unfold rs7; split <;> simp
theorem rstep_len (t : List Int) (m : Mk0) : (rstep t m).length = t.length := by
  simp [rstep, rs7_len, rs6_len, rs5_len, rs4_len, rs3_len, rs2_len, rs1, bump_len]
theorem rfold_len (l : List Mk0) : ∀ t : List Int, (l.foldl rstep t).length = t.length := by
  induction l with
  | nil => intro t; rfl
  | cons m r ih => intro t; rw [List.foldl_cons, ih, rstep_len]
theorem rofF_len (l : List Mk0) : (rofF l).length = 22 := by unfold rofF; rw [rfold_len]; rfl
/-- What stands at a stage of a round. -/
structure RSt (w : World) (tb xb : Nat) (m : Mk0) (t : List Int) (V : World) : Prop where
  ht : V.heap[tb]? = some (.cells (tv t) 36 (0, 0))
  x : V.heap[xb]? = some (.cells (markL m).toArray 72 (0, 0))
  r : V.heap[w.heap.size]? = some (.cells (tv zeros) 36 (0, 0))
  l : t.length = 22
  b : Below w.heap.size w V
theorem RSt.next {w : World} {tb xb : Nat} {m : Mk0} {t t' : List Int} {V V' : World} (h : RSt w tb xb m t V) (ht : V'.heap[tb]? = some (.cells (tv t') 36 (0, 0))) (ho : Only tb V V') (hl : t'.length = 22) (n1 : xb ≠ tb) (n2 : w.heap.size < tb) : RSt w tb xb m t' V' :=
  ⟨ht, keepO ho h.x n1, keepO ho h.r (by omega), hl, h.b.trans (ho.below (by omega))⟩
set_option maxRecDepth 100000 in
set_option maxHeartbeats 4000000 in
theorem rof_any (l : List Mk0) (a : Option Addr) (n c : Nat) (w : World) (hm : RMarksAt w.heap.size w a n l) :
    Calls Tryd.prog 8 #[.slice a n c] w fun e w' => e = .returned (.agg (tv (rofF l))) ∧ Below w.heap.size w w' := by
  have hn1 := hm.2.1
  have hT0 := keepA (.cells (tv zeros) 36) (heap_alloc_new w (.cells (tv zeros) 36))
  have hU0 := heap_alloc_new (w.alloc (.cells (tv zeros) 36)) (.cells (tv zeros) 36)
  have hbel0 : Below w.heap.size w ((w.alloc (.cells (tv zeros) 36)).alloc (.cells (tv zeros) 36)) := by go_grown
  simp only [World.size_alloc] at hT0 hU0
  have HB := Lib.hid (And.intro hT0 (And.intro hU0 hbel0))
  have HZ0 := Lib.hid (rsize_of (t := zeros) rfl)
  clear hT0 hU0 hbel0
  go_enter Tryd.func8, Tryd.ntmps8
  go_wp2_with (first | (refine wpList_store_row rfl 36 (.tmp 3) (.tmp 7) rfl (w.heap.size + 1) (tv zeros) rfl rfl 36 (tv zeros) HB.out.2.1 HZ0.out rfl (tv_one zeros) ?_))
  rw [zerosV]
  obtain ⟨hT0, hU0, hbel0⟩ := HB.out
  clear HB
  have hT0 := (setRow_other _ (w.heap.size + 1) w.heap.size (tv zeros) (by omega)).trans hT0
  have hU0 := setRow_heap _ (w.heap.size + 1) (tv zeros) (tv zeros) _ _ hU0
  have hbel0 := below_setRow hbel0 (by omega : w.heap.size ≤ w.heap.size + 1) (tv zeros)
  generalize ((w.alloc (.cells (tv zeros) 36)).alloc (.cells (tv zeros) 36)).setRow (w.heap.size + 1) (tv zeros) = W at hT0 hU0 hbel0 ⊢
  generalize htb : w.heap.size + 1 = tb at *
  have ntb : w.heap.size < tb := by omega
  have HI := Lib.hid (And.intro hT0 (And.intro hU0 hbel0))
  clear hT0 hU0 hbel0 htb
  go_loopw [4] (fun i wr => ∃ k : Nat, k ≤ n ∧ i = .int .i64 k ∧ wr.heap[w.heap.size]? = some (.cells (tv zeros) 36 (0, 0)) ∧ wr.heap[tb]? = some (.cells (tv (rofF (l.take k))) 36 (0, 0)) ∧ Below w.heap.size w wr) (fun i _ => n - (intOf i).toNat)
  case atStart => exact ⟨0, by omega, rfl, HI.out.1, HI.out.2.1, HI.out.2.2⟩
  case round =>
    obtain ⟨k, hk, rfl, hR, hT, hbw⟩ := hrel
    have hz := hbw.size
    by_cases hlt : k < n
    · obtain ⟨m, hml⟩ : ∃ m, l[k]? = some m := ⟨_, List.getElem?_eq_getElem (by have := hm.1; omega)⟩
      obtain ⟨b, off, rfl, hBb, hc⟩ := hm.2.2.resolve_left (by omega)
      have hcc : ∀ j u, (markL m)[j]? = some u → wr.cell? ⟨b, off + k * 7 + j, none⟩ = some u := fun j u hj => (hbw.cell (p := ⟨b, _, none⟩) hBb).trans (hc k m hml j u hj)
      have m0 := hcc 0 (.int .i64 m.k) rfl
      have m1 := hcc 1 (.bool (m.code == 0)) rfl
      have m2 := hcc 2 (.int .i64 m.done) rfl
      have m3 := hcc 3 (.int .i64 m.failed) rfl
      have m4 := hcc 4 (.int .i64 (stN m.st)) rfl
      have m5 := hcc 5 (.int .i64 m.rows) rfl
      have m6 := hcc 6 (.int .i64 m.ver) rfl
      rw [Nat.add_zero] at m0
      have hsn := Lib.hid (rofF_snoc (l.take k) m)
      have htk := Lib.hid (take_snoc hml)
      have hst := stN_lt m.st
      have j1 : (0 : Int) ≤ (k : Int) := by omega
      have j2 : (k : Int) < (n : Int) := by omega
      have hX := heap_alloc_new wr (.cells (markL m).toArray 72)
      have hS0 : RSt w tb wr.heap.size m (rofF (l.take k)) (wr.alloc (.cells (markL m).toArray 72)) :=
        ⟨keepA _ hT, hX, keepA _ hR, rofF_len _, hbw.alloc hz _⟩
      have nx : wr.heap.size ≠ tb := by have := lt_some hT; omega
      have HS := Lib.hid hS0
      clear hml hc hcc hX hS0 hR hT hbw HI
      have hkb := kindF_bd m.k
      obtain ⟨kq, hkq⟩ : ∃ kq, kq = kindF m.k := ⟨_, rfl⟩
      rw [← hkq] at hkb
      have HKQ := Lib.hid hkq
      have hk1 := hkb.1
      have hk2 : kq < 12 := by omega
      have hk3 : kq.toNat < 22 := by omega
      have HRS := Lib.hid (show ∀ t, (rs7 (rs6 (rs5 (rs4 (rs3 (rs2 (rs1 t kq) m.code) kq m.done m.failed (stN m.st)) kq m.code) kq m.code) kq m.code) m.rows).set 21 m.ver = rstep t m from fun t => by rw [hkq]; rfl)
      clear hkq hkb
      go_upto_region 7 with (fail)
      have HS : Hid (RSt w tb wr.heap.size m (rofF (l.take k)) (wr.alloc (.cells #[.int .i64 m.k, .bool (m.code == 0), .int .i64 m.done, .int .i64 m.failed, .int .i64 (stN m.st), .int .i64 m.rows, .int .i64 m.ver] 72))) := HS
      generalize wr.alloc (.cells #[.int .i64 m.k, .bool (m.code == 0), .int .i64 m.done, .int .i64 m.failed, .int .i64 (stN m.st), .int .i64 m.rows, .int .i64 m.ver] 72) = V at *
      generalize wr.heap.size = xb at *
      generalize hcur : rofF (l.take k) = t0 at *
      have HC := Lib.hid hcur
      clear hcur m0 m1 m2 m3 m4 m5 m6
      go_cut [25] (fun s wx => ∃ bb : Bool, s = .bool bb ∧ (bb = true ↔ (m.k < 1 ∨ 11 < m.k)) ∧ RSt w tb xb m t0 wx)
      case first =>
        rcases (by omega : m.k < 1 ∨ (1 ≤ m.k ∧ 11 < m.k) ∨ (1 ≤ m.k ∧ m.k ≤ 11)) with h | ⟨h, h2⟩ | ⟨h, h2⟩
        all_goals go_wp2_with fail
        all_goals go_meet
        all_goals exact ⟨_, rfl, by simp <;> omega, HS.out⟩
      case rest =>
        obtain ⟨bb, rfl, hbb, hcut⟩ := hcut
        clear HS
        have HS := Lib.hid hcut
        have HBB := Lib.hid hbb
        clear hcut hbb
        generalize wc = W1 at *
        go_upto_if 25 with (fail)
        go_cut [6] (fun s6 wx => s6 = .int .i64 kq ∧ RSt w tb xb m t0 wx)
        case first =>
          cases bb
          · go_wp2_with fail
            go_meet
            exact ⟨congrArg (Value.int .i64) (by rw [HKQ.out]; unfold kindF; rw [if_neg (fun h => by have := HBB.out.2 h; simp at this)]), HS.out⟩
          · go_wp2_with fail
            go_meet
            exact ⟨congrArg (Value.int .i64) (by rw [HKQ.out]; unfold kindF; rw [if_pos (HBB.out.1 (by simp))]), HS.out⟩
        case rest =>
          obtain ⟨rfl, hcut⟩ := hcut
          have HSx := Lib.hid hcut
          clear hcut HBB HS
          have HS := HSx
          clear HSx
          generalize wc = V0 at *
          have c1 := (cell_at HS.out.ht kq.toNat).trans (tv_get (getD_some (by rw [HS.out.l]; exact hk3)))
          have f1 := free_at HS.out.ht kq.toNat
          have x1 := cell_at HS.out.x 1
          simp [markL] at x1
          have HS1 := Lib.hid (HS.out.next (rput_at (i := kq.toNat) (x := wrap64 (gt t0 kq.toNat + 1)) HS.out.ht) (Only.at _ tb _ _) (by simp [HS.out.l]) nx ntb)
          clear HS
          go_upto_if 32 with (fail)
          have HS1 : Hid (RSt w tb xb m (rs1 t0 kq) (V0.setCell ⟨tb, kq.toNat, none⟩ (.int .i64 (wrap64 (gt t0 kq.toNat + 1))))) := HS1
          clear c1 f1 x1
          generalize V0.setCell ⟨tb, kq.toNat, none⟩ (.int .i64 (wrap64 (gt t0 kq.toNat + 1))) = V1 at HS1 ⊢
          have c12 := (cell_at HS1.out.ht 12).trans (tv_get (getD_some (by rw [HS1.out.l]; omega)))
          have f12 := free_at HS1.out.ht 12
          have c13 := (cell_at HS1.out.ht 13).trans (tv_get (getD_some (by rw [HS1.out.l]; omega)))
          have f13 := free_at HS1.out.ht 13
          go_cut [] (fun wx => RSt w tb xb m (rs2 (rs1 t0 kq) m.code) wx)
          case first =>
            by_cases hc : m.code = 0
            · have e0 : (m.code == 0) = true := by simp [hc]
              have HC0 := Lib.hid hc
              clear hc
              go_wp2_with fail
              go_meet
              refine HS1.out.next ?_ (Only.at _ tb 12 _) (by rw [rs2_len, HS1.out.l]) nx ntb
              unfold rs2; rw [if_pos HC0.out]; exact rput_at HS1.out.ht
            · have e0 : (m.code == 0) = false := by simp [hc]
              have HC0 := Lib.hid hc
              clear hc
              go_wp2_with fail
              go_meet
              refine HS1.out.next ?_ (Only.at _ tb 13 _) (by rw [rs2_len, HS1.out.l]) nx ntb
              unfold rs2; rw [if_neg HC0.out]; exact rput_at HS1.out.ht
          case rest =>
            have HS2 := Lib.hid hcut
            clear hcut HS1 c12 c13 f12 f13
            generalize wc = V2 at *
            go_upto_if 42 with (fail)
            have c14 := (cell_at HS2.out.ht 14).trans (tv_get (getD_some (by rw [HS2.out.l]; omega)))
            have f14 := free_at HS2.out.ht 14
            have c15 := (cell_at HS2.out.ht 15).trans (tv_get (getD_some (by rw [HS2.out.l]; omega)))
            have f15 := free_at HS2.out.ht 15
            have c16 := (cell_at HS2.out.ht 16).trans (tv_get (getD_some (by rw [HS2.out.l]; omega)))
            have f16 := free_at HS2.out.ht 16
            have x2 := cell_at HS2.out.x 2
            have x3 := cell_at HS2.out.x 3
            have x4 := cell_at HS2.out.x 4
            simp [markL] at x2 x3 x4
            go_cut [] (fun wx => RSt w tb xb m (rs3 (rs2 (rs1 t0 kq) m.code) kq m.done m.failed (stN m.st)) wx)
            case first =>
              by_cases h9 : kq = 9
              · have e9 : (kq == 9) = true := by simp [h9]
                have H9 := Lib.hid h9
                clear h9
                go_wp2_with fail
                go_meet
                have ht := rput_at (i := 16) (x := wrap64 (gt (rs2 (rs1 t0 kq) m.code) 16 + (stN m.st : Nat))) (rput_at (i := 15) (x := wrap64 (gt (rs2 (rs1 t0 kq) m.code) 15 + m.failed)) (rput_at (i := 14) (x := wrap64 (gt (rs2 (rs1 t0 kq) m.code) 14 + m.done)) HS2.out.ht))
                refine HS2.out.next ?_ (((Only.at _ tb 14 _).trans (Only.at _ tb 15 _)).trans (Only.at _ tb 16 _)) (by rw [rs3_len, HS2.out.l]) nx ntb
                unfold rs3; rw [if_pos H9.out]; exact ht
              · have e9 : (kq == 9) = false := by simp [h9]
                have H9 := Lib.hid h9
                clear h9
                go_wp2_with fail
                go_meet
                unfold rs3; rw [if_neg H9.out]; exact HS2.out
            case rest =>
              have HS3 := Lib.hid hcut
              clear hcut HS2 c14 c15 c16 f14 f15 f16 x2 x3 x4
              generalize wc = V3 at *
              have x1 := cell_at HS3.out.x 1
              simp [markL] at x1
              go_upto_region 17 with (fail)
              go_cut [66] (fun s wx => ∃ bb : Bool, s = .bool bb ∧ (bb = true ↔ (kq = 10 ∧ m.code = 0)) ∧ RSt w tb xb m (rs3 (rs2 (rs1 t0 kq) m.code) kq m.done m.failed (stN m.st)) wx)
              case first =>
                by_cases hq : kq = 10
                · have e9 : (kq == 10) = true := by simp [hq]
                  have HQ := Lib.hid hq
                  clear hq
                  go_wp2_with fail
                  go_meet
                  exact ⟨_, rfl, by simp [HQ.out], HS3.out⟩
                · have e9 : (kq == 10) = false := by simp [hq]
                  have HQ := Lib.hid hq
                  clear hq
                  go_wp2_with fail
                  go_meet
                  exact ⟨_, rfl, by simp [HQ.out], HS3.out⟩
              case rest =>
                obtain ⟨bb, rfl, hbb, hcut⟩ := hcut
                clear HS3
                have HS3 := Lib.hid hcut
                have HBB := Lib.hid hbb
                clear hcut hbb
                generalize wc = W2 at *
                go_upto_if 66 with (fail)
                have c17 := (cell_at HS3.out.ht 17).trans (tv_get (getD_some (by rw [HS3.out.l]; omega)))
                have f17 := free_at HS3.out.ht 17
                go_cut [] (fun wx => RSt w tb xb m (rs4 (rs3 (rs2 (rs1 t0 kq) m.code) kq m.done m.failed (stN m.st)) kq m.code) wx)
                case first =>
                  cases bb
                  · go_wp2_with fail
                    go_meet
                    unfold rs4; rw [if_neg (fun h => by have := HBB.out.2 h; simp at this)]; exact HS3.out
                  · go_wp2_with fail
                    go_meet
                    refine HS3.out.next ?_ (Only.at _ tb 17 _) (by rw [rs4_len, HS3.out.l]) nx ntb
                    unfold rs4; rw [if_pos (HBB.out.1 (by simp))]; exact rput_at HS3.out.ht
                case rest =>
                  have HS4 := Lib.hid hcut
                  clear hcut HS3 c17 f17 HBB
                  generalize wc = V4 at *
                  have x1 := cell_at HS4.out.x 1
                  simp [markL] at x1
                  go_upto_region 19 with (fail)
                  go_cut [77] (fun s wx => ∃ bb : Bool, s = .bool bb ∧ (bb = true ↔ (kq = 10 ∧ m.code ≠ 0)) ∧ RSt w tb xb m (rs4 (rs3 (rs2 (rs1 t0 kq) m.code) kq m.done m.failed (stN m.st)) kq m.code) wx)
                  case first =>
                    by_cases hq : kq = 10
                    · have e9 : (kq == 10) = true := by simp [hq]
                      have HQ := Lib.hid hq
                      clear hq
                      go_wp2_with fail
                      go_meet
                      exact ⟨_, rfl, by simp [HQ.out], HS4.out⟩
                    · have e9 : (kq == 10) = false := by simp [hq]
                      have HQ := Lib.hid hq
                      clear hq
                      go_wp2_with fail
                      go_meet
                      exact ⟨_, rfl, by simp [HQ.out], HS4.out⟩
                  case rest =>
                    obtain ⟨bb, rfl, hbb, hcut⟩ := hcut
                    clear HS4
                    have HS4 := Lib.hid hcut
                    have HBB := Lib.hid hbb
                    clear hcut hbb
                    generalize wc = W3 at *
                    go_upto_if 77 with (fail)
                    have c18 := (cell_at HS4.out.ht 18).trans (tv_get (getD_some (by rw [HS4.out.l]; omega)))
                    have f18 := free_at HS4.out.ht 18
                    go_cut [] (fun wx => RSt w tb xb m (rs5 (rs4 (rs3 (rs2 (rs1 t0 kq) m.code) kq m.done m.failed (stN m.st)) kq m.code) kq m.code) wx)
                    case first =>
                      cases bb
                      · go_wp2_with fail
                        go_meet
                        unfold rs5; rw [if_neg (fun h => by have := HBB.out.2 h; simp at this)]; exact HS4.out
                      · go_wp2_with fail
                        go_meet
                        refine HS4.out.next ?_ (Only.at _ tb 18 _) (by rw [rs5_len, HS4.out.l]) nx ntb
                        unfold rs5; rw [if_pos (HBB.out.1 (by simp))]; exact rput_at HS4.out.ht
                    case rest =>
                      have HS5 := Lib.hid hcut
                      clear hcut HS4 c18 f18 HBB
                      generalize wc = V5 at *
                      have x1 := cell_at HS5.out.x 1
                      simp [markL] at x1
                      go_upto_region 21 with (fail)
                      go_cut [87] (fun s wx => ∃ bb : Bool, s = .bool bb ∧ (bb = true ↔ (kq = 11 ∧ m.code = 0)) ∧ RSt w tb xb m (rs5 (rs4 (rs3 (rs2 (rs1 t0 kq) m.code) kq m.done m.failed (stN m.st)) kq m.code) kq m.code) wx)
                      case first =>
                        by_cases hq : kq = 11
                        · have e9 : (kq == 11) = true := by simp [hq]
                          have HQ := Lib.hid hq
                          clear hq
                          go_wp2_with fail
                          go_meet
                          exact ⟨_, rfl, by simp [HQ.out], HS5.out⟩
                        · have e9 : (kq == 11) = false := by simp [hq]
                          have HQ := Lib.hid hq
                          clear hq
                          go_wp2_with fail
                          go_meet
                          exact ⟨_, rfl, by simp [HQ.out], HS5.out⟩
                      case rest =>
                        obtain ⟨bb, rfl, hbb, hcut⟩ := hcut
                        clear HS5
                        have HS5 := Lib.hid hcut
                        have HBB := Lib.hid hbb
                        clear hcut hbb
                        generalize wc = W4 at *
                        go_upto_if 87 with (fail)
                        have c19 := (cell_at HS5.out.ht 19).trans (tv_get (getD_some (by rw [HS5.out.l]; omega)))
                        have f19 := free_at HS5.out.ht 19
                        go_cut [] (fun wx => RSt w tb xb m (rs6 (rs5 (rs4 (rs3 (rs2 (rs1 t0 kq) m.code) kq m.done m.failed (stN m.st)) kq m.code) kq m.code) kq m.code) wx)
                        case first =>
                          cases bb
                          · go_wp2_with fail
                            go_meet
                            unfold rs6; rw [if_neg (fun h => by have := HBB.out.2 h; simp at this)]; exact HS5.out
                          · go_wp2_with fail
                            go_meet
                            refine HS5.out.next ?_ (Only.at _ tb 19 _) (by rw [rs6_len, HS5.out.l]) nx ntb
                            unfold rs6; rw [if_pos (HBB.out.1 (by simp))]; exact rput_at HS5.out.ht
                        case rest =>
                          have HS6 := Lib.hid hcut
                          clear hcut HS5 c19 f19 HBB
                          generalize wc = V6 at *
                          have x5 := cell_at HS6.out.x 5
                          simp [markL] at x5
                          have c20 := (cell_at HS6.out.ht 20).trans (tv_get (getD_some (by rw [HS6.out.l]; omega)))
                          have f20 := free_at HS6.out.ht 20
                          go_upto_region 23 with (fail)
                          go_cut [96] (fun s wx => ∃ bb : Bool, s = .bool bb ∧ (bb = true ↔ gt (rs6 (rs5 (rs4 (rs3 (rs2 (rs1 t0 kq) m.code) kq m.done m.failed (stN m.st)) kq m.code) kq m.code) kq m.code) 20 < m.rows) ∧ RSt w tb xb m (rs6 (rs5 (rs4 (rs3 (rs2 (rs1 t0 kq) m.code) kq m.done m.failed (stN m.st)) kq m.code) kq m.code) kq m.code) wx)
                          case first =>
                            go_wp2_with fail
                            first | (go_quiet (fail); go_wp2_with fail) | skip
                            go_meet
                            exact ⟨_, rfl, by simp, HS6.out⟩
                          case rest =>
                            obtain ⟨bb, rfl, hbb, hcut⟩ := hcut
                            clear HS6
                            have HS6 := Lib.hid hcut
                            have HBB := Lib.hid hbb
                            clear hcut hbb
                            generalize wc = W5 at *
                            clear c20 f20 x5
                            have x5 := cell_at HS6.out.x 5
                            simp [markL] at x5
                            have c20 := (cell_at HS6.out.ht 20).trans (tv_get (getD_some (by rw [HS6.out.l]; omega)))
                            have f20 := free_at HS6.out.ht 20
                            go_upto_if 96 with (fail)
                            go_cut [] (fun wx => RSt w tb xb m (rs7 (rs6 (rs5 (rs4 (rs3 (rs2 (rs1 t0 kq) m.code) kq m.done m.failed (stN m.st)) kq m.code) kq m.code) kq m.code) m.rows) wx)
                            case first =>
                              cases bb
                              · go_wp2_with fail
                                go_meet
                                unfold rs7; rw [if_neg (fun h => by have := HBB.out.2 h; simp at this)]; exact HS6.out
                              · go_wp2_with fail
                                go_meet
                                refine HS6.out.next ?_ (Only.at _ tb 20 _) (by rw [rs7_len, HS6.out.l]) nx ntb
                                unfold rs7; rw [if_pos (HBB.out.1 (by simp))]; exact rput_at HS6.out.ht
                            case rest =>
                              have HS7 := Lib.hid hcut
                              clear hcut HS6 c20 f20 x5 HBB
                              generalize wc = V7 at *
                              have x6 := cell_at HS7.out.x 6
                              simp [markL] at x6
                              have c21 := (cell_at HS7.out.ht 21).trans (tv_get (getD_some (by rw [HS7.out.l]; omega)))
                              have f21 := free_at HS7.out.ht 21
                              have HS8 := Lib.hid (HS7.out.next (rput_at (i := 21) (x := m.ver) HS7.out.ht) (Only.at _ tb _ _) (by rw [List.length_set]; exact HS7.out.l) nx ntb)
                              clear HS7
                              go_wp2_with fail
                              have HS9 : Hid (RSt w tb xb m (rstep t0 m) (V7.setCell ⟨tb, 21, none⟩ (.int .i64 m.ver))) := by rw [← HRS.out]; exact HS8
                              go_roundw
                              case rel => exact ⟨k + 1, by omega, by go_num, HS9.out.r, by rw [htk.out, hsn.out]; exact HS9.out.ht, HS9.out.b⟩
                              case measure => simp [intOf]; omega
    · obtain rfl : k = n := by omega
      have hl : l.take k = l := List.take_of_length_le (by have := hm.1; omega)
      rw [hl] at hT
      have hi := rsize_of (t := rofF l) (rofF_len l)
      have hs : (tv zeros).size = (tv (rofF l)).size := by simp [tv, rofF_len, zeros]
      have HT5 := Lib.hid (setRow_heap wr w.heap.size (tv zeros) (tv (rofF l)) 36 (0, 0) hR)
      have HS := Lib.hid (And.intro hT (And.intro hR (And.intro hi (And.intro hs hbw))))
      clear hR hT hbw hi hs hl HI
      go_wp2_with (first | (refine wpList_load_row rfl 36 (.tmp 3) rfl tb rfl 36 (tv (rofF l)) (0, 0) _ HS.out.1 Tryd.underlying36 rfl HS.out.2.2.1 ?_) | (refine wpList_store_row rfl 36 (.tmp 2) (.tmp 103) rfl w.heap.size (tv (rofF l)) rfl rfl 36 (tv zeros) HS.out.2.1 HS.out.2.2.1 HS.out.2.2.2.1 (tv_one (rofF l)) ?_))
      refine bodyPost_ret (v := .agg (tv (rofF l))) (results_cell_row rfl _ _ w.heap.size 36 (tv (rofF l)) (0, 0) _ rfl HT5.out Tryd.underlying36 rfl HS.out.2.2.1) rfl ⟨rfl, ?_⟩
      exact below_setRow HS.out.2.2.2.2 (Nat.le_refl _) _
end Go.Proofs.YtgngpanimeigbabDoor
