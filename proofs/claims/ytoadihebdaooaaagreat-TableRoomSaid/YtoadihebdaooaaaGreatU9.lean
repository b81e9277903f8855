/- Contracts of schema.CheckParts, table.value. Printed by mkfor.py out of U9.in. -/
import Derived.Test.YtoadihebdaooaaaGreatU8
namespace Go.Proofs.YtoadihebdaooaaaGreat
open Go.RowKit
set_option linter.unusedVariables false
def pIdx (id : Int) : Nat → List PW → Int
  | _, [] => -1
  | k, p :: r => if p.comp = id then (k : Int) else pIdx id (k + 1) r
theorem pIdx_skip {id : Int} {k : Nat} {p : PW} {r : List PW} (h : ¬ p.comp = id) : pIdx id k (p :: r) = pIdx id (k + 1) r := by
  conv => lhs; unfold pIdx
  rw [if_neg h]
theorem pIdx_none {id : Int} : ∀ (l : List PW) (k : Nat), (l.any fun q => q.comp == id) = false → pIdx id k l = -1
  | [], _, _ => rfl
  | p :: r, k, h => by
    rw [List.any_cons, Bool.or_eq_false_iff] at h
    rw [pIdx_skip (by simpa using h.1)]
    exact pIdx_none r (k + 1) h.2
theorem pIdx_nn {id : Int} : ∀ (l : List PW) (k : Nat), (l.any fun q => q.comp == id) = true → 0 ≤ pIdx id k l
  | [], _, h => by simp at h
  | p :: r, k, h => by
    unfold pIdx
    split
    · omega
    · rename_i hc
      rw [List.any_cons] at h
      exact pIdx_nn r (k + 1) (by simpa [hc] using h)
theorem pIdx_some {id : Int} {p : PW} : ∀ (l : List PW) (k : Nat), l.find? (fun c => decide (c.comp = id)) = some p → ∃ j, pIdx id k l = ((k + j : Nat) : Int) ∧ l[j]? = some p
  | [], _, h => by simp at h
  | c :: r, k, h => by
    rw [List.find?_cons] at h
    split at h
    · rename_i hc
      cases h
      exact ⟨0, by unfold pIdx; rw [if_pos (by simpa using hc)]; rfl, rfl⟩
    · rename_i hc
      obtain ⟨j, h1, h2⟩ := pIdx_some r (k + 1) h
      exact ⟨j + 1, by unfold pIdx; rw [if_neg (by simpa using hc), h1]; congr 1; omega, by simpa using h2⟩
theorem clo_chk (i id : Int) (a : Option Addr) (n c b : Nat) (w : World) (hp : w.cell? ⟨b, 0, none⟩ = some (.int .i64 id)) :
    Calls Tryz.prog 133 #[.agg #[.int .i64 i, .slice a n c], .pointer (some ⟨b, 0, none⟩)] w fun e w' => e = .returned (.bool (i == id)) ∧ Below w.heap.size w w' := by
  have hpb : b < w.heap.size := World.block_lt_of_cell? w _ hp
  go_enter Tryz.func133, Tryz.ntmps133
  go_wp2
  go_ret
  exact ⟨rfl, by go_grown⟩
set_option maxRecDepth 100000 in
set_option maxHeartbeats 1000000 in
theorem ixParts_chk (id : Int) (ps : List PW) (a : Option Addr) (len cap b : Nat) (w : World) (hcs : PartsAt w.heap.size w a len cap ps) (hp : w.cell? ⟨b, 0, none⟩ = some (.int .i64 id)) :
    Calls Tryz.prog 111 #[.slice a len cap, .func (.func 133) #[] #[.pointer (some ⟨b, 0, none⟩)]] w fun e w' => e = .returned (.int .i64 (pIdx id 0 ps)) ∧ Below w.heap.size w w' := by
  have hmx : len ≤ maxLen := by have := hcs.2.1; have := hcs.2.2.1; omega
  unfold maxLen at hmx
  have hpb : b < w.heap.size := World.block_lt_of_cell? w _ hp
  go_enter Tryz.func111, Tryz.ntmps111
  go_wp2_with fail
  go_loopw [8] (fun i wr => ∃ (k : Nat), k ≤ len ∧ i = .int .i64 k ∧ pIdx id 0 ps = pIdx id k (ps.drop k) ∧ Below w.heap.size w wr) (fun i _ => len - (intOf i).toNat)
  case atStart => exact ⟨0, Nat.zero_le _, rfl, rfl, Below.refl _ _⟩
  case round =>
    obtain ⟨k, hk, rfl, hgo, hbw⟩ := hrel
    have HG := Lib.hid hgo
    clear hgo
    have hzr := hbw.size
    by_cases hlt : k < len
    · obtain ⟨b1, off, c, rfl, hB, hc, _, c0, c1⟩ := hcs.get hbw hlt
      have hstep := Lib.hid (HG.out.trans (by rw [drop_get hc]))
      go_wp2_with fail
      refine (clo_chk _ id _ _ _ b _ ((hbw.cell (p := ⟨b, 0, none⟩) hpb).trans hp)).mono ?_
      rintro e w1 ⟨rfl, hb1⟩
      by_cases h : c.comp = id
      · have H1 : Hid (pIdx id 0 ps = k) := Lib.hid (by rw [hstep.out]; unfold pIdx; rw [if_pos h])
        have e1 : (c.comp == id) = true := by simp [h]
        clear h
        go_wp2
        go_ret
        exact ⟨ret_intk H1.out.symm, hbw.trans (hb1.mono hzr)⟩
      · have H1 := Lib.hid (hstep.out.trans (pIdx_skip h))
        have e1 : (c.comp == id) = false := by simp [h]
        clear h
        go_wp2
        go_roundw
        case rel => exact ⟨k + 1, by omega, by go_num, H1.out, hbw.trans (hb1.mono hzr)⟩
        case measure => simp [intOf]; omega
    · obtain rfl : k = len := by omega
      have H1 : Hid (pIdx id 0 ps = -1) := Lib.hid (by rw [HG.out, List.drop_eq_nil_of_le (by have := hcs.1; omega)]; rfl)
      go_wp2
      go_ret
      exact ⟨ret_intk H1.out.symm, hbw⟩
theorem clo_val (i id : Int) (a : Option Addr) (n c b : Nat) (w : World) (hp : w.cell? ⟨b, 0, none⟩ = some (.int .i64 id)) :
    Calls Tryz.prog 112 #[.agg #[.int .i64 i, .slice a n c], .pointer (some ⟨b, 0, none⟩)] w fun e w' => e = .returned (.bool (i == id)) ∧ Below w.heap.size w w' := by
  have hpb : b < w.heap.size := World.block_lt_of_cell? w _ hp
  go_enter Tryz.func112, Tryz.ntmps112
  go_wp2
  go_ret
  exact ⟨rfl, by go_grown⟩
set_option maxRecDepth 100000 in
set_option maxHeartbeats 1000000 in
theorem ixParts_val (id : Int) (ps : List PW) (a : Option Addr) (len cap b : Nat) (w : World) (hcs : PartsAt w.heap.size w a len cap ps) (hp : w.cell? ⟨b, 0, none⟩ = some (.int .i64 id)) :
    Calls Tryz.prog 111 #[.slice a len cap, .func (.func 112) #[] #[.pointer (some ⟨b, 0, none⟩)]] w fun e w' => e = .returned (.int .i64 (pIdx id 0 ps)) ∧ Below w.heap.size w w' := by
  have hmx : len ≤ maxLen := by have := hcs.2.1; have := hcs.2.2.1; omega
  unfold maxLen at hmx
  have hpb : b < w.heap.size := World.block_lt_of_cell? w _ hp
  go_enter Tryz.func111, Tryz.ntmps111
  go_wp2_with fail
  go_loopw [8] (fun i wr => ∃ (k : Nat), k ≤ len ∧ i = .int .i64 k ∧ pIdx id 0 ps = pIdx id k (ps.drop k) ∧ Below w.heap.size w wr) (fun i _ => len - (intOf i).toNat)
  case atStart => exact ⟨0, Nat.zero_le _, rfl, rfl, Below.refl _ _⟩
  case round =>
    obtain ⟨k, hk, rfl, hgo, hbw⟩ := hrel
    have HG := Lib.hid hgo
    clear hgo
    have hzr := hbw.size
    by_cases hlt : k < len
    · obtain ⟨b1, off, c, rfl, hB, hc, _, c0, c1⟩ := hcs.get hbw hlt
      have hstep := Lib.hid (HG.out.trans (by rw [drop_get hc]))
      go_wp2_with fail
      refine (clo_val _ id _ _ _ b _ ((hbw.cell (p := ⟨b, 0, none⟩) hpb).trans hp)).mono ?_
      rintro e w1 ⟨rfl, hb1⟩
      by_cases h : c.comp = id
      · have H1 : Hid (pIdx id 0 ps = k) := Lib.hid (by rw [hstep.out]; unfold pIdx; rw [if_pos h])
        have e1 : (c.comp == id) = true := by simp [h]
        clear h
        go_wp2
        go_ret
        exact ⟨ret_intk H1.out.symm, hbw.trans (hb1.mono hzr)⟩
      · have H1 := Lib.hid (hstep.out.trans (pIdx_skip h))
        have e1 : (c.comp == id) = false := by simp [h]
        clear h
        go_wp2
        go_roundw
        case rel => exact ⟨k + 1, by omega, by go_num, H1.out, hbw.trans (hb1.mono hzr)⟩
        case measure => simp [intOf]; omega
    · obtain rfl : k = len := by omega
      have H1 : Hid (pIdx id 0 ps = -1) := Lib.hid (by rw [HG.out, List.drop_eq_nil_of_le (by have := hcs.1; omega)]; rfl)
      go_wp2
      go_ret
      exact ⟨ret_intk H1.out.symm, hbw⟩
set_option maxRecDepth 100000 in
theorem hasParts_any (id : Int) (ps : List PW) (a : Option Addr) (len cap b : Nat) (w : World) (hcs : PartsAt w.heap.size w a len cap ps) (hp : w.cell? ⟨b, 0, none⟩ = some (.int .i64 id)) :
    Calls Tryz.prog 132 #[.slice a len cap, .func (.func 133) #[] #[.pointer (some ⟨b, 0, none⟩)]] w fun e w' => e = .returned (.bool (ps.any fun q => q.comp == id)) ∧ Below w.heap.size w w' := by
  have HH := Lib.hid (ixParts_chk id ps a len cap b w hcs hp)
  clear hcs hp
  cases hany : ps.any fun q => q.comp == id
  · have e1 := pIdx_none ps 0 hany
    rw [e1] at HH
    clear hany e1
    go_enter Tryz.func132, Tryz.ntmps132
    go_wp2_with fail
    refine HH.out.mono ?_
    rintro e w1 ⟨rfl, hb⟩
    go_wp2_with fail
    go_ret
    exact ⟨rfl, hb⟩
  · have e1 := pIdx_nn ps 0 hany
    obtain ⟨n, hn⟩ := Int.eq_ofNat_of_zero_le e1
    rw [hn] at HH
    have e2 : decide ((0 : Int) ≤ (n : Int)) = true := by simp
    clear hany e1 hn
    go_enter Tryz.func132, Tryz.ntmps132
    go_wp2_with fail
    refine HH.out.mono ?_
    rintro e w1 ⟨rfl, hb⟩
    go_wp2_with fail
    go_ret
    exact ⟨rfl, hb⟩
set_option maxRecDepth 100000 in
theorem value_any (id : Int) (ps : List PW) (p : PW) (a : Option Addr) (len cap : Nat) (w : World) (hcs : PartsAt w.heap.size w a len cap ps) (hf : ps.find? (fun c => decide (c.comp = id)) = some p) :
    Calls Tryz.prog 69 #[.slice a len cap, .int .i64 id] w fun e w' => e = .returned (.slice p.va p.vl p.vc) ∧ Below w.heap.size w w' := by
  have hb0 : Below w.heap.size w (w.alloc (.cells #[.int .i64 id] 3)) := by go_grown
  have hc0 := heap_alloc_new w (.cells #[.int .i64 id] 3)
  have c0 := cell_at hc0 0
  obtain ⟨j, hj, hp⟩ := pIdx_some ps 0 hf
  rw [Nat.zero_add] at hj
  have HH := Lib.hid (ixParts_val id ps a len cap w.heap.size _ ((hcs.below hb0).mono hb0.size) c0)
  rw [hj] at HH
  have hjl : j < len := by have := (List.getElem?_eq_some_iff.1 hp).1; have := hcs.1; omega
  have hm : len ≤ maxLen := by have := hcs.2.1; have := hcs.2.2.1; omega
  unfold maxLen at hm
  have HCS := Lib.hid hcs
  have HB0 := Lib.hid hb0
  have HP := Lib.hid hp
  clear hcs hb0 hc0 c0 hf hp hj
  go_enter Tryz.func69, Tryz.ntmps69
  go_wp2_with fail
  refine HH.out.mono ?_
  rintro e w1 ⟨rfl, hb⟩
  have hbw := HB0.out.trans (hb.mono HB0.out.size)
  obtain ⟨b1, off, p', rfl, hB, hp', _, k0, k1⟩ := HCS.out.get hbw hjl
  have := HP.out
  rw [hp'] at this
  cases this
  have i1 : (0 : Int) ≤ (j : Int) := by omega
  have i2 : (j : Int) < (len : Int) := by omega
  clear hp' HH hb
  go_wp2_with fail
  go_ret
  exact ⟨rfl, hbw⟩
def cpsGo (cs : List Cmp) : List PW → List PW → Int
  | _, [] => 0
  | seen, p :: r => if (seen.any fun q => q.comp == p.comp) then 1 else if cpF cs p ≠ 0 then cpF cs p else cpsGo cs (seen ++ [p]) r
set_option maxRecDepth 100000 in
set_option maxHeartbeats 2000000 in
theorem checkParts_any (ver : Int) (cs : List Cmp) (a : Option Addr) (len cap : Nat) (ps : List PW) (pa : Option Addr) (pl pc : Nat) (w : World) (hcs : CompsAt w.heap.size w a len cs) (hf : ∀ c ∈ cs, c.fields.length ≤ 100000) (hps : PartsAt w.heap.size w pa pl pc ps) :
    Calls Tryz.prog 102 #[.agg #[.int .i64 ver, .slice a len cap], .slice pa pl pc] w fun e w' => e = .returned (.int .i64 (cpsGo cs [] ps)) ∧ Below w.heap.size w w' := by
  have hm : pl ≤ maxLen := by have := hps.2.1; have := hps.2.2.1; omega
  have hmc : pl ≤ pc := hps.2.1
  have hmd : pc ≤ maxLen := hps.2.2.1
  unfold maxLen at hm hmd
  have hw1 := heap_alloc_new w (.cells #[.int .i64 ver, .slice a len cap] 24)
  have hb0 : Below w.heap.size w (w.alloc (.cells #[.int .i64 ver, .slice a len cap] 24)) := by go_grown
  have HS := Lib.hid (And.intro hw1 hb0)
  have HCS := Lib.hid (And.intro hcs hf)
  have HPS := Lib.hid hps
  have HZ := Lib.hid (World.size_alloc w (.cells #[.int .i64 ver, .slice a len cap] 24))
  clear hw1 hb0 hcs hf hps
  go_enter Tryz.func102, Tryz.ntmps102
  go_wp2_with fail
  generalize w.alloc (.cells #[.int .i64 ver, .slice a len cap] 24) = W at *
  obtain ⟨H, hH⟩ : ∃ H, w.heap.size = H := ⟨_, rfl⟩
  rw [hH]
  go_loopw [10] (fun i wr => ∃ (k : Nat), k ≤ pl ∧ i = .int .i64 k ∧ cpsGo cs [] ps = cpsGo cs (ps.take k) (ps.drop k) ∧ Below (H + 1) W wr) (fun i _ => pl - (intOf i).toNat)
  case atStart => exact ⟨0, Nat.zero_le _, rfl, rfl, Below.refl _ _⟩
  case round =>
    obtain ⟨k, hk, rfl, hgo, hbr⟩ := hrel
    have hzW := HZ.out
    have hzr := hbr.size
    have hbw : Below w.heap.size w wr := HS.out.2.trans (hbr.mono (by omega))
    have hS1 := HS.out.1
    rw [hH] at hS1
    have hblk := (hbr.block H (by omega)).trans hS1
    have HG := Lib.hid hgo
    have HBLK := Lib.hid hblk
    have HBW := Lib.hid hbw
    have HBR := Lib.hid hbr
    have hHr : H < wr.heap.size := by omega
    clear hgo hblk hbw hbr hzW hzr hS1
    by_cases hlt : k < pl
    · obtain ⟨b1, off, p, rfl, hB, hp, hpi, c0, c1⟩ := HPS.out.get HBW.out hlt
      have hstep : cpsGo cs [] ps = if ((ps.take k).any fun q => q.comp == p.comp) then 1 else if cpF cs p ≠ 0 then cpF cs p else cpsGo cs (ps.take (k + 1)) (ps.drop (k + 1)) := by
        rw [HG.out, drop_get hp, take_snoc hp]; rfl
      have hpt := ((HPS.out.below HBW.out).take (show k ≤ pl by omega))
      have hba : Below w.heap.size w (wr.alloc (.cells #[.int .i64 p.comp, .slice p.va p.vl p.vc] 85)) := HBW.out.alloc HBW.out.size _
      have hpa := heap_alloc_new wr (.cells #[.int .i64 p.comp, .slice p.va p.vl p.vc] 85)
      have hbb : Below (H + 1) W (wr.alloc (.cells #[.int .i64 p.comp, .slice p.va p.vl p.vc] 85)) := HBR.out.alloc (by omega) _
      have hblkA := keepA (.cells #[.int .i64 p.comp, .slice p.va p.vl p.vc] 85) HBLK.out
      have HSTEP := Lib.hid hstep
      have HP := Lib.hid hp
      have HPI := Lib.hid hpi
      have HAA := Lib.hid (And.intro hba (And.intro hpa (And.intro hbb hblkA)))
      have i1 : (0 : Int) ≤ (k : Int) := by omega
      have i2 : (k : Int) < (pl : Int) := by omega
      have hzA := World.size_alloc wr (.cells #[.int .i64 p.comp, .slice p.va p.vl p.vc] 85)
      clear hstep hp hpi hpt hba hpa hbb hblkA
      go_wp2_with fail
      generalize hwA : wr.alloc (.cells #[.int .i64 p.comp, .slice p.va p.vl p.vc] 85) = wA at *
      obtain ⟨F, hF⟩ : ∃ F, wr.heap.size = F := ⟨_, rfl⟩
      rw [hF] at HAA hzA hHr ⊢
      refine (hasParts_any p.comp (ps.take k) _ k _ F _ (((HPS.out.below HAA.out.1).mono HAA.out.1.size).take (by omega)) (by rw [cell_at HAA.out.2.1]; rfl)).mono ?_
      rintro e w3 ⟨rfl, hb3⟩
      cases hany : (ps.take k).any fun q => q.comp == p.comp
      · have hblk3 := keep hb3 HAA.out.2.2.2
        have hpp3 := keep hb3 HAA.out.2.1
        have k0 := cell_at hblk3 0
        have k1 := cell_at hblk3 1
        have q0 := cell_at hpp3 0
        have q1 := cell_at hpp3 1
        simp at k0 k1 q0 q1
        have hz3 := hb3.size
        have hbw3 := HAA.out.1.trans (hb3.mono (show w.heap.size ≤ wA.heap.size from HAA.out.1.size))
        have hbr3 := HAA.out.2.2.1.trans (hb3.mono (show H + 1 ≤ wA.heap.size by omega))
        have HX := Lib.hid (And.intro hbw3 (And.intro hbr3 hblk3))
        have HANY := Lib.hid hany
        clear hblk3 hpp3 hbw3 hbr3 hany hb3
        go_wp2_with fail
        refine (checkPart_any ver cs a len cap p _ ((HCS.out.1.below HX.out.1).mono HX.out.1.size) HCS.out.2 ((HPS.out.2.2.2.1 p (List.mem_of_getElem? HP.out)).below HX.out.1 |>.mono HX.out.1.size)).mono ?_
        rintro e w4 ⟨rfl, hb4⟩
        have hbr4 := HX.out.2.1.trans (hb4.mono (show H + 1 ≤ w3.heap.size by omega))
        have hbw4 := HX.out.1.trans (hb4.mono HX.out.1.size)
        have HY := Lib.hid (And.intro hbr4 hbw4)
        obtain ⟨r, hr⟩ : ∃ r, cpF cs p = r := ⟨_, rfl⟩
        rw [hr]
        clear hb4 hbr4 hbw4 k0 k1 q0 q1
        by_cases hr0 : r = 0
        · have e1 : (r != 0) = false := by rw [hr0]; rfl
          have HR := Lib.hid (show cpsGo cs [] ps = cpsGo cs (ps.take (k + 1)) (ps.drop (k + 1)) by rw [HSTEP.out, HANY.out, hr, if_neg (by decide), if_neg (by simp [hr0])])
          clear hr hr0
          go_wp2_with fail
          go_roundw
          case rel => exact ⟨k + 1, by omega, by go_num, HR.out, HY.out.1⟩
          case measure => simp [intOf]; omega
        · have e1 : (r != 0) = true := by rw [bne_iff_ne]; exact hr0
          have HR := Lib.hid (show r = cpsGo cs [] ps by rw [HSTEP.out, HANY.out, hr, if_neg (by decide), if_pos hr0])
          clear hr hr0
          go_wp2_with fail
          go_ret
          exact ⟨ret_intk HR.out, HY.out.2⟩
      · have HR := Lib.hid (show (1 : Int) = cpsGo cs [] ps by rw [HSTEP.out, hany]; rfl)
        have HB3 := Lib.hid (HAA.out.1.trans (hb3.mono HAA.out.1.size))
        clear hany hb3
        go_wp2_with fail
        go_ret
        exact ⟨ret_intk HR.out, HB3.out⟩
    · obtain rfl : k = pl := by omega
      have HR := Lib.hid (show (0 : Int) = cpsGo cs [] ps by rw [HG.out, List.drop_eq_nil_of_le (by have := HPS.out.1; omega)]; rfl)
      go_wp2_with fail
      go_ret
      exact ⟨ret_intk HR.out, HBW.out⟩
end Go.Proofs.YtoadihebdaooaaaGreat
