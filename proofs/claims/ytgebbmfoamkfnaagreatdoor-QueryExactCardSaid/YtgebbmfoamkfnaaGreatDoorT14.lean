/- Contracts of schema.CheckParts, table.value. Printed by mkfor.py out of U9.in. · A table with rows: how it lies; its readers, Keep, Yield. · A table's readers, Keep, Yield, check. · Plain: a row that may be added has a fitting part for each component. -/
import Derived.Test.YtgebbmfoamkfnaaGreatDoorT13
namespace Go.Proofs.YtgebbmfoamkfnaaGreatDoor
open Go.RowKit
set_option linter.unusedVariables false
def pIdx (id : Int) : Nat → List PW → Int
 | _, [] => -1
 | k, p :: r => if p.comp = id then (k : Int) else pIdx id (k + 1) r
theorem pIdx_skip {id : Int} {k : Nat} {p : PW} {r : List PW} (h : ¬ p.comp = id) : pIdx id k (p :: r) = pIdx id (k + 1) r := by
 conv => lhs; unfold pIdx
 rw [if_neg h]
theorem pIdx_none {id : Int} : ∀ (l : List PW) (k : Nat), (l.any fun q => q.comp == id) = false → pIdx id k l = -1
 | [], _, _ => rfl
 | p :: r, k, h => by
  rw [List.any_cons, Bool.or_eq_false_iff] at h
  rw [pIdx_skip (by simpa using h.1)]
  exact pIdx_none r (k + 1) h.2
theorem pIdx_nn {id : Int} : ∀ (l : List PW) (k : Nat), (l.any fun q => q.comp == id) = true → 0 ≤ pIdx id k l
 | [], _, h => by simp at h
 | p :: r, k, h => by
  unfold pIdx
  split
  ·omega
  ·rename_i hc
   rw [List.any_cons] at h
   exact pIdx_nn r (k + 1) (by simpa [hc] using h)
theorem pIdx_some {id : Int} {p : PW} : ∀ (l : List PW) (k : Nat), l.find? (fun c => decide (c.comp = id)) = some p → ∃ j, pIdx id k l = ((k + j : Nat) : Int) ∧ l[j]? = some p
 | [], _, h => by simp at h
 | c :: r, k, h => by
  rw [List.find?_cons] at h
  split at h
  ·rename_i hc
   cases h
   exact ⟨0, by unfold pIdx; rw [if_pos (by simpa using hc)]; rfl, rfl⟩
  ·rename_i hc
   obtain ⟨j, h1, h2⟩ := pIdx_some r (k + 1) h
   exact ⟨j + 1, by unfold pIdx; rw [if_neg (by simpa using hc), h1]; congr 1; omega, by simpa using h2⟩
theorem clo_chk (i id : Int) (a : Option Addr) (n c b : Nat) (w : World) (hp : w.cell? ⟨b, 0, none⟩ = some (.int .i64 id)) :
  Calls Tryz.prog 83 #[.agg #[.int .i64 i, .slice a n c], .pointer (some ⟨b, 0, none⟩)] w fun e w' => e = .returned (.bool (i == id)) ∧ Below w.heap.size w w' := by
 have hpb : b < w.heap.size := World.block_lt_of_cell? w _ hp
 go_enter Tryz.func83, Tryz.ntmps83
 go_wp2
 go_ret
 exact ⟨rfl, by go_grown⟩
set_option maxRecDepth 100000 in
set_option maxHeartbeats 1000000 in
theorem ixParts_chk (id : Int) (ps : List PW) (a : Option Addr) (len cap b : Nat) (w : World) (hcs : PartsAt w.heap.size w a len cap ps) (hp : w.cell? ⟨b, 0, none⟩ = some (.int .i64 id)) :
  Calls Tryz.prog 98 #[.slice a len cap, .func (.func 83) #[] #[.pointer (some ⟨b, 0, none⟩)]] w fun e w' => e = .returned (.int .i64 (pIdx id 0 ps)) ∧ Below w.heap.size w w' := by
 have hmx : len ≤ maxLen := by have := hcs.2.1; have := hcs.2.2.1; omega
 unfold maxLen at hmx
 have hpb : b < w.heap.size := World.block_lt_of_cell? w _ hp
 go_enter Tryz.func98, Tryz.ntmps98
 go_wp2_with fail
 go_loopw [8] (fun i wr => ∃ (k : Nat), k ≤ len ∧ i = .int .i64 k ∧ pIdx id 0 ps = pIdx id k (ps.drop k) ∧ Below w.heap.size w wr) (fun i _ => len - (intOf i).toNat)
 case atStart => exact ⟨0, Nat.zero_le _, rfl, rfl, Below.refl _ _⟩
 case round =>
  obtain ⟨k, hk, rfl, hgo, hbw⟩ := hrel
  have HG := Lib.hid hgo
  clear hgo
  have hzr := hbw.size
  by_cases hlt : k < len
  ·obtain ⟨b1, off, c, rfl, hB, hc, _, c0, c1⟩ := hcs.get hbw hlt
   have hstep := Lib.hid (HG.out.trans (by rw [drop_get hc]))
   go_wp2_with fail
   refine (clo_chk _ id _ _ _ b _ ((hbw.cell (p := ⟨b, 0, none⟩) hpb).trans hp)).mono ?_
   rintro e w1 ⟨rfl, hb1⟩
   by_cases h : c.comp = id
   ·have H1 : Hid (pIdx id 0 ps = k) := Lib.hid (by rw [hstep.out]; unfold pIdx; rw [if_pos h])
    have e1 : (c.comp == id) = true := by simp [h]
    clear h
    go_wp2
    go_ret
    exact ⟨ret_intk H1.out.symm, hbw.trans (hb1.mono hzr)⟩
   ·have H1 := Lib.hid (hstep.out.trans (pIdx_skip h))
    have e1 : (c.comp == id) = false := by simp [h]
    clear h
    go_wp2
    go_roundw
    case rel => exact ⟨k + 1, by omega, by go_num, H1.out, hbw.trans (hb1.mono hzr)⟩
    case measure => simp [intOf]; omega
  ·obtain rfl : k = len := by omega
   have H1 : Hid (pIdx id 0 ps = -1) := Lib.hid (by rw [HG.out, List.drop_eq_nil_of_le (by have := hcs.1; omega)]; rfl)
   go_wp2
   go_ret
   exact ⟨ret_intk H1.out.symm, hbw⟩
theorem clo_val (i id : Int) (a : Option Addr) (n c b : Nat) (w : World) (hp : w.cell? ⟨b, 0, none⟩ = some (.int .i64 id)) :
  Calls Tryz.prog 125 #[.agg #[.int .i64 i, .slice a n c], .pointer (some ⟨b, 0, none⟩)] w fun e w' => e = .returned (.bool (i == id)) ∧ Below w.heap.size w w' := by
 have hpb : b < w.heap.size := World.block_lt_of_cell? w _ hp
 go_enter Tryz.func125, Tryz.ntmps125
 go_wp2
 go_ret
 exact ⟨rfl, by go_grown⟩
set_option maxRecDepth 100000 in
set_option maxHeartbeats 1000000 in
theorem ixParts_val (id : Int) (ps : List PW) (a : Option Addr) (len cap b : Nat) (w : World) (hcs : PartsAt w.heap.size w a len cap ps) (hp : w.cell? ⟨b, 0, none⟩ = some (.int .i64 id)) :
  Calls Tryz.prog 98 #[.slice a len cap, .func (.func 125) #[] #[.pointer (some ⟨b, 0, none⟩)]] w fun e w' => e = .returned (.int .i64 (pIdx id 0 ps)) ∧ Below w.heap.size w w' := by
 have hmx : len ≤ maxLen := by have := hcs.2.1; have := hcs.2.2.1; omega
 unfold maxLen at hmx
 have hpb : b < w.heap.size := World.block_lt_of_cell? w _ hp
 go_enter Tryz.func98, Tryz.ntmps98
 go_wp2_with fail
 go_loopw [8] (fun i wr => ∃ (k : Nat), k ≤ len ∧ i = .int .i64 k ∧ pIdx id 0 ps = pIdx id k (ps.drop k) ∧ Below w.heap.size w wr) (fun i _ => len - (intOf i).toNat)
 case atStart => exact ⟨0, Nat.zero_le _, rfl, rfl, Below.refl _ _⟩
 case round =>
  obtain ⟨k, hk, rfl, hgo, hbw⟩ := hrel
  have HG := Lib.hid hgo
  clear hgo
  have hzr := hbw.size
  by_cases hlt : k < len
  ·obtain ⟨b1, off, c, rfl, hB, hc, _, c0, c1⟩ := hcs.get hbw hlt
   have hstep := Lib.hid (HG.out.trans (by rw [drop_get hc]))
   go_wp2_with fail
   refine (clo_val _ id _ _ _ b _ ((hbw.cell (p := ⟨b, 0, none⟩) hpb).trans hp)).mono ?_
   rintro e w1 ⟨rfl, hb1⟩
   by_cases h : c.comp = id
   ·have H1 : Hid (pIdx id 0 ps = k) := Lib.hid (by rw [hstep.out]; unfold pIdx; rw [if_pos h])
    have e1 : (c.comp == id) = true := by simp [h]
    clear h
    go_wp2
    go_ret
    exact ⟨ret_intk H1.out.symm, hbw.trans (hb1.mono hzr)⟩
   ·have H1 := Lib.hid (hstep.out.trans (pIdx_skip h))
    have e1 : (c.comp == id) = false := by simp [h]
    clear h
    go_wp2
    go_roundw
    case rel => exact ⟨k + 1, by omega, by go_num, H1.out, hbw.trans (hb1.mono hzr)⟩
    case measure => simp [intOf]; omega
  ·obtain rfl : k = len := by omega
   have H1 : Hid (pIdx id 0 ps = -1) := Lib.hid (by rw [HG.out, List.drop_eq_nil_of_le (by have := hcs.1; omega)]; rfl)
   go_wp2
   go_ret
   exact ⟨ret_intk H1.out.symm, hbw⟩
set_option maxRecDepth 100000 in
theorem hasParts_any (id : Int) (ps : List PW) (a : Option Addr) (len cap b : Nat) (w : World) (hcs : PartsAt w.heap.size w a len cap ps) (hp : w.cell? ⟨b, 0, none⟩ = some (.int .i64 id)) :
  Calls Tryz.prog 82 #[.slice a len cap, .func (.func 83) #[] #[.pointer (some ⟨b, 0, none⟩)]] w fun e w' => e = .returned (.bool (ps.any fun q => q.comp == id)) ∧ Below w.heap.size w w' := by
 have HH := Lib.hid (ixParts_chk id ps a len cap b w hcs hp)
 clear hcs hp
 cases hany : ps.any fun q => q.comp == id
 ·have e1 := pIdx_none ps 0 hany
  rw [e1] at HH
  clear hany e1
  go_enter Tryz.func82, Tryz.ntmps82
  go_wp2_with fail
  refine HH.out.mono ?_
  rintro e w1 ⟨rfl, hb⟩
  go_wp2_with fail
  go_ret
  exact ⟨rfl, hb⟩
 ·have e1 := pIdx_nn ps 0 hany
  obtain ⟨n, hn⟩ := Int.eq_ofNat_of_zero_le e1
  rw [hn] at HH
  have e2 : decide ((0 : Int) ≤ (n : Int)) = true := by simp
  clear hany e1 hn
  go_enter Tryz.func82, Tryz.ntmps82
  go_wp2_with fail
  refine HH.out.mono ?_
  rintro e w1 ⟨rfl, hb⟩
  go_wp2_with fail
  go_ret
  exact ⟨rfl, hb⟩
set_option maxRecDepth 100000 in
theorem value_any (id : Int) (ps : List PW) (p : PW) (a : Option Addr) (len cap : Nat) (w : World) (hcs : PartsAt w.heap.size w a len cap ps) (hf : ps.find? (fun c => decide (c.comp = id)) = some p) :
  Calls Tryz.prog 93 #[.slice a len cap, .int .i64 id] w fun e w' => e = .returned (.slice p.va p.vl p.vc) ∧ Below w.heap.size w w' := by
 have hb0 : Below w.heap.size w (w.alloc (.cells #[.int .i64 id] 3)) := by go_grown
 have hc0 := heap_alloc_new w (.cells #[.int .i64 id] 3)
 have c0 := cell_at hc0 0
 obtain ⟨j, hj, hp⟩ := pIdx_some ps 0 hf
 rw [Nat.zero_add] at hj
 have HH := Lib.hid (ixParts_val id ps a len cap w.heap.size _ ((hcs.below hb0).mono hb0.size) c0)
 rw [hj] at HH
 have hjl : j < len := by have := (List.getElem?_eq_some_iff.1 hp).1; have := hcs.1; omega
 have hm : len ≤ maxLen := by have := hcs.2.1; have := hcs.2.2.1; omega
 unfold maxLen at hm
 have HCS := Lib.hid hcs
 have HB0 := Lib.hid hb0
 have HP := Lib.hid hp
 clear hcs hb0 hc0 c0 hf hp hj
 go_enter Tryz.func93, Tryz.ntmps93
 go_wp2_with fail
 refine HH.out.mono ?_
 rintro e w1 ⟨rfl, hb⟩
 have hbw := HB0.out.trans (hb.mono HB0.out.size)
 obtain ⟨b1, off, p', rfl, hB, hp', _, k0, k1⟩ := HCS.out.get hbw hjl
 have := HP.out
 rw [hp'] at this
 cases this
 have i1 : (0 : Int) ≤ (j : Int) := by omega
 have i2 : (j : Int) < (len : Int) := by omega
 clear hp' HH hb
 go_wp2_with fail
 go_ret
 exact ⟨rfl, hbw⟩
def cpsGo (cs : List Cmp) : List PW → List PW → Int
 | _, [] => 0
 | seen, p :: r => if (seen.any fun q => q.comp == p.comp) then 1 else if cpF cs p ≠ 0 then cpF cs p else cpsGo cs (seen ++ [p]) r
set_option maxRecDepth 100000 in
set_option maxHeartbeats 2000000 in
theorem checkParts_any (ver : Int) (cs : List Cmp) (a : Option Addr) (len cap : Nat) (ps : List PW) (pa : Option Addr) (pl pc : Nat) (w : World) (hcs : CompsAt w.heap.size w a len cs) (hf : ∀ c ∈ cs, c.fields.length ≤ 100000) (hps : PartsAt w.heap.size w pa pl pc ps) :
  Calls Tryz.prog 46 #[.agg #[.int .i64 ver, .slice a len cap], .slice pa pl pc] w fun e w' => e = .returned (.int .i64 (cpsGo cs [] ps)) ∧ Below w.heap.size w w' := by
 have hm : pl ≤ maxLen := by have := hps.2.1; have := hps.2.2.1; omega
 have hmc : pl ≤ pc := hps.2.1
 have hmd : pc ≤ maxLen := hps.2.2.1
 unfold maxLen at hm hmd
 have hw1 := heap_alloc_new w (.cells #[.int .i64 ver, .slice a len cap] 24)
 have hb0 : Below w.heap.size w (w.alloc (.cells #[.int .i64 ver, .slice a len cap] 24)) := by go_grown
 have HS := Lib.hid (And.intro hw1 hb0)
 have HCS := Lib.hid (And.intro hcs hf)
 have HPS := Lib.hid hps
 have HZ := Lib.hid (World.size_alloc w (.cells #[.int .i64 ver, .slice a len cap] 24))
 clear hw1 hb0 hcs hf hps
 go_enter Tryz.func46, Tryz.ntmps46
 go_wp2_with fail
 generalize w.alloc (.cells #[.int .i64 ver, .slice a len cap] 24) = W at *
 obtain ⟨H, hH⟩ : ∃ H, w.heap.size = H := ⟨_, rfl⟩
 rw [hH]
 go_loopw [10] (fun i wr => ∃ (k : Nat), k ≤ pl ∧ i = .int .i64 k ∧ cpsGo cs [] ps = cpsGo cs (ps.take k) (ps.drop k) ∧ Below (H + 1) W wr) (fun i _ => pl - (intOf i).toNat)
 case atStart => exact ⟨0, Nat.zero_le _, rfl, rfl, Below.refl _ _⟩
 case round =>
  obtain ⟨k, hk, rfl, hgo, hbr⟩ := hrel
  have hzW := HZ.out
  have hzr := hbr.size
  have hbw : Below w.heap.size w wr := HS.out.2.trans (hbr.mono (by omega))
  have hS1 := HS.out.1
  rw [hH] at hS1
  have hblk := (hbr.block H (by omega)).trans hS1
  have HG := Lib.hid hgo
  have HBLK := Lib.hid hblk
  have HBW := Lib.hid hbw
  have HBR := Lib.hid hbr
  have hHr : H < wr.heap.size := by omega
  clear hgo hblk hbw hbr hzW hzr hS1
  by_cases hlt : k < pl
  ·obtain ⟨b1, off, p, rfl, hB, hp, hpi, c0, c1⟩ := HPS.out.get HBW.out hlt
   have hstep : cpsGo cs [] ps = if ((ps.take k).any fun q => q.comp == p.comp) then 1 else if cpF cs p ≠ 0 then cpF cs p else cpsGo cs (ps.take (k + 1)) (ps.drop (k + 1)) := by
    rw [HG.out, drop_get hp, take_snoc hp]; rfl
   have hpt := ((HPS.out.below HBW.out).take (show k ≤ pl by omega))
   have hba : Below w.heap.size w (wr.alloc (.cells #[.int .i64 p.comp, .slice p.va p.vl p.vc] 85)) := HBW.out.alloc HBW.out.size _
   have hpa := heap_alloc_new wr (.cells #[.int .i64 p.comp, .slice p.va p.vl p.vc] 85)
   have hbb : Below (H + 1) W (wr.alloc (.cells #[.int .i64 p.comp, .slice p.va p.vl p.vc] 85)) := HBR.out.alloc (by omega) _
   have hblkA := keepA (.cells #[.int .i64 p.comp, .slice p.va p.vl p.vc] 85) HBLK.out
   have HSTEP := Lib.hid hstep
   have HP := Lib.hid hp
   have HPI := Lib.hid hpi
   have HAA := Lib.hid (And.intro hba (And.intro hpa (And.intro hbb hblkA)))
   have i1 : (0 : Int) ≤ (k : Int) := by omega
   have i2 : (k : Int) < (pl : Int) := by omega
   have hzA := World.size_alloc wr (.cells #[.int .i64 p.comp, .slice p.va p.vl p.vc] 85)
   clear hstep hp hpi hpt hba hpa hbb hblkA
   go_wp2_with fail
   generalize hwA : wr.alloc (.cells #[.int .i64 p.comp, .slice p.va p.vl p.vc] 85) = wA at *
   obtain ⟨F, hF⟩ : ∃ F, wr.heap.size = F := ⟨_, rfl⟩
   rw [hF] at HAA hzA hHr ⊢
   refine (hasParts_any p.comp (ps.take k) _ k _ F _ (((HPS.out.below HAA.out.1).mono HAA.out.1.size).take (by omega)) (by rw [cell_at HAA.out.2.1]; rfl)).mono ?_
   rintro e w3 ⟨rfl, hb3⟩
   cases hany : (ps.take k).any fun q => q.comp == p.comp
   ·have hblk3 := keep hb3 HAA.out.2.2.2
    have hpp3 := keep hb3 HAA.out.2.1
    have k0 := cell_at hblk3 0
    have k1 := cell_at hblk3 1
    have q0 := cell_at hpp3 0
    have q1 := cell_at hpp3 1
    simp at k0 k1 q0 q1
    have hz3 := hb3.size
    have hbw3 := HAA.out.1.trans (hb3.mono (show w.heap.size ≤ wA.heap.size from HAA.out.1.size))
    have hbr3 := HAA.out.2.2.1.trans (hb3.mono (show H + 1 ≤ wA.heap.size by omega))
    have HX := Lib.hid (And.intro hbw3 (And.intro hbr3 hblk3))
    have HANY := Lib.hid hany
    clear hblk3 hpp3 hbw3 hbr3 hany hb3
    go_wp2_with fail
    refine (checkPart_any ver cs a len cap p _ ((HCS.out.1.below HX.out.1).mono HX.out.1.size) HCS.out.2 ((HPS.out.2.2.2.1 p (List.mem_of_getElem? HP.out)).below HX.out.1 |>.mono HX.out.1.size)).mono ?_
    rintro e w4 ⟨rfl, hb4⟩
    have hbr4 := HX.out.2.1.trans (hb4.mono (show H + 1 ≤ w3.heap.size by omega))
    have hbw4 := HX.out.1.trans (hb4.mono HX.out.1.size)
    have HY := Lib.hid (And.intro hbr4 hbw4)
    obtain ⟨r, hr⟩ : ∃ r, cpF cs p = r := ⟨_, rfl⟩
    rw [hr]
    clear hb4 hbr4 hbw4 k0 k1 q0 q1
    by_cases hr0 : r = 0
    ·have e1 : (r != 0) = false := by rw [hr0]; rfl
     have HR := Lib.hid (show cpsGo cs [] ps = cpsGo cs (ps.take (k + 1)) (ps.drop (k + 1)) by rw [HSTEP.out, HANY.out, hr, if_neg (by decide), if_neg (by simp [hr0])])
     clear hr hr0
     go_wp2_with fail
     go_roundw
     case rel => exact ⟨k + 1, by omega, by go_num, HR.out, HY.out.1⟩
     case measure => simp [intOf]; omega
    ·have e1 : (r != 0) = true := by rw [bne_iff_ne]; exact hr0
     have HR := Lib.hid (show r = cpsGo cs [] ps by rw [HSTEP.out, HANY.out, hr, if_neg (by decide), if_pos hr0])
     clear hr hr0
     go_wp2_with fail
     go_ret
     exact ⟨ret_intk HR.out, HY.out.2⟩
   ·have HR := Lib.hid (show (1 : Int) = cpsGo cs [] ps by rw [HSTEP.out, hany]; rfl)
    have HB3 := Lib.hid (HAA.out.1.trans (hb3.mono HAA.out.1.size))
    clear hany hb3
    go_wp2_with fail
    go_ret
    exact ⟨ret_intk HR.out, HB3.out⟩
  ·obtain rfl : k = pl := by omega
   have HR := Lib.hid (show (0 : Int) = cpsGo cs [] ps by rw [HG.out, List.drop_eq_nil_of_le (by have := HPS.out.1; omega)]; rfl)
   go_wp2_with fail
   go_ret
   exact ⟨ret_intk HR.out, HBW.out⟩
end Go.Proofs.YtgebbmfoamkfnaaGreatDoor
namespace Go.Proofs.YtgebbmfoamkfnaaGreatDoor
open Go.RowKit
set_option linter.unusedVariables false
structure TD where
 tb : Nat
 ver : Int
 set : Int
 most : Nat
 kept : Nat
 ents : List Int
 ea : Option Addr
 ec : Nat
 ca : Option Addr
 cc : Nat
 la : Option Addr
 lc : Nat
 cps : List CV
 cols : List CD
def TD.cs (t : TD) : List Cmp := t.cps.map (·.c)
def TD.foot (t : TD) (b : Nat) : Prop := b = t.tb ∨ (Value.slice t.ea t.ents.length t.ec).ownBlock = some b ∨ ∃ d ∈ t.cols, d.foot b
structure TabIn (B : Nat) (w : World) (t : TD) : Prop where
 blk : w.heap[t.tb]? = some (.cells #[.int .i64 t.ver, .slice t.ca t.cps.length t.cc, .int .u32 t.set, .int .i64 (t.most : Int), .int .i64 (t.kept : Int), .slice t.ea t.ents.length t.ec, .slice t.la t.cps.length t.lc] 178 (0, 0))
 comps : w.ownsRow B 82 3 (.slice t.ca t.cps.length t.cc) t.cps.length (t.cps.flatMap compL)
 colsR : w.ownsRow B 181 4 (.slice t.la t.cps.length t.lc) t.cps.length (t.cps.flatMap colL)
 fields : ∀ x ∈ t.cps, CVF B w x
 entsR : w.ownsRow B 50 1 (.slice t.ea t.ents.length t.ec) t.ents.length (t.ents.map (.int .u64))
 hB : B ≤ t.tb
 len : t.cols.length = t.cps.length
 col : ∀ (i : Nat) (x : CV) (d : CD), t.cps[i]? = some x → t.cols[i]? = some d → d.cb = x.cb ∧ d.size = (planSize x.c.fields).toNat ∧ d.cap = t.most ∧ d.rows.length = t.ents.length
 colsA : ∀ d ∈ t.cols, ColAt B w d
 apart : ∀ (i j : Nat) (d e : CD), i ≠ j → t.cols[i]? = some d → t.cols[j]? = some e → ∀ b, d.foot b → ¬ e.foot b
 lay : ∀ x ∈ t.cps, layCheck x.c.fields = 0
 n24 : t.cps.length ≤ 24
 most1 : 1 ≤ t.most
 most2 : t.most ≤ 256
 room : t.ents.length + t.kept ≤ t.most
 set0 : 0 ≤ t.set
 set1 : t.set ≤ 4294967295
 ids : t.cps.map (·.c.id) = idsTo t.set 24
def Mut (w : World) (b : Nat) : Prop := ∀ cs t fr, w.heap[b]? = some (.cells cs t fr) → t ≠ 82 ∧ t ≠ 181 ∧ t ≠ 79
theorem mut_of {w : World} {b : Nat} {cs : Array Value} {t : TypeId} {fr : Nat × Nat} (h : w.heap[b]? = some (.cells cs t fr)) (h1 : t ≠ 82) (h2 : t ≠ 181) (h3 : t ≠ 79) : Mut w b := by
 intro cs' t' fr' h'
 rw [h] at h'
 cases h'
 exact ⟨h1, h2, h3⟩
theorem row_mut {F : Nat → Prop} {w : World} {B s : Nat} {e : TypeId} {v : Value} {n : Nat} {xs : List Value} (h : w.ownsRow B e s v n xs) (he : e = 82 ∨ e = 181 ∨ e = 79) (hM : ∀ b, F b → Mut w b) : ∀ x, v.ownBlock = some x → ¬ F x := by
 intro x hx hF
 rcases h.2 with ⟨rfl, _⟩ | ⟨g, cap, cur, rfl, _, hh, _⟩
 ·cases hx
 ·obtain rfl : g = x := by simpa [Value.ownBlock] using hx
  obtain ⟨h1, h2, h3⟩ := hM g hF _ _ _ hh
  rcases he with rfl | rfl | rfl <;> contradiction
theorem TabIn.foot_ge {B : Nat} {w : World} {t : TD} (h : TabIn B w t) {b : Nat} (hb : t.foot b) : B ≤ b ∧ b < w.heap.size := by
 rcases hb with rfl | hb | ⟨d, hd, hb⟩
 ·exact ⟨h.hB, lt_some h.blk⟩
 ·exact h.entsR.lt b hb
 ·exact (h.colsA d hd).foot_ge hb
theorem TabIn.foot_mut {B : Nat} {w : World} {t : TD} (h : TabIn B w t) {b : Nat} (hb : t.foot b) : Mut w b := by
 rcases hb with rfl | hb | ⟨d, hd, hb⟩
 ·exact mut_of h.blk (by decide) (by decide) (by decide)
 ·obtain ⟨cur, hh⟩ := row_type h.entsR hb
  exact mut_of hh (by decide) (by decide) (by decide)
 ·obtain ⟨cs, ty, fr, hh, ht⟩ := (h.colsA d hd).foot_ty hb
  rcases ht with rfl | rfl | rfl <;> exact mut_of hh (by decide) (by decide) (by decide)
theorem CVF.out {F : Nat → Prop} {B : Nat} {w w' : World} {x : CV} (h : CVF B w x) (ho : Out F w w') (hM : ∀ b, F b → Mut w b) : CVF B w' x := ⟨ownsRow_out h.row ho (row_mut h.row (.inr (.inr rfl)) hM), h.len, h.max, h.nil⟩
theorem TabIn.out {F : Nat → Prop} {B : Nat} {w w' : World} {t : TD} (h : TabIn B w t) (ho : Out F w w') (hF : ∀ b, t.foot b → ¬ F b) (hM : ∀ b, F b → Mut w b) : TabIn B w' t :=
 ⟨ho.keep h.blk (hF _ (.inl rfl)), ownsRow_out h.comps ho (row_mut h.comps (.inl rfl) hM), ownsRow_out h.colsR ho (row_mut h.colsR (.inr (.inl rfl)) hM), fun x hx => (h.fields x hx).out ho hM,
  ownsRow_out h.entsR ho (fun x hx => hF x (.inr (.inl hx))), h.hB, h.len, h.col, fun d hd => (h.colsA d hd).out ho (fun b hb => hF b (.inr (.inr ⟨d, hd, hb⟩))), h.apart, h.lay, h.n24, h.most1, h.most2, h.room, h.set0, h.set1, h.ids⟩
theorem TabIn.below {B : Nat} {w w' : World} {t : TD} (h : TabIn B w t) (hb : Below w.heap.size w w') : TabIn B w' t := h.out (F := fun _ => False) (Out.of hb) (fun _ _ => id) (fun _ => False.elim)
theorem TabIn.drewN {B : Nat} {w : World} {t : TD} (h : TabIn B w t) (n : Nat) : TabIn B (w.drewN n) t := h.below (below_drewN (Below.refl _ _) n)
theorem compL_at (l : List CV) {k : Nat} {y : CV} (h : l[k]? = some y) : (l.flatMap compL)[k * 3]? = some (.int .i64 y.c.id) ∧ (l.flatMap compL)[k * 3 + 1]? = some (.string y.c.name) ∧ (l.flatMap compL)[k * 3 + 2]? = some (.slice y.fa y.fl y.fc) := by
 induction l generalizing k with
 | nil => cases h
 | cons x r ih =>
  cases k with
  | zero => cases h; simp [compL]
  | succ k =>
   have hr := ih (k := k) (by simpa using h)
   have e : ((x :: r).flatMap compL) = compL x ++ r.flatMap compL := by simp
   have hl : (compL x).length = 3 := rfl
   rw [e]
   refine ⟨?_, ?_, ?_⟩
   ·rw [List.getElem?_append_right (by omega), hl, show (k + 1) * 3 - 3 = k * 3 by omega]; exact hr.1
   ·rw [List.getElem?_append_right (by omega), hl, show (k + 1) * 3 + 1 - 3 = k * 3 + 1 by omega]; exact hr.2.1
   ·rw [List.getElem?_append_right (by omega), hl, show (k + 1) * 3 + 2 - 3 = k * 3 + 2 by omega]; exact hr.2.2
theorem TabIn.compsAt {B : Nat} {w : World} {t : TD} (h : TabIn B w t) : CompsAt w.heap.size w t.ca t.cps.length t.cs := by
 refine ⟨by simp [TD.cs], by have := h.n24; unfold maxLen; omega, ?_⟩
 rcases Nat.eq_zero_or_pos t.cps.length with h0 | h0
 ·exact .inl h0
 ·obtain ⟨q, hq, hqB, hql, hqc⟩ := row_block h.comps h0
  refine .inr ⟨q, 0, hq, hql, fun i c hc => ?_⟩
  simp only [TD.cs, List.getElem?_map, Option.map_eq_some_iff] at hc
  obtain ⟨x, hx, rfl⟩ := hc
  obtain ⟨g0, g1, g2⟩ := compL_at t.cps hx
  have hf := h.fields x (List.mem_of_getElem? hx)
  rw [Nat.zero_add]
  exact ⟨hqc _ _ g0, hqc _ _ g1, x.fa, x.fl, x.fc, hqc _ _ g2, fieldsAt_row hf.row hf.len hf.max, hf.nil⟩
theorem TabIn.fields8 {B : Nat} {w : World} {t : TD} (h : TabIn B w t) : ∀ c ∈ t.cs, c.fields.length ≤ 100000 := by
 intro c hc
 simp only [TD.cs, List.mem_map] at hc
 obtain ⟨x, hx, rfl⟩ := hc
 have := (layCheck_zero (h.lay x hx)).1
 omega
end Go.Proofs.YtgebbmfoamkfnaaGreatDoor
namespace Go.Proofs.YtgebbmfoamkfnaaGreatDoor
open Go.RowKit
set_option linter.unusedVariables false
def TD.free (t : TD) : Nat := t.most - t.ents.length - t.kept
section
variable {B : Nat} {w : World} {t : TD}
theorem TabIn.cells (h : TabIn B w t) : w.cell? ⟨t.tb, 0, none⟩ = some (.int .i64 t.ver) ∧ w.cell? ⟨t.tb, 1, none⟩ = some (.slice t.ca t.cps.length t.cc) ∧ w.cell? ⟨t.tb, 2, none⟩ = some (.int .u32 t.set) ∧ w.cell? ⟨t.tb, 3, none⟩ = some (.int .i64 (t.most : Int)) ∧ w.cell? ⟨t.tb, 4, none⟩ = some (.int .i64 (t.kept : Int)) ∧ w.cell? ⟨t.tb, 5, none⟩ = some (.slice t.ea t.ents.length t.ec) ∧ w.cell? ⟨t.tb, 6, none⟩ = some (.slice t.la t.cps.length t.lc) ∧ ∀ o, w.frozen? ⟨t.tb, o, none⟩ = false := by
  have hb := h.blk
  refine ⟨?_, ?_, ?_, ?_, ?_, ?_, ?_, fun o => free_at hb o⟩ <;> (rw [cell_at hb]; rfl)
theorem tabSig_in (h : TabIn B w t) : Calls Tryz.prog 128 #[.pointer (some ⟨t.tb, 0, none⟩)] w fun e w' => e = .returned (.int .u32 t.set) ∧ w = w' := by
  obtain ⟨_, _, c2, _, _, _, _, _⟩ := h.cells
  clear h
  go_enter Tryz.func128, Tryz.ntmps128
  go_wp2_with fail
  go_returns
  exact ⟨rfl, rfl⟩
set_option maxRecDepth 100000 in
theorem tabRoom_in (h : TabIn B w t) : Calls Tryz.prog 86 #[.pointer (some ⟨t.tb, 0, none⟩)] w fun e w' => e = .returned (.int .i64 (t.free : Int)) ∧ ∃ n, w' = w.drewN n := by
  obtain ⟨_, _, _, c3, c4, c5, _, _⟩ := h.cells
  have h1 := h.most2
  have h2 := h.room
  clear h
  have e1 : IntKind.i64.wrap ((t.most : Int) - (t.ents.length : Int)) = (t.most : Int) - (t.ents.length : Int) := IntWalk.i64_in _ (by omega)
  have e2 : IntKind.i64.wrap ((t.most : Int) - (t.ents.length : Int) - (t.kept : Int)) = (t.free : Int) := by rw [IntWalk.i64_in _ (by omega)]; unfold TD.free; omega
  generalize t.ents.length = n at *
  generalize t.free = f at *
  go_enter Tryz.func86, Tryz.ntmps86
  go_wp2_with fail
  go_quiet (fail)
  go_wp2_with fail
  go_returns
  exact ⟨rfl, _, rfl⟩
theorem tabAt_in (h : TabIn B w t) (i : Int) : Calls Tryz.prog 130 #[.pointer (some ⟨t.tb, 0, none⟩), .int .i64 i] w fun e w' => e = .returned (.int .i64 (if 0 ≤ i ∧ i < t.ents.length then 0 else 3)) ∧ w = w' := by
  obtain ⟨_, _, _, _, _, c5, _, _⟩ := h.cells
  clear h
  generalize t.ents.length = n at *
  by_cases h0 : 0 ≤ i
  · by_cases h1 : i < n
    · have e1 : decide (i < 0) = false := by simp; omega
      have e2 : decide ((n : Int) ≤ i) = false := by simp; omega
      rw [if_pos ⟨h0, h1⟩]
      go_enter Tryz.func130, Tryz.ntmps130
      go_wp2_with fail
      go_returns
      exact ⟨rfl, rfl⟩
    · have e1 : decide (i < 0) = false := by simp; omega
      have e2 : decide ((n : Int) ≤ i) = true := by simp; omega
      rw [if_neg (fun h => h1 h.2)]
      go_enter Tryz.func130, Tryz.ntmps130
      go_wp2_with fail
      go_returns
      exact ⟨rfl, rfl⟩
  · have e1 : decide (i < 0) = true := by simp; omega
    rw [if_neg (fun h => h0 h.1)]
    go_enter Tryz.func130, Tryz.ntmps130
    go_wp2_with fail
    go_returns
    exact ⟨rfl, rfl⟩
/-- What is wrong with a new row. -/
def addErr (t : TD) (e : Int) (ps : List PW) : Int :=
  if e = 0 then 1 else if (partsF ps).2 ≠ 0 ∨ (partsF ps).1 ≠ t.set then 4 else if cpsGo t.cs [] ps ≠ 0 then cpsGo t.cs [] ps else if t.free = 0 then 5 else 0
set_option maxRecDepth 100000 in
set_option maxHeartbeats 1000000 in
theorem tabCheck_in (h : TabIn B w t) (e : Int) (ps : List PW) (pa : Option Addr) (pl pc : Nat) (hps : PartsAt w.heap.size w pa pl pc ps) (hl : pl ≤ 100000) :
    Calls Tryz.prog 91 #[.pointer (some ⟨t.tb, 0, none⟩), .int .u64 e, .slice pa pl pc] w fun en w' => en = .returned (.int .i64 (addErr t e ps)) ∧ Below w.heap.size w w' := by
  by_cases h0 : e = 0
  · have e1 : (e == 0) = true := by simp [h0]
    have HR := Lib.hid (show (1 : Int) = addErr t e ps by unfold addErr; rw [if_pos h0])
    clear h h0 hps
    go_enter Tryz.func91, Tryz.ntmps91
    go_wp2_with fail
    go_returns
    exact ⟨ret_intk HR.out, Below.refl _ _⟩
  · have e1 : (e == 0) = false := by simp [h0]
    have HH := Lib.hid h
    have HP := Lib.hid hps
    have H0 := Lib.hid h0
    clear h hps h0
    obtain ⟨s, hs⟩ : ∃ s, (partsF ps).1 = s := ⟨_, rfl⟩
    obtain ⟨f, hf⟩ : ∃ f, (partsF ps).2 = f := ⟨_, rfl⟩
    go_enter Tryz.func91, Tryz.ntmps91
    go_wp2_with fail
    refine (sigParts_any ps _ _ _ _ HP.out hl).mono ?_
    rintro en w1 ⟨rfl, hb1⟩
    rw [hs, hf]
    have HS := Lib.hid (And.intro hs hf)
    have h1 := HH.out.below hb1
    obtain ⟨c0, c1, c2, c3, c4, c5, c6, _⟩ := h1.cells
    have H1 := Lib.hid h1
    have HB1 := Lib.hid hb1
    clear hs hf h1 hb1
    by_cases hb : f ≠ 0 ∨ s ≠ t.set
    · have HR := Lib.hid (show (4 : Int) = addErr t e ps by unfold addErr; rw [if_neg H0.out, HS.out.1, HS.out.2, if_pos hb])
      by_cases hf0 : f = 0
      · have e2 : (f != 0) = false := by simp [hf0]
        have e3 : (s != t.set) = true := by rcases hb with h | h; · contradiction
                                            · rw [bne_iff_ne]; exact h
        clear hb hf0
        go_wp2_with fail
        go_returns
        exact ⟨ret_intk HR.out, HB1.out⟩
      · have e2 : (f != 0) = true := by rw [bne_iff_ne]; exact hf0
        clear hb hf0
        go_wp2_with fail
        go_returns
        exact ⟨ret_intk HR.out, HB1.out⟩
    · have e2 : (f != 0) = false := by
        have : f = 0 := Classical.byContradiction (fun h => hb (.inl h))
        simp [this]
      have e3 : (s != t.set) = false := by
        have : s = t.set := Classical.byContradiction (fun h => hb (.inr h))
        simp [this]
      have HNB := Lib.hid hb
      clear hb
      go_wp2_with fail
      refine (checkParts_any t.ver t.cs _ _ _ ps _ _ _ _ H1.out.compsAt H1.out.fields8 ((HP.out.below HB1.out).mono HB1.out.size)).mono ?_
      rintro en w2 ⟨rfl, hb2⟩
      have HB2 := Lib.hid (HB1.out.trans (hb2.mono HB1.out.size))
      have H2 := Lib.hid (H1.out.below hb2)
      obtain ⟨r, hr⟩ : ∃ r, cpsGo t.cs [] ps = r := ⟨_, rfl⟩
      rw [hr]
      clear hb2
      by_cases hr0 : r = 0
      · have e4 : (r != 0) = false := by simp [hr0]
        have HRR := Lib.hid (And.intro hr hr0)
        clear hr hr0
        go_wp2_with fail
        refine (tabRoom_in H2.out).mono ?_
        rintro en w3 ⟨rfl, n, rfl⟩
        by_cases hfr : t.free = 0
        · have e5 : ((t.free : Int) == 0) = true := by rw [hfr]; rfl
          have HR := Lib.hid (show (5 : Int) = addErr t e ps by unfold addErr; rw [if_neg H0.out, HS.out.1, HS.out.2, if_neg HNB.out, HRR.out.1, if_neg (by simp [HRR.out.2]), if_pos hfr])
          clear hfr
          go_wp2_with fail
          go_returns
          exact ⟨ret_intk HR.out, below_drewN HB2.out _⟩
        · have e5 : ((t.free : Int) == 0) = false := by rw [beq_eq_false_iff_ne]; omega
          have HR := Lib.hid (show (0 : Int) = addErr t e ps by unfold addErr; rw [if_neg H0.out, HS.out.1, HS.out.2, if_neg HNB.out, HRR.out.1, if_neg (by simp [HRR.out.2]), if_neg hfr])
          clear hfr
          go_wp2_with fail
          go_returns
          exact ⟨ret_intk HR.out, below_drewN HB2.out _⟩
      · have e4 : (r != 0) = true := by rw [bne_iff_ne]; exact hr0
        have HR := Lib.hid (show r = addErr t e ps by unfold addErr; rw [if_neg H0.out, HS.out.1, HS.out.2, if_neg HNB.out, hr, if_pos hr0])
        clear hr hr0
        go_wp2_with fail
        go_returns
        exact ⟨ret_intk HR.out, HB2.out⟩
end
end Go.Proofs.YtgebbmfoamkfnaaGreatDoor
namespace Go.Proofs.YtgebbmfoamkfnaaGreatDoor
open Go.RowKit
set_option linter.unusedVariables false
theorem withNat {s n : Nat} (hs : s < 4294967296) (h1 : 1 ≤ n) (h2 : n ≤ 24) : sWith (s : Int) (n : Int) = ((s ||| 2 ^ n : Nat) : Int) := by
 have hp : 2 ^ n < 4294967296 := by
  have : 2 ^ n ≤ 2 ^ 24 := Nat.pow_le_pow_right (by omega) h2
  omega
 unfold sWith
 rw [idB_true (by omega) (by omega), Int.toNat_natCast]
 have e : ((2 : Int) ^ n % 4294967296) = ((2 ^ n : Nat) : Int) := by
  have : ((2 : Int) ^ n) = ((2 ^ n : Nat) : Int) := by simp
  have hq : ((2 ^ n : Nat) : Int) < 4294967296 := by have := Int.ofNat_lt.2 hp; exact this
  rw [this]; exact Int.emod_eq_of_lt (Int.natCast_nonneg _) hq
 rw [e]
 simp only [if_true]
 exact u32_or_nat _ _ hs hp
theorem idNat {c : Int} (h : idB c = true) : ∃ n : Nat, c = n ∧ 1 ≤ n ∧ n ≤ 24 := by
 simp [idB] at h
 exact ⟨c.toNat, by omega, by omega, by omega⟩
theorem has_with {s c n : Int} (h0 : 0 ≤ s) (h1 : s ≤ 4294967295) (hc : idB c = true) (hn : idB n = true) : hasB (sWith s c) n = (decide (n = c) || hasB s n) := by
 obtain ⟨x, rfl⟩ := Int.eq_ofNat_of_zero_le h0
 obtain ⟨c, rfl, c1, c2⟩ := idNat hc
 obtain ⟨n, rfl, n1, n2⟩ := idNat hn
 have hx : x < 4294967296 := by omega
 have hp : 2 ^ c < 4294967296 := by
  have : 2 ^ c ≤ 2 ^ 24 := Nat.pow_le_pow_right (by omega) c2
  omega
 rw [withNat hx c1 c2, hasBit (Nat.or_lt_two_pow (n := 32) hx hp) n1 n2, hasBit hx n1 n2, Nat.testBit_or, Nat.testBit_two_pow, Bool.or_comm]
 congr 1
 by_cases h : c = n
 ·simp [h]
 ·simp [h]; omega
theorem has_zero (n : Int) : hasB 0 n = false := by
 cases h : idB n with
 | false => unfold hasB; rw [h]; rfl
 | true =>
  obtain ⟨n, rfl, n1, n2⟩ := idNat h
  have := hasBit (s := 0) (by decide) n1 n2
  rw [show ((0 : Nat) : Int) = 0 from rfl] at this
  rw [this]; simp
theorem has_fold {n : Int} (hn : idB n = true) : ∀ (ids : List Int), ids.all idB = true → hasB (foldS ids) n = decide (n ∈ ids) := by
 intro ids
 have : ∀ (m : Nat), m ≤ ids.length → ids.all idB = true → hasB (foldS (ids.take m)) n = decide (n ∈ ids.take m) := by
  intro m
  induction m with
  | zero => intro _ _; simp [foldS, has_zero]
  | succ m ih =>
   intro hm hall
   obtain ⟨x, hx⟩ : ∃ x, ids[m]? = some x := ⟨_, List.getElem?_eq_getElem (by omega)⟩
   obtain ⟨b0, b1⟩ := foldS_bd (ids.take m)
   have hxi : idB x = true := by rw [List.all_eq_true] at hall; exact hall x (List.mem_of_getElem? hx)
   rw [take_snoc hx, foldS_snoc, has_with b0 b1 hxi hn, ih (by omega) hall]
   by_cases h1 : n = x <;> by_cases h2 : n ∈ ids.take m <;> simp [h1, h2]
 intro hall
 have := this ids.length (Nat.le_refl _) hall
 rw [List.take_length] at this
 exact this
theorem idsTo_mem {s i : Int} (h : i ∈ idsTo s 24) : hasB s i = true ∧ idB i = true := by
 unfold idsTo at h
 rw [List.mem_filter] at h
 refine ⟨h.2, ?_⟩
 obtain ⟨j, hj, rfl⟩ := List.mem_map.1 h.1
 have := List.mem_range.1 hj
 exact idB_true (by omega) (by omega)
theorem idsTo_nodup (s : Int) (m : Nat) : (idsTo s m).Nodup := by
 unfold idsTo
 have h : (((List.range m).map fun (j : Nat) => (j : Int) + 1)).Nodup := by
  unfold List.Nodup
  rw [List.pairwise_map]
  have hr : List.Pairwise (fun a b => a ≠ b) (List.range m) := List.nodup_range
  exact hr.imp (fun {a b} h => by omega)
 exact h.sublist List.filter_sublist
theorem cpsGo_zero (cs : List Cmp) : ∀ (ps seen : List PW), cpsGo cs seen ps = 0 → ∀ p ∈ ps, cpF cs p = 0
 | [], _, _, p, h => by cases h
 | q :: r, seen, h, p, hp => by
  unfold cpsGo at h
  split at h
  ·cases h
  ·split at h
   ·rename_i h1; exact absurd h h1
   ·rename_i h1
    rcases List.mem_cons.1 hp with rfl | hp
    ·exact Classical.byContradiction h1
    ·exact cpsGo_zero cs r _ h p hp
theorem find_id {cps : List CV} (hn : (cps.map (·.c.id)).Nodup) {x : CV} (hx : x ∈ cps) : findC x.c.id (cps.map (·.c)) = some x.c := by
 unfold findC
 induction cps with
 | nil => cases hx
 | cons y r ih =>
  rw [List.map_cons, List.nodup_cons] at hn
  rw [List.map_cons, List.find?_cons]
  rcases List.mem_cons.1 hx with rfl | hx
  ·simp
  ·have : ¬ y.c.id = x.c.id := fun e => hn.1 (by rw [e]; exact List.mem_map_of_mem (f := (·.c.id)) hx)
   simp only [this, decide_false]
   exact ih hn.2 hx
def partOf (ps : List PW) (id : Int) : Option PW := ps.find? fun c => decide (c.comp = id)
def rowOf (ps : List PW) (x : CV) : List UInt8 := packF x.c.fields (match partOf ps x.c.id with | some p => p.val | none => [])
theorem add_ok {t : TD} {e : Int} {ps : List PW} (hids : t.cps.map (·.c.id) = idsTo t.set 24) (h : addErr t e ps = 0) : t.free ≠ 0 ∧ ∀ x ∈ t.cps, ∃ p, partOf ps x.c.id = some p ∧ p ∈ ps ∧ p.comp = x.c.id ∧ fitF x.c.fields p.val = 0 ∧ rowOf ps x = packF x.c.fields p.val := by
 unfold addErr at h
 split at h
 ·cases h
 ·split at h
  ·cases h
  ·rename_i _ h1
   split at h
   ·rename_i h2; exact absurd h h2
   ·rename_i h2
    split at h
    ·cases h
    ·rename_i h3
     refine ⟨h3, fun x hx => ?_⟩
     have hp2 : (partsF ps).2 = 0 := Classical.byContradiction (fun hh => h1 (.inl hh))
     have hp1 : (partsF ps).1 = t.set := Classical.byContradiction (fun hh => h1 (.inr hh))
     have h2' : cpsGo t.cs [] ps = 0 := Classical.byContradiction h2
     have hmem : x.c.id ∈ idsTo t.set 24 := by rw [← hids]; exact List.mem_map_of_mem (f := (·.c.id)) hx
     obtain ⟨hb, hi⟩ := idsTo_mem hmem
     have hall : (comps ps).all idB = true := by
      unfold partsF at hp2
      split at hp2
      ·rename_i hh; exact hh
      ·cases hp2
     have hfold : foldS (comps ps) = t.set := by
      unfold partsF at hp1 hp2
      rw [if_pos hall] at hp1 hp2
      split at hp1
      ·exact hp1
      ·rename_i hh; rw [if_neg hh] at hp2; cases hp2
     have hin : x.c.id ∈ comps ps := by
      have := has_fold hi (comps ps) hall
      rw [hfold, hb] at this
      simpa using this.symm
     unfold comps at hin
     obtain ⟨q, hq, hqc⟩ := List.mem_map.1 hin
     have hs : (partOf ps x.c.id).isSome = true := by
      unfold partOf
      rw [List.find?_isSome]
      exact ⟨q, hq, by simp [hqc]⟩
     obtain ⟨p, hp⟩ := Option.isSome_iff_exists.1 hs
     have hpm : p ∈ ps := List.mem_of_find?_eq_some hp
     have hpc : p.comp = x.c.id := by have := List.find?_some hp; simpa using this
     refine ⟨p, hp, hpm, hpc, ?_, by unfold rowOf; rw [hp]⟩
     have hcp := cpsGo_zero t.cs ps [] h2' p hpm
     unfold cpF at hcp
     rw [hpc] at hcp
     have := find_id (by rw [hids]; exact idsTo_nodup _ _) hx
     unfold TD.cs at hcp
     rw [this] at hcp
     exact hcp
end Go.Proofs.YtgebbmfoamkfnaaGreatDoor
