/- Contracts of schema.CheckPart, CheckParts; table.value. · Contracts of schema.CheckParts, table.value. Printed by mkfor.py out of U9.in. · A table with rows: how it lies; its readers, Keep, Yield. · A table's readers, Keep, Yield, check. · Plain: a row that may be added has a fitting part for each component. · What table.Add keeps, round by round. · Contract of table.Add. · Contract of table.Drop. -/
import Derived.Test.YtoadihebdaooaaaGreatQ6
import Derived.Test.YtoadihebdaooaaaGreatQ7
import Derived.Test.YtoadihebdaooaaaGreatQ2
namespace Go.Proofs.YtoadihebdaooaaaGreat
open Go.RowKit
set_option linter.unusedVariables false
theorem fieldsAt_row {w : World} {B : Nat} {va : Option Addr} {fl vc : Nat} {fs : List Fld} (h : w.ownsRow B 123 3 (.slice va fl vc) fl (fldCells fs)) (hl : fs.length = fl) (hm : fl ≤ maxLen) : FieldsAt w.heap.size w va fl fs :=
  (FieldsOn.of_row h hl hm).imp (fun b hb => ⟨by have := hb; omega, rfl⟩)
theorem row_cap {w : World} {B : Nat} {e : TypeId} {s : Nat} {va : Option Addr} {n vc : Nat} {xs : List Value} (h : w.ownsRow B e s (.slice va n vc) n xs) : n ≤ vc := by
  rcases h.2 with ⟨h1, h2⟩ | ⟨g, cap, cur, h1, _, _, h3, _⟩
  · cases h1; exact Nat.le_refl _
  · cases h1; exact h3
/-- What is wrong with a part. -/
def cpF (cs : List Cmp) (p : PW) : Int := match findC p.comp cs with
  | some c => fitF c.fields p.val
  | none => 6
set_option maxRecDepth 100000 in
set_option maxHeartbeats 1000000 in
theorem checkPart_any (ver : Int) (cs : List Cmp) (a : Option Addr) (len cap : Nat) (p : PW) (w : World) (hcs : CompsAt w.heap.size w a len cs) (hf : ∀ c ∈ cs, c.fields.length ≤ 100000) (hv : IntsAt w.heap.size w p.va p.vl p.vc p.val) :
    Calls Tryz.prog 134 #[.agg #[.int .i64 ver, .slice a len cap], .agg #[.int .i64 p.comp, .slice p.va p.vl p.vc]] w fun e w' => e = .returned (.int .i64 (cpF cs p)) ∧ Below w.heap.size w w' := by
  have hw1 := heap_alloc_new w (.cells #[.int .i64 ver, .slice a len cap] 24)
  have hw2 := keepA (.cells #[.int .i64 p.comp, .slice p.va p.vl p.vc] 85) hw1
  have hw3 := heap_alloc_new (w.alloc (.cells #[.int .i64 ver, .slice a len cap] 24)) (.cells #[.int .i64 p.comp, .slice p.va p.vl p.vc] 85)
  have hb0 : Below w.heap.size w ((w.alloc (.cells #[.int .i64 ver, .slice a len cap] 24)).alloc (.cells #[.int .i64 p.comp, .slice p.va p.vl p.vc] 85)) := by go_grown
  rw [World.size_alloc] at hw3
  have HV := Lib.hid hv
  have HCS := Lib.hid (And.intro hcs hf)
  have HB := Lib.hid (And.intro hw2 (And.intro hw3 hb0))
  clear hw1 hw2 hw3 hb0 hcs hf hv
  go_enter Tryz.func134, Tryz.ntmps134
  go_wp2_with fail
  refine (Find_any ver p.comp cs a len cap _ ((HCS.out.1.below HB.out.2.2).mono HB.out.2.2.size) HCS.out.2).mono ?_
  intro e w1 h
  generalize (w.alloc (.cells #[.int .i64 ver, .slice a len cap] 24)).alloc (.cells #[.int .i64 p.comp, .slice p.va p.vl p.vc] 85) = W at *
  have hzW := HB.out.2.2.size
  unfold IsFind at h
  cases hfc : findC p.comp cs with
  | none =>
    rw [hfc] at h
    obtain ⟨rfl, hb1⟩ := h
    have HR := Lib.hid (show (6 : Int) = cpF cs p by unfold cpF; rw [hfc])
    have HB1 := Lib.hid (HB.out.2.2.trans (hb1.mono hzW))
    have hz1 := hb1.size
    clear hfc hb1
    go_wp2_with fail
    go_returns
    exact ⟨ret_intk HR.out, HB1.out.alloc (by omega) _⟩
  | some c =>
    rw [hfc] at h
    obtain ⟨va, fl, vc, rfl, hrow, _, hb1⟩ := h
    have HR := Lib.hid (show fitF c.fields p.val = cpF cs p by unfold cpF; rw [hfc])
    have hz1 := hb1.size
    have hq := keep hb1 HB.out.2.1
    have hq2 := lt_some hq
    have c1 := cell_at hq 1
    simp at c1
    have hbA := HB.out.2.2.trans (hb1.mono hzW)
    have hfa := fieldsAt_row (hrow.1.alloc (.cells #[.int .i64 c.id, .string c.name, .slice va fl vc] 112)) hrow.2.1 hrow.2.2
    have hia := (HV.out.below (hbA.alloc (by omega) (.cells #[.int .i64 c.id, .string c.name, .slice va fl vc] 112))).mono (show w.heap.size ≤ (w1.alloc (.cells #[.int .i64 c.id, .string c.name, .slice va fl vc] 112)).heap.size by simp; omega)
    have HFA := Lib.hid hfa
    have HIA := Lib.hid hia
    have HCAP := Lib.hid (row_cap hrow.1)
    have HBA := Lib.hid hbA
    clear hfc hb1 hq hfa hia hrow hbA
    go_wp2_with fail
    refine (fit_any c.fields _ _ _ _ _ _ p.val _ HFA.out HCAP.out HIA.out).mono ?_
    rintro e w3 ⟨rfl, hb3⟩
    rw [HR.out]
    have HB3 := Lib.hid ((HBA.out.alloc (by omega) _).trans (hb3.mono (by simp; omega)))
    clear hb3
    go_wp2_with fail
    go_returns
    exact ⟨rfl, HB3.out⟩
end Go.Proofs.YtoadihebdaooaaaGreat
namespace Go.Proofs.YtoadihebdaooaaaGreat
open Go.RowKit
set_option linter.unusedVariables false
def pIdx (id : Int) : Nat → List PW → Int
  | _, [] => -1
  | k, p :: r => if p.comp = id then (k : Int) else pIdx id (k + 1) r
theorem pIdx_skip {id : Int} {k : Nat} {p : PW} {r : List PW} (h : ¬ p.comp = id) : pIdx id k (p :: r) = pIdx id (k + 1) r := by
  conv => lhs; unfold pIdx
  rw [if_neg h]
theorem pIdx_none {id : Int} : ∀ (l : List PW) (k : Nat), (l.any fun q => q.comp == id) = false → pIdx id k l = -1
  | [], _, _ => rfl
  | p :: r, k, h => by
    rw [List.any_cons, Bool.or_eq_false_iff] at h
    rw [pIdx_skip (by simpa using h.1)]
    exact pIdx_none r (k + 1) h.2
theorem pIdx_nn {id : Int} : ∀ (l : List PW) (k : Nat), (l.any fun q => q.comp == id) = true → 0 ≤ pIdx id k l
  | [], _, h => by simp at h
  | p :: r, k, h => by
    unfold pIdx
    split
    · omega
    · rename_i hc
      rw [List.any_cons] at h
      exact pIdx_nn r (k + 1) (by simpa [hc] using h)
theorem pIdx_some {id : Int} {p : PW} : ∀ (l : List PW) (k : Nat), l.find? (fun c => decide (c.comp = id)) = some p → ∃ j, pIdx id k l = ((k + j : Nat) : Int) ∧ l[j]? = some p
  | [], _, h => by simp at h
  | c :: r, k, h => by
    rw [List.find?_cons] at h
    split at h
    · rename_i hc
      cases h
      exact ⟨0, by unfold pIdx; rw [if_pos (by simpa using hc)]; rfl, rfl⟩
    · rename_i hc
      obtain ⟨j, h1, h2⟩ := pIdx_some r (k + 1) h
      exact ⟨j + 1, by unfold pIdx; rw [if_neg (by simpa using hc), h1]; congr 1; omega, by simpa using h2⟩
theorem clo_chk (i id : Int) (a : Option Addr) (n c b : Nat) (w : World) (hp : w.cell? ⟨b, 0, none⟩ = some (.int .i64 id)) :
    Calls Tryz.prog 133 #[.agg #[.int .i64 i, .slice a n c], .pointer (some ⟨b, 0, none⟩)] w fun e w' => e = .returned (.bool (i == id)) ∧ Below w.heap.size w w' := by
  have hpb : b < w.heap.size := World.block_lt_of_cell? w _ hp
  go_enter Tryz.func133, Tryz.ntmps133
  go_wp2
  go_ret
  exact ⟨rfl, by go_grown⟩
set_option maxRecDepth 100000 in
set_option maxHeartbeats 1000000 in
theorem ixParts_chk (id : Int) (ps : List PW) (a : Option Addr) (len cap b : Nat) (w : World) (hcs : PartsAt w.heap.size w a len cap ps) (hp : w.cell? ⟨b, 0, none⟩ = some (.int .i64 id)) :
    Calls Tryz.prog 111 #[.slice a len cap, .func (.func 133) #[] #[.pointer (some ⟨b, 0, none⟩)]] w fun e w' => e = .returned (.int .i64 (pIdx id 0 ps)) ∧ Below w.heap.size w w' := by
  have hmx : len ≤ maxLen := by have := hcs.2.1; have := hcs.2.2.1; omega
  unfold maxLen at hmx
  have hpb : b < w.heap.size := World.block_lt_of_cell? w _ hp
  go_enter Tryz.func111, Tryz.ntmps111
  go_wp2_with fail
  go_loopw [8] (fun i wr => ∃ (k : Nat), k ≤ len ∧ i = .int .i64 k ∧ pIdx id 0 ps = pIdx id k (ps.drop k) ∧ Below w.heap.size w wr) (fun i _ => len - (intOf i).toNat)
  case atStart => exact ⟨0, Nat.zero_le _, rfl, rfl, Below.refl _ _⟩
  case round =>
    obtain ⟨k, hk, rfl, hgo, hbw⟩ := hrel
    have HG := Lib.hid hgo
    clear hgo
    have hzr := hbw.size
    by_cases hlt : k < len
    · obtain ⟨b1, off, c, rfl, hB, hc, _, c0, c1⟩ := hcs.get hbw hlt
      have hstep := Lib.hid (HG.out.trans (by rw [drop_get hc]))
      go_wp2_with fail
      refine (clo_chk _ id _ _ _ b _ ((hbw.cell (p := ⟨b, 0, none⟩) hpb).trans hp)).mono ?_
      rintro e w1 ⟨rfl, hb1⟩
      by_cases h : c.comp = id
      · have H1 : Hid (pIdx id 0 ps = k) := Lib.hid (by rw [hstep.out]; unfold pIdx; rw [if_pos h])
        have e1 : (c.comp == id) = true := by simp [h]
        clear h
        go_wp2
        go_ret
        exact ⟨ret_intk H1.out.symm, hbw.trans (hb1.mono hzr)⟩
      · have H1 := Lib.hid (hstep.out.trans (pIdx_skip h))
        have e1 : (c.comp == id) = false := by simp [h]
        clear h
        go_wp2
        go_roundw
        case rel => exact ⟨k + 1, by omega, by go_num, H1.out, hbw.trans (hb1.mono hzr)⟩
        case measure => simp [intOf]; omega
    · obtain rfl : k = len := by omega
      have H1 : Hid (pIdx id 0 ps = -1) := Lib.hid (by rw [HG.out, List.drop_eq_nil_of_le (by have := hcs.1; omega)]; rfl)
      go_wp2
      go_ret
      exact ⟨ret_intk H1.out.symm, hbw⟩
theorem clo_val (i id : Int) (a : Option Addr) (n c b : Nat) (w : World) (hp : w.cell? ⟨b, 0, none⟩ = some (.int .i64 id)) :
    Calls Tryz.prog 112 #[.agg #[.int .i64 i, .slice a n c], .pointer (some ⟨b, 0, none⟩)] w fun e w' => e = .returned (.bool (i == id)) ∧ Below w.heap.size w w' := by
  have hpb : b < w.heap.size := World.block_lt_of_cell? w _ hp
  go_enter Tryz.func112, Tryz.ntmps112
  go_wp2
  go_ret
  exact ⟨rfl, by go_grown⟩
set_option maxRecDepth 100000 in
set_option maxHeartbeats 1000000 in
theorem ixParts_val (id : Int) (ps : List PW) (a : Option Addr) (len cap b : Nat) (w : World) (hcs : PartsAt w.heap.size w a len cap ps) (hp : w.cell? ⟨b, 0, none⟩ = some (.int .i64 id)) :
    Calls Tryz.prog 111 #[.slice a len cap, .func (.func 112) #[] #[.pointer (some ⟨b, 0, none⟩)]] w fun e w' => e = .returned (.int .i64 (pIdx id 0 ps)) ∧ Below w.heap.size w w' := by
  have hmx : len ≤ maxLen := by have := hcs.2.1; have := hcs.2.2.1; omega
  unfold maxLen at hmx
  have hpb : b < w.heap.size := World.block_lt_of_cell? w _ hp
  go_enter Tryz.func111, Tryz.ntmps111
  go_wp2_with fail
  go_loopw [8] (fun i wr => ∃ (k : Nat), k ≤ len ∧ i = .int .i64 k ∧ pIdx id 0 ps = pIdx id k (ps.drop k) ∧ Below w.heap.size w wr) (fun i _ => len - (intOf i).toNat)
  case atStart => exact ⟨0, Nat.zero_le _, rfl, rfl, Below.refl _ _⟩
  case round =>
    obtain ⟨k, hk, rfl, hgo, hbw⟩ := hrel
    have HG := Lib.hid hgo
    clear hgo
    have hzr := hbw.size
    by_cases hlt : k < len
    · obtain ⟨b1, off, c, rfl, hB, hc, _, c0, c1⟩ := hcs.get hbw hlt
      have hstep := Lib.hid (HG.out.trans (by rw [drop_get hc]))
      go_wp2_with fail
      refine (clo_val _ id _ _ _ b _ ((hbw.cell (p := ⟨b, 0, none⟩) hpb).trans hp)).mono ?_
      rintro e w1 ⟨rfl, hb1⟩
      by_cases h : c.comp = id
      · have H1 : Hid (pIdx id 0 ps = k) := Lib.hid (by rw [hstep.out]; unfold pIdx; rw [if_pos h])
        have e1 : (c.comp == id) = true := by simp [h]
        clear h
        go_wp2
        go_ret
        exact ⟨ret_intk H1.out.symm, hbw.trans (hb1.mono hzr)⟩
      · have H1 := Lib.hid (hstep.out.trans (pIdx_skip h))
        have e1 : (c.comp == id) = false := by simp [h]
        clear h
        go_wp2
        go_roundw
        case rel => exact ⟨k + 1, by omega, by go_num, H1.out, hbw.trans (hb1.mono hzr)⟩
        case measure => simp [intOf]; omega
    · obtain rfl : k = len := by omega
      have H1 : Hid (pIdx id 0 ps = -1) := Lib.hid (by rw [HG.out, List.drop_eq_nil_of_le (by have := hcs.1; omega)]; rfl)
      go_wp2
      go_ret
      exact ⟨ret_intk H1.out.symm, hbw⟩
set_option maxRecDepth 100000 in
theorem hasParts_any (id : Int) (ps : List PW) (a : Option Addr) (len cap b : Nat) (w : World) (hcs : PartsAt w.heap.size w a len cap ps) (hp : w.cell? ⟨b, 0, none⟩ = some (.int .i64 id)) :
    Calls Tryz.prog 132 #[.slice a len cap, .func (.func 133) #[] #[.pointer (some ⟨b, 0, none⟩)]] w fun e w' => e = .returned (.bool (ps.any fun q => q.comp == id)) ∧ Below w.heap.size w w' := by
  have HH := Lib.hid (ixParts_chk id ps a len cap b w hcs hp)
  clear hcs hp
  cases hany : ps.any fun q => q.comp == id
  · have e1 := pIdx_none ps 0 hany
    rw [e1] at HH
    clear hany e1
    go_enter Tryz.func132, Tryz.ntmps132
    go_wp2_with fail
    refine HH.out.mono ?_
    rintro e w1 ⟨rfl, hb⟩
    go_wp2_with fail
    go_ret
    exact ⟨rfl, hb⟩
  · have e1 := pIdx_nn ps 0 hany
    obtain ⟨n, hn⟩ := Int.eq_ofNat_of_zero_le e1
    rw [hn] at HH
    have e2 : decide ((0 : Int) ≤ (n : Int)) = true := by simp
    clear hany e1 hn
    go_enter Tryz.func132, Tryz.ntmps132
    go_wp2_with fail
    refine HH.out.mono ?_
    rintro e w1 ⟨rfl, hb⟩
    go_wp2_with fail
    go_ret
    exact ⟨rfl, hb⟩
set_option maxRecDepth 100000 in
theorem value_any (id : Int) (ps : List PW) (p : PW) (a : Option Addr) (len cap : Nat) (w : World) (hcs : PartsAt w.heap.size w a len cap ps) (hf : ps.find? (fun c => decide (c.comp = id)) = some p) :
    Calls Tryz.prog 69 #[.slice a len cap, .int .i64 id] w fun e w' => e = .returned (.slice p.va p.vl p.vc) ∧ Below w.heap.size w w' := by
  have hb0 : Below w.heap.size w (w.alloc (.cells #[.int .i64 id] 3)) := by go_grown
  have hc0 := heap_alloc_new w (.cells #[.int .i64 id] 3)
  have c0 := cell_at hc0 0
  obtain ⟨j, hj, hp⟩ := pIdx_some ps 0 hf
  rw [Nat.zero_add] at hj
  have HH := Lib.hid (ixParts_val id ps a len cap w.heap.size _ ((hcs.below hb0).mono hb0.size) c0)
  rw [hj] at HH
  have hjl : j < len := by have := (List.getElem?_eq_some_iff.1 hp).1; have := hcs.1; omega
  have hm : len ≤ maxLen := by have := hcs.2.1; have := hcs.2.2.1; omega
  unfold maxLen at hm
  have HCS := Lib.hid hcs
  have HB0 := Lib.hid hb0
  have HP := Lib.hid hp
  clear hcs hb0 hc0 c0 hf hp hj
  go_enter Tryz.func69, Tryz.ntmps69
  go_wp2_with fail
  refine HH.out.mono ?_
  rintro e w1 ⟨rfl, hb⟩
  have hbw := HB0.out.trans (hb.mono HB0.out.size)
  obtain ⟨b1, off, p', rfl, hB, hp', _, k0, k1⟩ := HCS.out.get hbw hjl
  have := HP.out
  rw [hp'] at this
  cases this
  have i1 : (0 : Int) ≤ (j : Int) := by omega
  have i2 : (j : Int) < (len : Int) := by omega
  clear hp' HH hb
  go_wp2_with fail
  go_ret
  exact ⟨rfl, hbw⟩
def cpsGo (cs : List Cmp) : List PW → List PW → Int
  | _, [] => 0
  | seen, p :: r => if (seen.any fun q => q.comp == p.comp) then 1 else if cpF cs p ≠ 0 then cpF cs p else cpsGo cs (seen ++ [p]) r
set_option maxRecDepth 100000 in
set_option maxHeartbeats 2000000 in
theorem checkParts_any (ver : Int) (cs : List Cmp) (a : Option Addr) (len cap : Nat) (ps : List PW) (pa : Option Addr) (pl pc : Nat) (w : World) (hcs : CompsAt w.heap.size w a len cs) (hf : ∀ c ∈ cs, c.fields.length ≤ 100000) (hps : PartsAt w.heap.size w pa pl pc ps) :
    Calls Tryz.prog 102 #[.agg #[.int .i64 ver, .slice a len cap], .slice pa pl pc] w fun e w' => e = .returned (.int .i64 (cpsGo cs [] ps)) ∧ Below w.heap.size w w' := by
  have hm : pl ≤ maxLen := by have := hps.2.1; have := hps.2.2.1; omega
  have hmc : pl ≤ pc := hps.2.1
  have hmd : pc ≤ maxLen := hps.2.2.1
  unfold maxLen at hm hmd
  have hw1 := heap_alloc_new w (.cells #[.int .i64 ver, .slice a len cap] 24)
  have hb0 : Below w.heap.size w (w.alloc (.cells #[.int .i64 ver, .slice a len cap] 24)) := by go_grown
  have HS := Lib.hid (And.intro hw1 hb0)
  have HCS := Lib.hid (And.intro hcs hf)
  have HPS := Lib.hid hps
  have HZ := Lib.hid (World.size_alloc w (.cells #[.int .i64 ver, .slice a len cap] 24))
  clear hw1 hb0 hcs hf hps
  go_enter Tryz.func102, Tryz.ntmps102
  go_wp2_with fail
  generalize w.alloc (.cells #[.int .i64 ver, .slice a len cap] 24) = W at *
  obtain ⟨H, hH⟩ : ∃ H, w.heap.size = H := ⟨_, rfl⟩
  rw [hH]
  go_loopw [10] (fun i wr => ∃ (k : Nat), k ≤ pl ∧ i = .int .i64 k ∧ cpsGo cs [] ps = cpsGo cs (ps.take k) (ps.drop k) ∧ Below (H + 1) W wr) (fun i _ => pl - (intOf i).toNat)
  case atStart => exact ⟨0, Nat.zero_le _, rfl, rfl, Below.refl _ _⟩
  case round =>
    obtain ⟨k, hk, rfl, hgo, hbr⟩ := hrel
    have hzW := HZ.out
    have hzr := hbr.size
    have hbw : Below w.heap.size w wr := HS.out.2.trans (hbr.mono (by omega))
    have hS1 := HS.out.1
    rw [hH] at hS1
    have hblk := (hbr.block H (by omega)).trans hS1
    have HG := Lib.hid hgo
    have HBLK := Lib.hid hblk
    have HBW := Lib.hid hbw
    have HBR := Lib.hid hbr
    have hHr : H < wr.heap.size := by omega
    clear hgo hblk hbw hbr hzW hzr hS1
    by_cases hlt : k < pl
    · obtain ⟨b1, off, p, rfl, hB, hp, hpi, c0, c1⟩ := HPS.out.get HBW.out hlt
      have hstep : cpsGo cs [] ps = if ((ps.take k).any fun q => q.comp == p.comp) then 1 else if cpF cs p ≠ 0 then cpF cs p else cpsGo cs (ps.take (k + 1)) (ps.drop (k + 1)) := by
        rw [HG.out, drop_get hp, take_snoc hp]; rfl
      have hpt := ((HPS.out.below HBW.out).take (show k ≤ pl by omega))
      have hba : Below w.heap.size w (wr.alloc (.cells #[.int .i64 p.comp, .slice p.va p.vl p.vc] 85)) := HBW.out.alloc HBW.out.size _
      have hpa := heap_alloc_new wr (.cells #[.int .i64 p.comp, .slice p.va p.vl p.vc] 85)
      have hbb : Below (H + 1) W (wr.alloc (.cells #[.int .i64 p.comp, .slice p.va p.vl p.vc] 85)) := HBR.out.alloc (by omega) _
      have hblkA := keepA (.cells #[.int .i64 p.comp, .slice p.va p.vl p.vc] 85) HBLK.out
      have HSTEP := Lib.hid hstep
      have HP := Lib.hid hp
      have HPI := Lib.hid hpi
      have HAA := Lib.hid (And.intro hba (And.intro hpa (And.intro hbb hblkA)))
      have i1 : (0 : Int) ≤ (k : Int) := by omega
      have i2 : (k : Int) < (pl : Int) := by omega
      have hzA := World.size_alloc wr (.cells #[.int .i64 p.comp, .slice p.va p.vl p.vc] 85)
      clear hstep hp hpi hpt hba hpa hbb hblkA
      go_wp2_with fail
      generalize hwA : wr.alloc (.cells #[.int .i64 p.comp, .slice p.va p.vl p.vc] 85) = wA at *
      obtain ⟨F, hF⟩ : ∃ F, wr.heap.size = F := ⟨_, rfl⟩
      rw [hF] at HAA hzA hHr ⊢
      refine (hasParts_any p.comp (ps.take k) _ k _ F _ (((HPS.out.below HAA.out.1).mono HAA.out.1.size).take (by omega)) (by rw [cell_at HAA.out.2.1]; rfl)).mono ?_
      rintro e w3 ⟨rfl, hb3⟩
      cases hany : (ps.take k).any fun q => q.comp == p.comp
      · have hblk3 := keep hb3 HAA.out.2.2.2
        have hpp3 := keep hb3 HAA.out.2.1
        have k0 := cell_at hblk3 0
        have k1 := cell_at hblk3 1
        have q0 := cell_at hpp3 0
        have q1 := cell_at hpp3 1
        simp at k0 k1 q0 q1
        have hz3 := hb3.size
        have hbw3 := HAA.out.1.trans (hb3.mono (show w.heap.size ≤ wA.heap.size from HAA.out.1.size))
        have hbr3 := HAA.out.2.2.1.trans (hb3.mono (show H + 1 ≤ wA.heap.size by omega))
        have HX := Lib.hid (And.intro hbw3 (And.intro hbr3 hblk3))
        have HANY := Lib.hid hany
        clear hblk3 hpp3 hbw3 hbr3 hany hb3
        go_wp2_with fail
        refine (checkPart_any ver cs a len cap p _ ((HCS.out.1.below HX.out.1).mono HX.out.1.size) HCS.out.2 ((HPS.out.2.2.2.1 p (List.mem_of_getElem? HP.out)).below HX.out.1 |>.mono HX.out.1.size)).mono ?_
        rintro e w4 ⟨rfl, hb4⟩
        have hbr4 := HX.out.2.1.trans (hb4.mono (show H + 1 ≤ w3.heap.size by omega))
        have hbw4 := HX.out.1.trans (hb4.mono HX.out.1.size)
        have HY := Lib.hid (And.intro hbr4 hbw4)
        obtain ⟨r, hr⟩ : ∃ r, cpF cs p = r := ⟨_, rfl⟩
        rw [hr]
        clear hb4 hbr4 hbw4 k0 k1 q0 q1
        by_cases hr0 : r = 0
        · have e1 : (r != 0) = false := by rw [hr0]; rfl
          have HR := Lib.hid (show cpsGo cs [] ps = cpsGo cs (ps.take (k + 1)) (ps.drop (k + 1)) by rw [HSTEP.out, HANY.out, hr, if_neg (by decide), if_neg (by simp [hr0])])
          clear hr hr0
          go_wp2_with fail
          go_roundw
          case rel => exact ⟨k + 1, by omega, by go_num, HR.out, HY.out.1⟩
          case measure => simp [intOf]; omega
        · have e1 : (r != 0) = true := by rw [bne_iff_ne]; exact hr0
          have HR := Lib.hid (show r = cpsGo cs [] ps by rw [HSTEP.out, HANY.out, hr, if_neg (by decide), if_pos hr0])
          clear hr hr0
          go_wp2_with fail
          go_ret
          exact ⟨ret_intk HR.out, HY.out.2⟩
      · have HR := Lib.hid (show (1 : Int) = cpsGo cs [] ps by rw [HSTEP.out, hany]; rfl)
        have HB3 := Lib.hid (HAA.out.1.trans (hb3.mono HAA.out.1.size))
        clear hany hb3
        go_wp2_with fail
        go_ret
        exact ⟨ret_intk HR.out, HB3.out⟩
    · obtain rfl : k = pl := by omega
      have HR := Lib.hid (show (0 : Int) = cpsGo cs [] ps by rw [HG.out, List.drop_eq_nil_of_le (by have := HPS.out.1; omega)]; rfl)
      go_wp2_with fail
      go_ret
      exact ⟨ret_intk HR.out, HBW.out⟩
end Go.Proofs.YtoadihebdaooaaaGreat
namespace Go.Proofs.YtoadihebdaooaaaGreat
open Go.RowKit
set_option linter.unusedVariables false
structure TD where
  tb : Nat
  ver : Int
  set : Int
  most : Nat
  kept : Nat
  ents : List Int
  ea : Option Addr
  ec : Nat
  ca : Option Addr
  cc : Nat
  la : Option Addr
  lc : Nat
  cps : List CV
  cols : List CD
def TD.cs (t : TD) : List Cmp := t.cps.map (·.c)
/-- The blocks that its deeds may change. -/
def TD.foot (t : TD) (b : Nat) : Prop := b = t.tb ∨ (Value.slice t.ea t.ents.length t.ec).ownBlock = some b ∨ ∃ d ∈ t.cols, d.foot b
structure TabIn (B : Nat) (w : World) (t : TD) : Prop where
  blk : w.heap[t.tb]? = some (.cells #[.int .i64 t.ver, .slice t.ca t.cps.length t.cc, .int .u32 t.set, .int .i64 (t.most : Int), .int .i64 (t.kept : Int), .slice t.ea t.ents.length t.ec, .slice t.la t.cps.length t.lc] 139 (0, 0))
  comps : w.ownsRow B 112 3 (.slice t.ca t.cps.length t.cc) t.cps.length (t.cps.flatMap compL)
  colsR : w.ownsRow B 142 4 (.slice t.la t.cps.length t.lc) t.cps.length (t.cps.flatMap colL)
  fields : ∀ x ∈ t.cps, CVF B w x
  entsR : w.ownsRow B 61 1 (.slice t.ea t.ents.length t.ec) t.ents.length (t.ents.map (.int .u64))
  hB : B ≤ t.tb
  len : t.cols.length = t.cps.length
  col : ∀ (i : Nat) (x : CV) (d : CD), t.cps[i]? = some x → t.cols[i]? = some d → d.cb = x.cb ∧ d.size = (planSize x.c.fields).toNat ∧ d.cap = t.most ∧ d.rows.length = t.ents.length
  colsA : ∀ d ∈ t.cols, ColAt B w d
  apart : ∀ (i j : Nat) (d e : CD), i ≠ j → t.cols[i]? = some d → t.cols[j]? = some e → ∀ b, d.foot b → ¬ e.foot b
  lay : ∀ x ∈ t.cps, layCheck x.c.fields = 0
  n24 : t.cps.length ≤ 24
  most1 : 1 ≤ t.most
  most2 : t.most ≤ 256
  room : t.ents.length + t.kept ≤ t.most
  set0 : 0 ≤ t.set
  set1 : t.set ≤ 4294967295
  ids : t.cps.map (·.c.id) = idsTo t.set 24
/-- A block that is none of those that a table never changes. -/
def Mut (w : World) (b : Nat) : Prop := ∀ cs t fr, w.heap[b]? = some (.cells cs t fr) → t ≠ 112 ∧ t ≠ 142 ∧ t ≠ 123
theorem mut_of {w : World} {b : Nat} {cs : Array Value} {t : TypeId} {fr : Nat × Nat} (h : w.heap[b]? = some (.cells cs t fr)) (h1 : t ≠ 112) (h2 : t ≠ 142) (h3 : t ≠ 123) : Mut w b := by
  intro cs' t' fr' h'
  rw [h] at h'
  cases h'
  exact ⟨h1, h2, h3⟩
theorem row_mut {F : Nat → Prop} {w : World} {B s : Nat} {e : TypeId} {v : Value} {n : Nat} {xs : List Value} (h : w.ownsRow B e s v n xs) (he : e = 112 ∨ e = 142 ∨ e = 123) (hM : ∀ b, F b → Mut w b) : ∀ x, v.ownBlock = some x → ¬ F x := by
  intro x hx hF
  rcases h.2 with ⟨rfl, _⟩ | ⟨g, cap, cur, rfl, _, hh, _⟩
  · cases hx
  · obtain rfl : g = x := by simpa [Value.ownBlock] using hx
    obtain ⟨h1, h2, h3⟩ := hM g hF _ _ _ hh
    rcases he with rfl | rfl | rfl <;> contradiction
theorem TabIn.foot_ge {B : Nat} {w : World} {t : TD} (h : TabIn B w t) {b : Nat} (hb : t.foot b) : B ≤ b ∧ b < w.heap.size := by
  rcases hb with rfl | hb | ⟨d, hd, hb⟩
  · exact ⟨h.hB, lt_some h.blk⟩
  · exact h.entsR.lt b hb
  · exact (h.colsA d hd).foot_ge hb
theorem row_type {w : World} {B s : Nat} {e : TypeId} {v : Value} {n : Nat} {xs : List Value} (h : w.ownsRow B e s v n xs) {b : Nat} (hb : v.ownBlock = some b) : ∃ cur, w.heap[b]? = some (.cells cur e (0, 0)) := by
  rcases h.2 with ⟨rfl, _⟩ | ⟨g, cap, cur, rfl, _, hh, _⟩
  · cases hb
  · obtain rfl : g = b := by simpa [Value.ownBlock] using hb
    exact ⟨cur, hh⟩
theorem TabIn.foot_mut {B : Nat} {w : World} {t : TD} (h : TabIn B w t) {b : Nat} (hb : t.foot b) : Mut w b := by
  rcases hb with rfl | hb | ⟨d, hd, hb⟩
  · exact mut_of h.blk (by decide) (by decide) (by decide)
  · obtain ⟨cur, hh⟩ := row_type h.entsR hb
    exact mut_of hh (by decide) (by decide) (by decide)
  · obtain ⟨cs, ty, fr, hh, ht⟩ := (h.colsA d hd).foot_ty hb
    rcases ht with rfl | rfl | rfl <;> exact mut_of hh (by decide) (by decide) (by decide)
theorem CVF.out {F : Nat → Prop} {B : Nat} {w w' : World} {x : CV} (h : CVF B w x) (ho : Out F w w') (hM : ∀ b, F b → Mut w b) : CVF B w' x := ⟨ownsRow_out h.row ho (row_mut h.row (.inr (.inr rfl)) hM), h.len, h.max, h.nil⟩
theorem TabIn.out {F : Nat → Prop} {B : Nat} {w w' : World} {t : TD} (h : TabIn B w t) (ho : Out F w w') (hF : ∀ b, t.foot b → ¬ F b) (hM : ∀ b, F b → Mut w b) : TabIn B w' t :=
  ⟨ho.keep h.blk (hF _ (.inl rfl)), ownsRow_out h.comps ho (row_mut h.comps (.inl rfl) hM), ownsRow_out h.colsR ho (row_mut h.colsR (.inr (.inl rfl)) hM), fun x hx => (h.fields x hx).out ho hM,
    ownsRow_out h.entsR ho (fun x hx => hF x (.inr (.inl hx))), h.hB, h.len, h.col, fun d hd => (h.colsA d hd).out ho (fun b hb => hF b (.inr (.inr ⟨d, hd, hb⟩))), h.apart, h.lay, h.n24, h.most1, h.most2, h.room, h.set0, h.set1, h.ids⟩
theorem TabIn.below {B : Nat} {w w' : World} {t : TD} (h : TabIn B w t) (hb : Below w.heap.size w w') : TabIn B w' t := h.out (F := fun _ => False) (Out.of hb) (fun _ _ => id) (fun _ => False.elim)
theorem TabIn.drewN {B : Nat} {w : World} {t : TD} (h : TabIn B w t) (n : Nat) : TabIn B (w.drewN n) t := h.below (below_drewN (Below.refl _ _) n)
theorem compL_at (l : List CV) {k : Nat} {y : CV} (h : l[k]? = some y) : (l.flatMap compL)[k * 3]? = some (.int .i64 y.c.id) ∧ (l.flatMap compL)[k * 3 + 1]? = some (.string y.c.name) ∧ (l.flatMap compL)[k * 3 + 2]? = some (.slice y.fa y.fl y.fc) := by
  induction l generalizing k with
  | nil => cases h
  | cons x r ih =>
    cases k with
    | zero => cases h; simp [compL]
    | succ k =>
      have hr := ih (k := k) (by simpa using h)
      have e : ((x :: r).flatMap compL) = compL x ++ r.flatMap compL := by simp
      have hl : (compL x).length = 3 := rfl
      rw [e]
      refine ⟨?_, ?_, ?_⟩
      · rw [List.getElem?_append_right (by omega), hl, show (k + 1) * 3 - 3 = k * 3 by omega]; exact hr.1
      · rw [List.getElem?_append_right (by omega), hl, show (k + 1) * 3 + 1 - 3 = k * 3 + 1 by omega]; exact hr.2.1
      · rw [List.getElem?_append_right (by omega), hl, show (k + 1) * 3 + 2 - 3 = k * 3 + 2 by omega]; exact hr.2.2
/-- The components, to be read. -/
theorem TabIn.compsAt {B : Nat} {w : World} {t : TD} (h : TabIn B w t) : CompsAt w.heap.size w t.ca t.cps.length t.cs := by
  refine ⟨by simp [TD.cs], by have := h.n24; unfold maxLen; omega, ?_⟩
  rcases Nat.eq_zero_or_pos t.cps.length with h0 | h0
  · exact .inl h0
  · obtain ⟨q, hq, hqB, hql, hqc⟩ := row_block h.comps h0
    refine .inr ⟨q, 0, hq, hql, fun i c hc => ?_⟩
    simp only [TD.cs, List.getElem?_map, Option.map_eq_some_iff] at hc
    obtain ⟨x, hx, rfl⟩ := hc
    obtain ⟨g0, g1, g2⟩ := compL_at t.cps hx
    have hf := h.fields x (List.mem_of_getElem? hx)
    rw [Nat.zero_add]
    exact ⟨hqc _ _ g0, hqc _ _ g1, x.fa, x.fl, x.fc, hqc _ _ g2, fieldsAt_row hf.row hf.len hf.max, hf.nil⟩
theorem TabIn.fields8 {B : Nat} {w : World} {t : TD} (h : TabIn B w t) : ∀ c ∈ t.cs, c.fields.length ≤ 100000 := by
  intro c hc
  simp only [TD.cs, List.mem_map] at hc
  obtain ⟨x, hx, rfl⟩ := hc
  have := (layCheck_zero (h.lay x hx)).1
  omega
end Go.Proofs.YtoadihebdaooaaaGreat
namespace Go.Proofs.YtoadihebdaooaaaGreat
open Go.RowKit
set_option linter.unusedVariables false
def TD.free (t : TD) : Nat := t.most - t.ents.length - t.kept
section
variable {B : Nat} {w : World} {t : TD}
theorem TabIn.cells (h : TabIn B w t) : w.cell? ⟨t.tb, 0, none⟩ = some (.int .i64 t.ver) ∧ w.cell? ⟨t.tb, 1, none⟩ = some (.slice t.ca t.cps.length t.cc) ∧ w.cell? ⟨t.tb, 2, none⟩ = some (.int .u32 t.set) ∧ w.cell? ⟨t.tb, 3, none⟩ = some (.int .i64 (t.most : Int)) ∧ w.cell? ⟨t.tb, 4, none⟩ = some (.int .i64 (t.kept : Int)) ∧ w.cell? ⟨t.tb, 5, none⟩ = some (.slice t.ea t.ents.length t.ec) ∧ w.cell? ⟨t.tb, 6, none⟩ = some (.slice t.la t.cps.length t.lc) ∧ ∀ o, w.frozen? ⟨t.tb, o, none⟩ = false := by
  have hb := h.blk
  refine ⟨?_, ?_, ?_, ?_, ?_, ?_, ?_, fun o => free_at hb o⟩ <;> (rw [cell_at hb]; rfl)
/-- One cell of the table's own block is stored. -/
theorem TabIn.kept' (h : TabIn B w t) {k : Nat} (hk : t.ents.length + k ≤ t.most) : TabIn B (w.setCell ⟨t.tb, 4, none⟩ (.int .i64 (k : Int))) { t with kept := k } := by
  have ho := Only.at w t.tb 4 (.int .i64 (k : Int))
  have h2 : ∀ x, x ≠ t.tb → (w.setCell ⟨t.tb, 4, none⟩ (.int .i64 (k : Int))).heap[x]? = w.heap[x]? := fun x hx => ho.block x hx
  have hout : Out (fun b => b = t.tb) w (w.setCell ⟨t.tb, 4, none⟩ (.int .i64 (k : Int))) := Out.only ho rfl
  have hM : ∀ b, b = t.tb → Mut w b := fun b hb => h.foot_mut (.inl hb)
  refine ⟨by simpa using hset w t.tb 4 (.int .i64 (k : Int)) _ _ _ h.blk, ownsRow_out h.comps hout (row_mut h.comps (.inl rfl) hM), ownsRow_out h.colsR hout (row_mut h.colsR (.inr (.inl rfl)) hM), fun x hx => (h.fields x hx).out hout hM,
    ownsRow_out h.entsR hout (fun x hx e => ?_), h.hB, h.len, h.col, fun d hd => (h.colsA d hd).out hout (fun b hb e => ?_), h.apart, h.lay, h.n24, h.most1, h.most2, hk, h.set0, h.set1, h.ids⟩
  · subst e
    exact ownsRow_ne_block3 h.entsR h.blk (fun cur he => by cases he) hx.symm
  · subst e
    obtain ⟨cs, ty, fr, hh, ht⟩ := (h.colsA d hd).foot_ty hb
    have hb' : w.heap[t.tb]? = _ := h.blk
    rw [hb'] at hh
    cases hh
    rcases ht with ht | ht | ht <;> cases ht
theorem tabLen_in (h : TabIn B w t) : Calls Tryz.prog 28 #[.pointer (some ⟨t.tb, 0, none⟩)] w fun e w' => e = .returned (.int .i64 (t.ents.length : Int)) ∧ w = w' := by
  obtain ⟨_, _, _, _, _, c5, _, _⟩ := h.cells
  clear h
  go_enter Tryz.func28, Tryz.ntmps28
  go_wp2_with fail
  go_returns
  exact ⟨rfl, rfl⟩
theorem tabKept_in (h : TabIn B w t) : Calls Tryz.prog 37 #[.pointer (some ⟨t.tb, 0, none⟩)] w fun e w' => e = .returned (.int .i64 (t.kept : Int)) ∧ w = w' := by
  obtain ⟨_, _, _, _, c4, _, _, _⟩ := h.cells
  clear h
  go_enter Tryz.func37, Tryz.ntmps37
  go_wp2_with fail
  go_returns
  exact ⟨rfl, rfl⟩
theorem tabSig_in (h : TabIn B w t) : Calls Tryz.prog 27 #[.pointer (some ⟨t.tb, 0, none⟩)] w fun e w' => e = .returned (.int .u32 t.set) ∧ w = w' := by
  obtain ⟨_, _, c2, _, _, _, _, _⟩ := h.cells
  clear h
  go_enter Tryz.func27, Tryz.ntmps27
  go_wp2_with fail
  go_returns
  exact ⟨rfl, rfl⟩
set_option maxRecDepth 100000 in
theorem tabRoom_in (h : TabIn B w t) : Calls Tryz.prog 29 #[.pointer (some ⟨t.tb, 0, none⟩)] w fun e w' => e = .returned (.int .i64 (t.free : Int)) ∧ ∃ n, w' = w.drewN n := by
  obtain ⟨_, _, _, c3, c4, c5, _, _⟩ := h.cells
  have h1 := h.most2
  have h2 := h.room
  clear h
  have e1 : IntKind.i64.wrap ((t.most : Int) - (t.ents.length : Int)) = (t.most : Int) - (t.ents.length : Int) := IntWalk.i64_in _ (by omega)
  have e2 : IntKind.i64.wrap ((t.most : Int) - (t.ents.length : Int) - (t.kept : Int)) = (t.free : Int) := by rw [IntWalk.i64_in _ (by omega)]; unfold TD.free; omega
  generalize t.ents.length = n at *
  generalize t.free = f at *
  go_enter Tryz.func29, Tryz.ntmps29
  go_wp2_with fail
  go_quiet (fail)
  go_wp2_with fail
  go_returns
  exact ⟨rfl, _, rfl⟩
set_option maxRecDepth 100000 in
theorem tabKeep_in (h : TabIn B w t) : Calls Tryz.prog 35 #[.pointer (some ⟨t.tb, 0, none⟩)] w fun e w' => e = .returned (.int .i64 (if t.free = 0 then 5 else 0)) ∧ TabIn B w' (if t.free = 0 then t else { t with kept := t.kept + 1 }) ∧ Out t.foot w w' := by
  have hr := Lib.hid (tabRoom_in h)
  have h1 := h.most2
  have h2 := h.room
  by_cases h0 : t.free = 0
  · have e1 : ((t.free : Int) == 0) = true := by rw [h0]; rfl
    rw [if_pos h0, if_pos h0]
    have HH := Lib.hid h
    clear h h0
    go_enter Tryz.func35, Tryz.ntmps35
    go_wp2_with fail
    refine hr.out.mono ?_
    rintro e w1 ⟨rfl, n, rfl⟩
    go_wp2_with fail
    go_returns
    exact ⟨rfl, HH.out.drewN n, (Out.refl _ _).drewN n⟩
  · have e1 : ((t.free : Int) == 0) = false := by rw [beq_eq_false_iff_ne]; omega
    have hk : t.ents.length + (t.kept + 1) ≤ t.most := by unfold TD.free at h0; omega
    rw [if_neg h0, if_neg h0]
    have hfin : ∀ n, TabIn B ((w.drewN n).setCell ⟨t.tb, 4, none⟩ (.int .i64 ((t.kept + 1 : Nat) : Int))) { t with kept := t.kept + 1 } := fun n => (h.drewN n).kept' hk
    have HF := Lib.hid hfin
    obtain ⟨_, _, _, _, c4, _, _, f⟩ := h.cells
    have f4 := f 4
    have k1 : t.kept ≤ 256 := by omega
    clear h h0 hk hfin f
    go_enter Tryz.func35, Tryz.ntmps35
    go_wp2_with fail
    refine hr.out.mono ?_
    rintro e w1 ⟨rfl, n, rfl⟩
    go_wp2_with fail
    go_returns
    refine ⟨rfl, ?_, ?_⟩
    · have := HF.out n
      simpa using this
    · have := Out.trans (F := t.foot) (G := t.foot) ((Out.refl _ w).drewN n) (Out.only (Only.at (w.drewN n) t.tb 4 (.int .i64 ((t.kept : Int) + 1))) (.inl rfl)) (fun x h => .inl h)
      simpa using this
set_option maxRecDepth 100000 in
theorem tabYield_in (h : TabIn B w t) : Calls Tryz.prog 36 #[.pointer (some ⟨t.tb, 0, none⟩)] w fun e w' => e = .returned (.int .i64 (if t.kept = 0 then 6 else 0)) ∧ TabIn B w' (if t.kept = 0 then t else { t with kept := t.kept - 1 }) ∧ Out t.foot w w' := by
  have h1 := h.most2
  have h2 := h.room
  obtain ⟨_, _, _, _, c4, _, _, f⟩ := h.cells
  have f4 := f 4
  clear f
  by_cases h0 : t.kept = 0
  · have e1 : ((t.kept : Int) == 0) = true := by rw [h0]; rfl
    rw [if_pos h0, if_pos h0]
    have HH := Lib.hid h
    clear h h0
    go_enter Tryz.func36, Tryz.ntmps36
    go_wp2_with fail
    go_returns
    exact ⟨rfl, HH.out, Out.refl _ _⟩
  · have e1 : ((t.kept : Int) == 0) = false := by rw [beq_eq_false_iff_ne]; omega
    have hk : t.ents.length + (t.kept - 1) ≤ t.most := by omega
    have e2 : IntKind.i64.wrap ((t.kept : Int) - 1) = ((t.kept - 1 : Nat) : Int) := by rw [IntWalk.i64_in _ (by omega)]; omega
    rw [if_neg h0, if_neg h0]
    have HF := Lib.hid (h.kept' hk)
    clear h h0 hk
    go_enter Tryz.func36, Tryz.ntmps36
    go_wp2_with fail
    go_returns
    exact ⟨rfl, HF.out, Out.only (Only.at w t.tb 4 _) (.inl rfl)⟩
theorem tabAt_in (h : TabIn B w t) (i : Int) : Calls Tryz.prog 79 #[.pointer (some ⟨t.tb, 0, none⟩), .int .i64 i] w fun e w' => e = .returned (.int .i64 (if 0 ≤ i ∧ i < t.ents.length then 0 else 3)) ∧ w = w' := by
  obtain ⟨_, _, _, _, _, c5, _, _⟩ := h.cells
  clear h
  generalize t.ents.length = n at *
  by_cases h0 : 0 ≤ i
  · by_cases h1 : i < n
    · have e1 : decide (i < 0) = false := by simp; omega
      have e2 : decide ((n : Int) ≤ i) = false := by simp; omega
      rw [if_pos ⟨h0, h1⟩]
      go_enter Tryz.func79, Tryz.ntmps79
      go_wp2_with fail
      go_returns
      exact ⟨rfl, rfl⟩
    · have e1 : decide (i < 0) = false := by simp; omega
      have e2 : decide ((n : Int) ≤ i) = true := by simp; omega
      rw [if_neg (fun h => h1 h.2)]
      go_enter Tryz.func79, Tryz.ntmps79
      go_wp2_with fail
      go_returns
      exact ⟨rfl, rfl⟩
  · have e1 : decide (i < 0) = true := by simp; omega
    rw [if_neg (fun h => h0 h.1)]
    go_enter Tryz.func79, Tryz.ntmps79
    go_wp2_with fail
    go_returns
    exact ⟨rfl, rfl⟩
/-- What is wrong with a new row. -/
def addErr (t : TD) (e : Int) (ps : List PW) : Int :=
  if e = 0 then 1 else if (partsF ps).2 ≠ 0 ∨ (partsF ps).1 ≠ t.set then 4 else if cpsGo t.cs [] ps ≠ 0 then cpsGo t.cs [] ps else if t.free = 0 then 5 else 0
set_option maxRecDepth 100000 in
set_option maxHeartbeats 1000000 in
theorem tabCheck_in (h : TabIn B w t) (e : Int) (ps : List PW) (pa : Option Addr) (pl pc : Nat) (hps : PartsAt w.heap.size w pa pl pc ps) (hl : pl ≤ 100000) :
    Calls Tryz.prog 67 #[.pointer (some ⟨t.tb, 0, none⟩), .int .u64 e, .slice pa pl pc] w fun en w' => en = .returned (.int .i64 (addErr t e ps)) ∧ Below w.heap.size w w' := by
  by_cases h0 : e = 0
  · have e1 : (e == 0) = true := by simp [h0]
    have HR := Lib.hid (show (1 : Int) = addErr t e ps by unfold addErr; rw [if_pos h0])
    clear h h0 hps
    go_enter Tryz.func67, Tryz.ntmps67
    go_wp2_with fail
    go_returns
    exact ⟨ret_intk HR.out, Below.refl _ _⟩
  · have e1 : (e == 0) = false := by simp [h0]
    have HH := Lib.hid h
    have HP := Lib.hid hps
    have H0 := Lib.hid h0
    clear h hps h0
    obtain ⟨s, hs⟩ : ∃ s, (partsF ps).1 = s := ⟨_, rfl⟩
    obtain ⟨f, hf⟩ : ∃ f, (partsF ps).2 = f := ⟨_, rfl⟩
    go_enter Tryz.func67, Tryz.ntmps67
    go_wp2_with fail
    refine (sigParts_any ps _ _ _ _ HP.out hl).mono ?_
    rintro en w1 ⟨rfl, hb1⟩
    rw [hs, hf]
    have HS := Lib.hid (And.intro hs hf)
    have h1 := HH.out.below hb1
    obtain ⟨c0, c1, c2, c3, c4, c5, c6, _⟩ := h1.cells
    have H1 := Lib.hid h1
    have HB1 := Lib.hid hb1
    clear hs hf h1 hb1
    by_cases hb : f ≠ 0 ∨ s ≠ t.set
    · have HR := Lib.hid (show (4 : Int) = addErr t e ps by unfold addErr; rw [if_neg H0.out, HS.out.1, HS.out.2, if_pos hb])
      by_cases hf0 : f = 0
      · have e2 : (f != 0) = false := by simp [hf0]
        have e3 : (s != t.set) = true := by rcases hb with h | h; · contradiction
                                            · rw [bne_iff_ne]; exact h
        clear hb hf0
        go_wp2_with fail
        go_returns
        exact ⟨ret_intk HR.out, HB1.out⟩
      · have e2 : (f != 0) = true := by rw [bne_iff_ne]; exact hf0
        clear hb hf0
        go_wp2_with fail
        go_returns
        exact ⟨ret_intk HR.out, HB1.out⟩
    · have e2 : (f != 0) = false := by
        have : f = 0 := Classical.byContradiction (fun h => hb (.inl h))
        simp [this]
      have e3 : (s != t.set) = false := by
        have : s = t.set := Classical.byContradiction (fun h => hb (.inr h))
        simp [this]
      have HNB := Lib.hid hb
      clear hb
      go_wp2_with fail
      refine (checkParts_any t.ver t.cs _ _ _ ps _ _ _ _ H1.out.compsAt H1.out.fields8 ((HP.out.below HB1.out).mono HB1.out.size)).mono ?_
      rintro en w2 ⟨rfl, hb2⟩
      have HB2 := Lib.hid (HB1.out.trans (hb2.mono HB1.out.size))
      have H2 := Lib.hid (H1.out.below hb2)
      obtain ⟨r, hr⟩ : ∃ r, cpsGo t.cs [] ps = r := ⟨_, rfl⟩
      rw [hr]
      clear hb2
      by_cases hr0 : r = 0
      · have e4 : (r != 0) = false := by simp [hr0]
        have HRR := Lib.hid (And.intro hr hr0)
        clear hr hr0
        go_wp2_with fail
        refine (tabRoom_in H2.out).mono ?_
        rintro en w3 ⟨rfl, n, rfl⟩
        by_cases hfr : t.free = 0
        · have e5 : ((t.free : Int) == 0) = true := by rw [hfr]; rfl
          have HR := Lib.hid (show (5 : Int) = addErr t e ps by unfold addErr; rw [if_neg H0.out, HS.out.1, HS.out.2, if_neg HNB.out, HRR.out.1, if_neg (by simp [HRR.out.2]), if_pos hfr])
          clear hfr
          go_wp2_with fail
          go_returns
          exact ⟨ret_intk HR.out, below_drewN HB2.out _⟩
        · have e5 : ((t.free : Int) == 0) = false := by rw [beq_eq_false_iff_ne]; omega
          have HR := Lib.hid (show (0 : Int) = addErr t e ps by unfold addErr; rw [if_neg H0.out, HS.out.1, HS.out.2, if_neg HNB.out, HRR.out.1, if_neg (by simp [HRR.out.2]), if_neg hfr])
          clear hfr
          go_wp2_with fail
          go_returns
          exact ⟨ret_intk HR.out, below_drewN HB2.out _⟩
      · have e4 : (r != 0) = true := by rw [bne_iff_ne]; exact hr0
        have HR := Lib.hid (show r = addErr t e ps by unfold addErr; rw [if_neg H0.out, HS.out.1, HS.out.2, if_neg HNB.out, hr, if_pos hr0])
        clear hr hr0
        go_wp2_with fail
        go_returns
        exact ⟨ret_intk HR.out, HB2.out⟩
end
end Go.Proofs.YtoadihebdaooaaaGreat
namespace Go.Proofs.YtoadihebdaooaaaGreat
open Go.RowKit
set_option linter.unusedVariables false
theorem withNat {s n : Nat} (hs : s < 4294967296) (h1 : 1 ≤ n) (h2 : n ≤ 24) : sWith (s : Int) (n : Int) = ((s ||| 2 ^ n : Nat) : Int) := by
  have hp : 2 ^ n < 4294967296 := by
    have : 2 ^ n ≤ 2 ^ 24 := Nat.pow_le_pow_right (by omega) h2
    omega
  unfold sWith
  rw [idB_true (by omega) (by omega), Int.toNat_natCast]
  have e : ((2 : Int) ^ n % 4294967296) = ((2 ^ n : Nat) : Int) := by
    have : ((2 : Int) ^ n) = ((2 ^ n : Nat) : Int) := by simp
    have hq : ((2 ^ n : Nat) : Int) < 4294967296 := by have := Int.ofNat_lt.2 hp; exact this
    rw [this]; exact Int.emod_eq_of_lt (Int.natCast_nonneg _) hq
  rw [e]
  simp only [if_true]
  exact u32_or_nat _ _ hs hp
theorem idNat {c : Int} (h : idB c = true) : ∃ n : Nat, c = n ∧ 1 ≤ n ∧ n ≤ 24 := by
  simp [idB] at h
  exact ⟨c.toNat, by omega, by omega, by omega⟩
theorem has_with {s c n : Int} (h0 : 0 ≤ s) (h1 : s ≤ 4294967295) (hc : idB c = true) (hn : idB n = true) : hasB (sWith s c) n = (decide (n = c) || hasB s n) := by
  obtain ⟨x, rfl⟩ := Int.eq_ofNat_of_zero_le h0
  obtain ⟨c, rfl, c1, c2⟩ := idNat hc
  obtain ⟨n, rfl, n1, n2⟩ := idNat hn
  have hx : x < 4294967296 := by omega
  have hp : 2 ^ c < 4294967296 := by
    have : 2 ^ c ≤ 2 ^ 24 := Nat.pow_le_pow_right (by omega) c2
    omega
  rw [withNat hx c1 c2, hasBit (Nat.or_lt_two_pow (n := 32) hx hp) n1 n2, hasBit hx n1 n2, Nat.testBit_or, Nat.testBit_two_pow, Bool.or_comm]
  congr 1
  by_cases h : c = n
  · simp [h]
  · simp [h]; omega
theorem has_zero (n : Int) : hasB 0 n = false := by
  cases h : idB n with
  | false => unfold hasB; rw [h]; rfl
  | true =>
    obtain ⟨n, rfl, n1, n2⟩ := idNat h
    have := hasBit (s := 0) (by decide) n1 n2
    rw [show ((0 : Nat) : Int) = 0 from rfl] at this
    rw [this]; simp
theorem has_fold {n : Int} (hn : idB n = true) : ∀ (ids : List Int), ids.all idB = true → hasB (foldS ids) n = decide (n ∈ ids) := by
  intro ids
  have : ∀ (m : Nat), m ≤ ids.length → ids.all idB = true → hasB (foldS (ids.take m)) n = decide (n ∈ ids.take m) := by
    intro m
    induction m with
    | zero => intro _ _; simp [foldS, has_zero]
    | succ m ih =>
      intro hm hall
      obtain ⟨x, hx⟩ : ∃ x, ids[m]? = some x := ⟨_, List.getElem?_eq_getElem (by omega)⟩
      obtain ⟨b0, b1⟩ := foldS_bd (ids.take m)
      have hxi : idB x = true := by rw [List.all_eq_true] at hall; exact hall x (List.mem_of_getElem? hx)
      rw [take_snoc hx, foldS_snoc, has_with b0 b1 hxi hn, ih (by omega) hall]
      by_cases h1 : n = x <;> by_cases h2 : n ∈ ids.take m <;> simp [h1, h2]
  intro hall
  have := this ids.length (Nat.le_refl _) hall
  rw [List.take_length] at this
  exact this
theorem idsTo_mem {s i : Int} (h : i ∈ idsTo s 24) : hasB s i = true ∧ idB i = true := by
  unfold idsTo at h
  rw [List.mem_filter] at h
  refine ⟨h.2, ?_⟩
  obtain ⟨j, hj, rfl⟩ := List.mem_map.1 h.1
  have := List.mem_range.1 hj
  exact idB_true (by omega) (by omega)
theorem idsTo_nodup (s : Int) (m : Nat) : (idsTo s m).Nodup := by
  unfold idsTo
  have h : (((List.range m).map fun (j : Nat) => (j : Int) + 1)).Nodup := by
    unfold List.Nodup
    rw [List.pairwise_map]
    have hr : List.Pairwise (fun a b => a ≠ b) (List.range m) := List.nodup_range
    exact hr.imp (fun {a b} h => by omega)
  exact h.sublist List.filter_sublist
theorem cpsGo_zero (cs : List Cmp) : ∀ (ps seen : List PW), cpsGo cs seen ps = 0 → ∀ p ∈ ps, cpF cs p = 0
  | [], _, _, p, h => by cases h
  | q :: r, seen, h, p, hp => by
    unfold cpsGo at h
    split at h
    · cases h
    · split at h
      · rename_i h1; exact absurd h h1
      · rename_i h1
        rcases List.mem_cons.1 hp with rfl | hp
        · exact Classical.byContradiction h1
        · exact cpsGo_zero cs r _ h p hp
theorem find_id {cps : List CV} (hn : (cps.map (·.c.id)).Nodup) {x : CV} (hx : x ∈ cps) : findC x.c.id (cps.map (·.c)) = some x.c := by
  unfold findC
  induction cps with
  | nil => cases hx
  | cons y r ih =>
    rw [List.map_cons, List.nodup_cons] at hn
    rw [List.map_cons, List.find?_cons]
    rcases List.mem_cons.1 hx with rfl | hx
    · simp
    · have : ¬ y.c.id = x.c.id := fun e => hn.1 (by rw [e]; exact List.mem_map_of_mem (f := (·.c.id)) hx)
      simp only [this, decide_false]
      exact ih hn.2 hx
/-- The part of a component. -/
def partOf (ps : List PW) (id : Int) : Option PW := ps.find? fun c => decide (c.comp = id)
def rowOf (ps : List PW) (x : CV) : List UInt8 := packF x.c.fields (match partOf ps x.c.id with | some p => p.val | none => [])
theorem add_ok {t : TD} {e : Int} {ps : List PW} (hids : t.cps.map (·.c.id) = idsTo t.set 24) (h : addErr t e ps = 0) : t.free ≠ 0 ∧ ∀ x ∈ t.cps, ∃ p, partOf ps x.c.id = some p ∧ p ∈ ps ∧ p.comp = x.c.id ∧ fitF x.c.fields p.val = 0 ∧ rowOf ps x = packF x.c.fields p.val := by
  unfold addErr at h
  split at h
  · cases h
  · split at h
    · cases h
    · rename_i _ h1
      split at h
      · rename_i h2; exact absurd h h2
      · rename_i h2
        split at h
        · cases h
        · rename_i h3
          refine ⟨h3, fun x hx => ?_⟩
          have hp2 : (partsF ps).2 = 0 := Classical.byContradiction (fun hh => h1 (.inl hh))
          have hp1 : (partsF ps).1 = t.set := Classical.byContradiction (fun hh => h1 (.inr hh))
          have h2' : cpsGo t.cs [] ps = 0 := Classical.byContradiction h2
          have hmem : x.c.id ∈ idsTo t.set 24 := by rw [← hids]; exact List.mem_map_of_mem (f := (·.c.id)) hx
          obtain ⟨hb, hi⟩ := idsTo_mem hmem
          have hall : (comps ps).all idB = true := by
            unfold partsF at hp2
            split at hp2
            · rename_i hh; exact hh
            · cases hp2
          have hfold : foldS (comps ps) = t.set := by
            unfold partsF at hp1 hp2
            rw [if_pos hall] at hp1 hp2
            split at hp1
            · exact hp1
            · rename_i hh; rw [if_neg hh] at hp2; cases hp2
          have hin : x.c.id ∈ comps ps := by
            have := has_fold hi (comps ps) hall
            rw [hfold, hb] at this
            simpa using this.symm
          unfold comps at hin
          obtain ⟨q, hq, hqc⟩ := List.mem_map.1 hin
          have hs : (partOf ps x.c.id).isSome = true := by
            unfold partOf
            rw [List.find?_isSome]
            exact ⟨q, hq, by simp [hqc]⟩
          obtain ⟨p, hp⟩ := Option.isSome_iff_exists.1 hs
          have hpm : p ∈ ps := List.mem_of_find?_eq_some hp
          have hpc : p.comp = x.c.id := by have := List.find?_some hp; simpa using this
          refine ⟨p, hp, hpm, hpc, ?_, by unfold rowOf; rw [hp]⟩
          have hcp := cpsGo_zero t.cs ps [] h2' p hpm
          unfold cpF at hcp
          rw [hpc] at hcp
          have := find_id (by rw [hids]; exact idsTo_nodup _ _) hx
          unfold TD.cs at hcp
          rw [this] at hcp
          exact hcp
end Go.Proofs.YtoadihebdaooaaaGreat
namespace Go.Proofs.YtoadihebdaooaaaGreat
open Go.RowKit
set_option linter.unusedVariables false
theorem colL_at (l : List CV) {k : Nat} {y : CV} (h : l[k]? = some y) : (l.flatMap colL)[k * 4]? = some (.int .i64 y.c.id) ∧ (l.flatMap colL)[k * 4 + 1]? = some (.string y.c.name) ∧ (l.flatMap colL)[k * 4 + 2]? = some (.slice y.fa y.fl y.fc) ∧ (l.flatMap colL)[k * 4 + 3]? = some (.pointer (some ⟨y.cb, 0, none⟩)) := by
  induction l generalizing k with
  | nil => cases h
  | cons x r ih =>
    cases k with
    | zero => cases h; simp [colL]
    | succ k =>
      have hr := ih (k := k) (by simpa using h)
      have e : ((x :: r).flatMap colL) = colL x ++ r.flatMap colL := by simp
      have hl : (colL x).length = 4 := rfl
      rw [e]
      refine ⟨?_, ?_, ?_, ?_⟩
      · rw [List.getElem?_append_right (by omega), hl, show (k + 1) * 4 - 4 = k * 4 by omega]; exact hr.1
      · rw [List.getElem?_append_right (by omega), hl, show (k + 1) * 4 + 1 - 4 = k * 4 + 1 by omega]; exact hr.2.1
      · rw [List.getElem?_append_right (by omega), hl, show (k + 1) * 4 + 2 - 4 = k * 4 + 2 by omega]; exact hr.2.2.1
      · rw [List.getElem?_append_right (by omega), hl, show (k + 1) * 4 + 3 - 4 = k * 4 + 3 by omega]; exact hr.2.2.2
def TD.cfoot (t : TD) (b : Nat) : Prop := ∃ d ∈ t.cols, d.foot b
/-- Columns in work: the first k are done. -/
structure ColsS (B : Nat) (w0 : World) (t : TD) (G : Nat → CD → CD → Prop) (k : Nat) (D : List CD) (w : World) : Prop where
  len : D.length = t.cols.length
  done : ∀ (i : Nat) (d : CD), i < k → t.cols[i]? = some d → ∃ d', D[i]? = some d' ∧ G i d d'
  rest : ∀ i, k ≤ i → D[i]? = t.cols[i]?
  colsA : ∀ (i : Nat) (d : CD), D[i]? = some d → ColAt B w d
  apart : ∀ (i j : Nat) (d e : CD), i ≠ j → D[i]? = some d → D[j]? = some e → ∀ b, d.foot b → ¬ e.foot b
  foot : ∀ (i : Nat) (d : CD), D[i]? = some d → ∀ b, d.foot b → t.cfoot b ∨ w0.heap.size ≤ b
  out : Out t.cfoot w0 w
theorem ColsS.start {B : Nat} {w : World} {t : TD} (h : TabIn B w t) (G : Nat → CD → CD → Prop) : ColsS B w t G 0 t.cols w :=
  ⟨rfl, fun i d hi => absurd hi (Nat.not_lt_zero _), fun i _ => rfl, fun i d hd => h.colsA d (List.mem_of_getElem? hd), h.apart, fun i d hd b hb => .inl ⟨d, List.mem_of_getElem? hd, hb⟩, Out.refl _ _⟩
theorem ColsS.below {B : Nat} {w0 w w1 : World} {t : TD} {G : Nat → CD → CD → Prop} {k : Nat} {D : List CD} (h : ColsS B w0 t G k D w) (hb : Below w.heap.size w w1) : ColsS B w0 t G k D w1 :=
  ⟨h.len, h.done, h.rest, fun i d hd => (h.colsA i d hd).out (F := fun _ => False) (Out.of hb) (fun _ _ => id), h.apart, h.foot, h.out.trans (Out.of (F := fun _ => False) hb) (fun _ => False.elim)⟩
theorem ColsS.step {B : Nat} {w0 w w2 : World} {t : TD} {G : Nat → CD → CD → Prop} {k : Nat} {D : List CD} (h : ColsS B w0 t G k D w) {d d' : CD} (hk : t.cols[k]? = some d) (hc : ColAt B w2 d') (ho : Out d.foot w w2) (hf : ∀ b, d'.foot b → d.foot b ∨ w.heap.size ≤ b) (hG : G k d d') : ColsS B w0 t G (k + 1) (D.set k d') w2 := by
  have hDk : D[k]? = some d := (h.rest k (Nat.le_refl _)).trans hk
  have hkl : k < D.length := (List.getElem?_eq_some_iff.1 hDk).1
  have hself : (D.set k d')[k]? = some d' := by rw [List.getElem?_set_self hkl]
  have hne : ∀ j, j ≠ k → (D.set k d')[j]? = D[j]? := fun j hj => List.getElem?_set_ne (Ne.symm hj)
  have hdc : ∀ b, d.foot b → t.cfoot b := fun b hb => ⟨d, List.mem_of_getElem? hk, hb⟩
  refine ⟨by rw [List.length_set]; exact h.len, fun i x hi hx => ?_, fun i hi => ?_, fun i x hx => ?_, fun i j x y hij hx hy b hb hb' => ?_, fun i x hx b hb => ?_, ?_⟩
  · by_cases e : i = k
    · subst e
      rw [hk] at hx; cases hx
      exact ⟨d', hself, hG⟩
    · rw [hne i e]
      exact h.done i x (by omega) hx
  · rw [hne i (by omega)]; exact h.rest i (by omega)
  · by_cases e : i = k
    · subst e
      rw [hself] at hx; cases hx
      exact hc
    · rw [hne i e] at hx
      exact (h.colsA i x hx).out ho (h.apart i k x d e hx hDk)
  · by_cases e1 : i = k
    · subst e1
      rw [hself] at hx; cases hx
      rw [hne j (Ne.symm hij)] at hy
      rcases hf b hb with h1 | h1
      · exact h.apart i j d y hij hDk hy b h1 hb'
      · have := ((h.colsA j y hy).foot_ge hb').2; omega
    · rw [hne i e1] at hx
      by_cases e2 : j = k
      · subst e2
        rw [hself] at hy; cases hy
        rcases hf b hb' with h1 | h1
        · exact h.apart i j x d hij hx hDk b hb h1
        · have := ((h.colsA i x hx).foot_ge hb).2; omega
      · rw [hne j e2] at hy
        exact h.apart i j x y hij hx hy b hb hb'
  · by_cases e : i = k
    · subst e
      rw [hself] at hx; cases hx
      rcases hf b hb with h1 | h1
      · exact .inl (hdc b h1)
      · exact .inr (by have := h.out.size; omega)
    · rw [hne i e] at hx
      exact h.foot i x hx b hb
  · exact h.out.trans ho (fun b hb => .inl (hdc b hb))
/-- The table's own block and its row of entities are no column's. -/
theorem TabIn.cfoot_ne {B : Nat} {w : World} {t : TD} (h : TabIn B w t) : ¬ t.cfoot t.tb ∧ ∀ x, (Value.slice t.ea t.ents.length t.ec).ownBlock = some x → ¬ t.cfoot x := by
  refine ⟨?_, fun x hx => ?_⟩
  · rintro ⟨d, hd, hb⟩
    obtain ⟨cs, ty, fr, hh, ht⟩ := (h.colsA d hd).foot_ty hb
    rw [h.blk] at hh; cases hh
    rcases ht with ht | ht | ht <;> cases ht
  · rintro ⟨d, hd, hb⟩
    obtain ⟨cs, ty, fr, hh, ht⟩ := (h.colsA d hd).foot_ty hb
    obtain ⟨cur, h2⟩ := row_type h.entsR hx
    rw [h2] at hh; cases hh
    rcases ht with ht | ht | ht <;> cases ht
theorem TabIn.cfoot_foot {t : TD} {b : Nat} (h : t.cfoot b) : t.foot b := .inr (.inr h)
/-- All columns are done; the entities and the table's own cell are laid. -/
theorem ColsS.fin {B : Nat} {w0 w w2 : World} {t : TD} {G : Nat → CD → CD → Prop} {k : Nat} {D : List CD} (h : ColsS B w0 t G k D w) (ht : TabIn B w0 t) (hk : k = t.cols.length) (ents : List Int) (ea : Option Addr) (ec : Nat)
    (hb : w2.heap[t.tb]? = some (.cells #[.int .i64 t.ver, .slice t.ca t.cps.length t.cc, .int .u32 t.set, .int .i64 (t.most : Int), .int .i64 (t.kept : Int), .slice ea ents.length ec, .slice t.la t.cps.length t.lc] 139 (0, 0)))
    (he : w2.ownsRow B 61 1 (.slice ea ents.length ec) ents.length (ents.map (.int .u64)))
    (ho : Out (fun b => b = t.tb ∨ (Value.slice t.ea t.ents.length t.ec).ownBlock = some b) w w2) (hea : ∀ b, (Value.slice ea ents.length ec).ownBlock = some b → (Value.slice t.ea t.ents.length t.ec).ownBlock = some b ∨ w0.heap.size ≤ b)
    (hG : ∀ (i : Nat) (d d' : CD), t.cols[i]? = some d → G i d d' → d'.cb = d.cb ∧ d'.size = d.size ∧ d'.cap = d.cap ∧ d'.rows.length = ents.length) (hroom : ents.length + t.kept ≤ t.most) :
    TabIn B w2 { t with ents := ents, ea := ea, ec := ec, cols := D } ∧ Out t.foot w0 w2 ∧ ∀ b, TD.foot { t with ents := ents, ea := ea, ec := ec, cols := D } b → t.foot b ∨ w0.heap.size ≤ b := by
  have hF : Out t.foot w0 w2 := (h.out.mono (fun x hx => .inl (TabIn.cfoot_foot hx))).trans ho (fun b hb => by
    rcases hb with hb | hb
    · exact .inl (.inl hb)
    · exact .inl (.inr (.inl hb)))
  have hM : ∀ b, t.foot b → Mut w0 b := fun b hb => ht.foot_mut hb
  have hw1 : w.heap[t.tb]? = _ := h.out.keep ht.blk ht.cfoot_ne.1
  have hw2 : w.ownsRow B 61 1 (.slice t.ea t.ents.length t.ec) t.ents.length (t.ents.map (.int .u64)) := ownsRow_out ht.entsR h.out ht.cfoot_ne.2
  refine ⟨⟨hb, ownsRow_out ht.comps hF (row_mut ht.comps (.inl rfl) hM), ownsRow_out ht.colsR hF (row_mut ht.colsR (.inr (.inl rfl)) hM), fun x hx => (ht.fields x hx).out hF hM, he, ht.hB, h.len.trans ht.len, fun i x d' hx hd' => ?_, fun d hd => ?_, h.apart, ht.lay, ht.n24, ht.most1, ht.most2, hroom, ht.set0, ht.set1, ht.ids⟩, hF, fun b hb => ?_⟩
  · have hd3 : D[i]? = some d' := hd'
    have hi : i < t.cols.length := by have := (List.getElem?_eq_some_iff.1 hd3).1; have := h.len; omega
    obtain ⟨d0, hd0⟩ : ∃ d, t.cols[i]? = some d := ⟨_, List.getElem?_eq_getElem hi⟩
    obtain ⟨d'', h1, h2⟩ := h.done i d0 (by omega) hd0
    have hd2 : D[i]? = some d' := hd'
    rw [h1] at hd2
    cases hd2
    obtain ⟨g1, g2, g3, g4⟩ := hG i d0 d' hd0 h2
    obtain ⟨k1, k2, k3, k4⟩ := ht.col i x d0 hx hd0
    exact ⟨g1.trans k1, g2.trans k2, g3.trans k3, g4⟩
  · obtain ⟨i, hi⟩ := List.getElem?_of_mem hd
    have hc := h.colsA i d hi
    refine hc.out ho (fun b hb hb' => ?_)
    obtain ⟨cs, ty, fr, hh, hty⟩ := hc.foot_ty hb
    rcases hb' with rfl | hb'
    · rw [hw1] at hh; cases hh
      rcases hty with ht | ht | ht <;> cases ht
    · obtain ⟨cur, h2⟩ := row_type hw2 hb'
      rw [h2] at hh; cases hh
      rcases hty with ht | ht | ht <;> cases ht
  · rcases hb with rfl | hb | ⟨d, hd, hb⟩
    · exact .inl (.inl rfl)
    · rcases hea b hb with h1 | h1
      · exact .inl (.inr (.inl h1))
      · exact .inr h1
    · obtain ⟨i, hi⟩ := List.getElem?_of_mem hd
      rcases h.foot i d hi b hb with h1 | h1
      · exact .inl (.inr (.inr h1))
      · exact .inr h1
end Go.Proofs.YtoadihebdaooaaaGreat
namespace Go.Proofs.YtoadihebdaooaaaGreat
open Go.RowKit
set_option linter.unusedVariables false
theorem ret_ii {a b c d : Int} (h1 : a = c) (h2 : b = d) : Ending.returned (.tuple #[.int .i64 a, .int .i64 b]) = .returned (.tuple #[.int .i64 c, .int .i64 d]) := by rw [h1, h2]
theorem Tryz.info61 : (Tryz.prog.info? 61).map (fun i => (i.zero, i.size, i.bytes)) = some (some (.int .u64 0), 1, 8) := by kernel_rfl
/-- A column with a row more. -/
def PutG (ps : List PW) (cps : List CV) (i : Nat) (d d' : CD) : Prop := ∀ x, cps[i]? = some x → d'.rows = d.rows ++ [rowOf ps x] ∧ d'.cb = d.cb ∧ d'.size = d.size ∧ d'.cap = d.cap
/-- The table with a row more. -/
def Added (B : Nat) (t : TD) (e : Int) (ps : List PW) (w w' : World) : Prop :=
  ∃ ea ec D, TabIn B w' { t with ents := t.ents ++ [e], ea := ea, ec := ec, cols := D } ∧ (∀ (i : Nat) (d d' : CD), t.cols[i]? = some d → D[i]? = some d' → PutG ps t.cps i d d') ∧ Out t.foot w w' ∧
    ∀ b, TD.foot { t with ents := t.ents ++ [e], ea := ea, ec := ec, cols := D } b → t.foot b ∨ w.heap.size ≤ b
def add_list (PB : Nat) (fa : Option Addr) (fl fc : Nat) (pa : Option Addr) (pl pc : Nat) (id : Int) (va : Option Addr) (vl vc : Nat) (row : ByteArray) : List (Value → World → Prop) :=
  [IsV (.pointer (some ⟨PB, 0, none⟩)),
   IsV (.pointer (some ⟨PB, 2, none⟩)),
   IsV (.slice fa fl fc),
   IsV (.slice pa pl pc),
   IsV (.pointer (some ⟨PB, 0, none⟩)),
   IsV (.pointer (some ⟨PB, 0, none⟩)),
   IsV (.int .i64 id),
   IsV (.slice va vl vc),
   IsV (.tuple #[.string row, .int .i64 0]),
   IsV (.tuple #[.string row, .int .i64 0]),
   IsV (.string row),
   IsV (.int .i64 0),
   IsV (.string row),
   IsV (.int .i64 0)]
theorem add_list_lasts (PB : Nat) (fa : Option Addr) (fl fc : Nat) (pa : Option Addr) (pl pc : Nat) (id : Int) (va : Option Addr) (vl vc : Nat) (row : ByteArray) : ∀ p ∈ add_list PB  fa  fl fc  pa  pl pc  id  va  vl vc  row , Lasts p := by
  simp only [add_list, List.mem_cons, List.not_mem_nil, or_false]
  rintro p hp
  repeat (rcases hp with rfl | hp; exact lasts_v _)
section
variable {B : Nat} {w : World} {t : TD}
set_option maxRecDepth 100000 in
theorem tabAdd_no (h : TabIn B w t) (e : Int) (ps : List PW) (pa : Option Addr) (pl pc : Nat) (hps : PartsAt w.heap.size w pa pl pc ps) (hl : pl ≤ 100000) (herr : addErr t e ps ≠ 0) :
    Calls Tryz.prog 24 #[.pointer (some ⟨t.tb, 0, none⟩), .int .u64 e, .slice pa pl pc] w fun en w' => en = .returned (.tuple #[.int .i64 0, .int .i64 (addErr t e ps)]) ∧ Below w.heap.size w w' := by
  have HC := Lib.hid (tabCheck_in h e ps pa pl pc hps hl)
  obtain ⟨r, hr⟩ : ∃ r, addErr t e ps = r := ⟨_, rfl⟩
  rw [hr] at HC herr ⊢
  have e1 : (r != 0) = true := by rw [bne_iff_ne]; exact herr
  clear h hps hr herr
  go_enter Tryz.func24, Tryz.ntmps24
  go_wp2_with fail
  refine HC.out.mono ?_
  rintro en w1 ⟨rfl, hb1⟩
  go_wp2_with fail
  go_ret2
  exact ⟨rfl, hb1⟩
set_option maxRecDepth 100000 in
set_option maxHeartbeats 4000000 in
theorem tabAdd_ok (h : TabIn B w t) (e : Int) (ps : List PW) (pa : Option Addr) (pl pc : Nat) (hps : ∀ w', Out t.cfoot w w' → PartsAt w'.heap.size w' pa pl pc ps) (hl : pl ≤ 100000) (herr : addErr t e ps = 0) :
    Calls Tryz.prog 24 #[.pointer (some ⟨t.tb, 0, none⟩), .int .u64 e, .slice pa pl pc] w fun en w' => en = .returned (.tuple #[.int .i64 (t.ents.length : Int), .int .i64 0]) ∧ Added B t e ps w w' := by
  obtain ⟨i0, hi, hz0, hz1, hz2⟩ := info_parts Tryz.info61
  have hB : B ≤ w.heap.size := by have := h.hB; have := lt_some h.blk; omega
  have hc := tabCheck_in h e ps pa pl pc (hps w (Out.refl _ _)) hl
  rw [herr] at hc
  obtain ⟨hfree, hok⟩ := add_ok h.ids herr
  have hroom := h.room
  have hm2 := h.most2
  have hn24 := h.n24
  have hlen := h.len
  have HC := Lib.hid hc
  have HH := Lib.hid h
  have HPS := Lib.hid hps
  have HOK := Lib.hid hok
  have HFREE := Lib.hid hfree
  have HLEN := Lib.hid hlen
  clear h hc hok hps hfree hlen herr
  go_enter Tryz.func24, Tryz.ntmps24
  go_wp2_with fail
  refine HC.out.mono ?_
  rintro en w1 ⟨rfl, hb1⟩
  have H1 := Lib.hid (HH.out.below hb1)
  have HB1 := Lib.hid hb1
  obtain ⟨c0, c1, c2, c3, c4, c5, c6, fz⟩ := H1.out.cells
  clear HC hb1 fz
  go_wp2_with fail
  clear c0 c1 c2 c3 c4 c5 c6
  obtain ⟨n, hn⟩ : ∃ n, t.cps.length = n := ⟨_, rfl⟩
  rw [hn] at hn24 ⊢
  have HN := Lib.hid hn
  clear hn
  go_loopw [25] (fun i wr => ∃ (k : Nat) (D : List CD), k ≤ n ∧ i = .int .i64 (k : Int) ∧ ColsS B w t (PutG ps t.cps) k D wr) (fun i _ => n - (intOf i).toNat)
  case atStart => exact ⟨0, t.cols, Nat.zero_le _, rfl, (ColsS.start HH.out _).below HB1.out⟩
  case round =>
    obtain ⟨k, D, hk, rfl, hst⟩ := hrel
    have HST := Lib.hid hst
    clear hst
    by_cases hlt : k < n
    · obtain ⟨x, hx⟩ : ∃ x, t.cps[k]? = some x := ⟨_, List.getElem?_eq_getElem (by have := HN.out; omega)⟩
      obtain ⟨d, hd⟩ : ∃ d, t.cols[k]? = some d := ⟨_, List.getElem?_eq_getElem (by have := HN.out; have := HLEN.out; omega)⟩
      obtain ⟨p, hpo, hpm, hpc, hpf, hrow⟩ := HOK.out x (List.mem_of_getElem? hx)
      obtain ⟨k1, k2, k3, k4⟩ := HH.out.col k x d hx hd
      have hM : ∀ b, t.cfoot b → Mut w b := fun b hb => HH.out.foot_mut (TabIn.cfoot_foot hb)
      have hcr := ownsRow_out HH.out.colsR HST.out.out (row_mut HH.out.colsR (.inr (.inl rfl)) hM)
      have hfx := (HH.out.fields x (List.mem_of_getElem? hx)).out HST.out.out hM
      rw [HN.out] at hcr
      obtain ⟨q, hq, _, hql, hqc⟩ := row_block hcr (by omega)
      obtain ⟨g0, g1, g2, g3⟩ := colL_at t.cps hx
      have z0 := hqc _ _ g0
      have z1 := hqc _ _ g1
      have z2 := hqc _ _ g2
      have z3 := hqc _ _ g3
      rw [hq]
      have i1 : (0 : Int) ≤ (k : Int) := by omega
      have i2 : (k : Int) < (n : Int) := by omega
      have hlay := HH.out.lay x (List.mem_of_getElem? hx)
      obtain ⟨row, hrw⟩ : ∃ row : ByteArray, row = ⟨(packF x.c.fields p.val).toArray⟩ := ⟨_, rfl⟩
      have hrs : row.size = d.size := by
        rw [hrw, k2]
        show (packF x.c.fields p.val).toArray.size = _
        rw [List.size_toArray, packF_len hlay (by have := (fit_zero hpf).2.1; omega)]
      have hrl : row.data.toList = rowOf ps x := by rw [hrw, hrow]
      have HX := Lib.hid hx
      have HD := Lib.hid hd
      have HK := Lib.hid (And.intro k1 (And.intro k3 k4))
      have HPP := Lib.hid (And.intro hpo (And.intro hpm hpf))
      have HRW := Lib.hid (And.intro hrw (And.intro hrs hrl))
      have hzr := HST.out.out.size
      have HFA := Lib.hid (And.intro (fieldsAt_row hfx.row hfx.len hfx.max) (row_cap hfx.row))
      clear hx hd hpo hpm hpc hpf hrow k1 k2 k3 k4 hM hcr hfx hqc g0 g1 g2 g3 hlay hrw hrs hrl hq
      go_wp2_with fail
      have hA := heap_alloc_new wr (.cells #[.int .i64 x.c.id, .string x.c.name, .slice x.fa x.fl x.fc, .pointer (some ⟨x.cb, 0, none⟩)] 142)
      have hAb : Below wr.heap.size wr (wr.alloc (.cells #[.int .i64 x.c.id, .string x.c.name, .slice x.fa x.fl x.fc, .pointer (some ⟨x.cb, 0, none⟩)] 142)) := (Below.refl _ _).alloc (Nat.le_refl _) _
      clear z0 z1 z2 z3
      generalize wr.alloc (.cells #[.int .i64 x.c.id, .string x.c.name, .slice x.fa x.fl x.fc, .pointer (some ⟨x.cb, 0, none⟩)] 142) = wA at *
      obtain ⟨PB, hPB⟩ : ∃ PB, wr.heap.size = PB := ⟨_, rfl⟩
      have hA' : wA.heap[PB]? = some (.cells #[.int .i64 x.c.id, .string x.c.name, .slice x.fa x.fl x.fc, .pointer (some ⟨x.cb, 0, none⟩)] 142 (0, 0)) := by rw [← hPB]; exact hA
      rw [hPB]
      have HA := Lib.hid hA'
      have HAB := Lib.hid hAb
      have HPB := Lib.hid hPB
      clear hA hAb hPB hA'
      refine wp_region_frame (by kernel_rfl) (by kernel_rfl) (by kernel_rfl) (byList (add_list PB x.fa x.fl x.fc pa pl pc x.c.id p.va p.vl p.vc row)) (lasts_list (add_list_lasts PB x.fa x.fl x.fc pa pl pc x.c.id p.va p.vl p.vc row)) ?_ ?_
      · intro vs w' iq o A F hb ho hd
        have m10 : A.tmps[10]?.getD undef = (.pointer (some ⟨PB, 0, none⟩)) := F.m (by kernel_rfl) rfl
        have m2 : A.tmps[2]?.getD undef = (.slice pa pl pc) := F.m (by kernel_rfl) rfl
        have G := F.light (n := 62) (by kernel_rfl)
        clear F
        have h7 := keep hb HA.out
        have c0 := cell_at h7 0
        have c2 := cell_at h7 2
        simp at c0 c2
        have hbw := HAB.out.trans (hb.mono HAB.out.size)
        revert ho hd
        match iq with
        | 0 =>
          intro ho hd
          obtain rfl := (Option.some.inj ho).symm
          clear hd ho
          refine step_open rfl ?_
          clear G
          exact step_run (v := (.pointer (some ⟨PB, 0, none⟩))) (by go_simp) rfl
        | 1 =>
          intro ho hd
          obtain rfl := (Option.some.inj ho).symm
          have d0 : vs 0 = (.pointer (some ⟨PB, 0, none⟩)) := hd ⟨0, .data⟩ (by simp) rfl
          clear hd ho
          have h30 := G.h (j := 0) (d := 30) rfl (by decide) d0
          refine step_open rfl ?_
          clear G
          exact step_run (v := (.pointer (some ⟨PB, 2, none⟩))) (by go_simp) rfl
        | 2 =>
          intro ho hd
          obtain rfl := (Option.some.inj ho).symm
          have d1 : vs 1 = (.pointer (some ⟨PB, 2, none⟩)) := hd ⟨1, .data⟩ (by simp) rfl
          clear hd ho
          have h31 := G.h (j := 1) (d := 31) rfl (by decide) d1
          refine step_open rfl ?_
          clear G
          exact step_run (v := (.slice x.fa x.fl x.fc)) (by go_simp) rfl
        | 3 =>
          intro ho hd
          obtain rfl := (Option.some.inj ho).symm
          clear hd ho
          refine step_open rfl ?_
          clear G
          exact step_run (v := (.slice pa pl pc)) (by go_simp) rfl
        | 4 =>
          intro ho hd
          obtain rfl := (Option.some.inj ho).symm
          clear hd ho
          refine step_open rfl ?_
          clear G
          exact step_run (v := (.pointer (some ⟨PB, 0, none⟩))) (by go_simp) rfl
        | 5 =>
          intro ho hd
          obtain rfl := (Option.some.inj ho).symm
          have d4 : vs 4 = (.pointer (some ⟨PB, 0, none⟩)) := hd ⟨4, .data⟩ (by simp) rfl
          clear hd ho
          have h34 := G.h (j := 4) (d := 34) rfl (by decide) d4
          refine step_open rfl ?_
          clear G
          exact step_run (v := (.pointer (some ⟨PB, 0, none⟩))) (by go_simp) rfl
        | 6 =>
          intro ho hd
          obtain rfl := (Option.some.inj ho).symm
          have d5 : vs 5 = (.pointer (some ⟨PB, 0, none⟩)) := hd ⟨5, .data⟩ (by simp) rfl
          clear hd ho
          have h35 := G.h (j := 5) (d := 35) rfl (by decide) d5
          refine step_open rfl ?_
          clear G
          exact step_run (v := (.int .i64 x.c.id)) (by go_simp) rfl
        | 7 =>
          intro ho hd
          obtain rfl := (Option.some.inj ho).symm
          have d3 : vs 3 = (.slice pa pl pc) := hd ⟨3, .data⟩ (by simp) rfl
          have d6 : vs 6 = (.int .i64 x.c.id) := hd ⟨6, .data⟩ (by simp) rfl
          clear hd ho
          have h33 := G.h (j := 3) (d := 33) rfl (by decide) d3
          have h36 := G.h (j := 6) (d := 36) rfl (by decide) d6
          refine step_open rfl ?_
          clear G
          go_simp
          refine (value_any x.c.id ps p _ _ _ _ (HPS.out _ (HST.out.out.trans (Out.of (F := fun _ => False) hbw) (fun _ => False.elim))) HPP.out.1).mono ?_
          rintro e w2 ⟨rfl, hb2⟩
          exact ⟨_, rfl, rfl, hb2⟩
        | 8 =>
          intro ho hd
          obtain rfl := (Option.some.inj ho).symm
          have d2 : vs 2 = (.slice x.fa x.fl x.fc) := hd ⟨2, .data⟩ (by simp) rfl
          have d7 : vs 7 = (.slice p.va p.vl p.vc) := hd ⟨7, .data⟩ (by simp) rfl
          clear hd ho
          have h32 := G.h (j := 2) (d := 32) rfl (by decide) d2
          have h37 := G.h (j := 7) (d := 37) rfl (by decide) d7
          refine step_open rfl ?_
          clear G
          go_simp
          refine (pack_ok x.c.fields _ _ _ _ _ _ p.val _ ((HFA.out.1.below hbw).mono (by have := hbw.size; omega)) HFA.out.2 ((HPS.out _ (HST.out.out.trans (Out.of (F := fun _ => False) hbw) (fun _ => False.elim))).2.2.2.1 p HPP.out.2.1) HPP.out.2.2).mono ?_
          rintro e w2 ⟨rfl, hb2⟩
          rw [← HRW.out.1]
          exact ⟨_, rfl, rfl, hb2⟩
        | 9 =>
          intro ho hd
          obtain rfl := (Option.some.inj ho).symm
          have d8 : vs 8 = (.tuple #[.string row, .int .i64 0]) := hd ⟨8, .data⟩ (by simp) rfl
          clear hd ho
          have h38 := G.h (j := 8) (d := 38) rfl (by decide) d8
          refine step_open rfl ?_
          clear G
          exact step_run (v := (.tuple #[.string row, .int .i64 0])) (by go_simp) rfl
        | 10 =>
          intro ho hd
          obtain rfl := (Option.some.inj ho).symm
          have d9 : vs 9 = (.tuple #[.string row, .int .i64 0]) := hd ⟨9, .data⟩ (by simp) rfl
          clear hd ho
          have h29 := G.h (j := 9) (d := 29) rfl (by decide) d9
          refine step_open rfl ?_
          clear G
          exact step_run (v := (.string row)) (by go_simp) rfl
        | 11 =>
          intro ho hd
          obtain rfl := (Option.some.inj ho).symm
          have d9 : vs 9 = (.tuple #[.string row, .int .i64 0]) := hd ⟨9, .data⟩ (by simp) rfl
          clear hd ho
          have h29 := G.h (j := 9) (d := 29) rfl (by decide) d9
          refine step_open rfl ?_
          clear G
          exact step_run (v := (.int .i64 0)) (by go_simp) rfl
        | 12 =>
          intro ho hd
          obtain rfl := (Option.some.inj ho).symm
          have d10 : vs 10 = (.string row) := hd ⟨10, .data⟩ (by simp) rfl
          clear hd ho
          have h39 := G.h (j := 10) (d := 39) rfl (by decide) d10
          refine step_open rfl ?_
          clear G
          exact step_run (v := (.string row)) (by go_simp) rfl
        | 13 =>
          intro ho hd
          obtain rfl := (Option.some.inj ho).symm
          have d11 : vs 11 = (.int .i64 0) := hd ⟨11, .data⟩ (by simp) rfl
          clear hd ho
          have h40 := G.h (j := 11) (d := 40) rfl (by decide) d11
          refine step_open rfl ?_
          clear G
          exact step_run (v := (.int .i64 0)) (by go_simp) rfl
        | n + 14 =>
          intro ho hd
          simp at ho
      · intro vs w7 hb hR
        have hv : vs 12 = .string row := hR 12 (by simp)
        have h7 := keep hb HA.out
        have hb7 := HAB.out.trans (hb.mono HAB.out.size)
        have HB7 := Lib.hid hb7
        have q3 := cell_at h7 3
        simp at q3
        simp only [putAll, Act.put, List.setIfInBounds_toArray, List.set_cons_succ, List.set_cons_zero]
        rw [hv]
        generalize vs 0 = y0
        generalize vs (0 + 1) = y1
        generalize vs (0 + 1 + 1) = y2
        generalize vs (0 + 1 + 1 + 1) = y3
        clear hR hb hv hb7
        go_wp2_with fail
        have hs7 : ColsS B w t (PutG ps t.cps) k D w7 := HST.out.below HB7.out
        have hcd := hs7.colsA k d ((hs7.rest k (Nat.le_refl _)).trans HD.out)
        have hfr := HFREE.out
        have happ := colAppend_any B w7 d row hcd HRW.out.2.1 (by rw [HK.out.2.1, HK.out.2.2]; unfold TD.free at hfr; omega) (by have := hs7.out.size; omega)
        rw [HK.out.1] at happ
        have HAPP := Lib.hid happ
        have HS7 := Lib.hid hs7
        clear hs7 hcd happ hfr q3
        refine HAPP.out.mono ?_
        rintro en w8 ⟨rfl, va8, vc8, gs8, hcol, hout, hfoot⟩
        have hst8 := HS7.out.step HD.out hcol hout hfoot (show PutG ps t.cps k d _ from fun y hy => by
          rw [HX.out] at hy
          cases hy
          exact ⟨by rw [HRW.out.2.2], HK.out.1.symm, rfl, rfl⟩)
        have HST8 := Lib.hid hst8
        clear hcol hout hfoot hst8 HAPP
        go_wp2_with fail
        go_roundw
        case rel => exact ⟨k + 1, _, by omega, by go_num, HST8.out⟩
        case measure => simp [intOf]; omega
    · obtain rfl : k = n := by omega
      have hb0 := HST.out.out.keep HH.out.blk HH.out.cfoot_ne.1
      have he0 := ownsRow_out HH.out.entsR HST.out.out HH.out.cfoot_ne.2
      have c5 := cell_at hb0 5
      have f5 := free_at hb0 5
      simp at c5
      have hzr := HST.out.out.size
      have hbt := lt_some hb0
      obtain ⟨L, hL⟩ : ∃ L, t.ents.length = L := ⟨_, rfl⟩
      rw [hL] at c5
      have hown : (wr.alloc (.cells #[.int .u64 e] 61)).ownsRow B 61 1 (.slice t.ea L t.ec) L (t.ents.map (.int .u64)) := by rw [← hL]; exact he0.alloc _
      have hLm : L ≤ 256 := by omega
      have hw1 : IntKind.i64.wrap ((L : Int) + 1 - 1) = (L : Int) := by rw [IntWalk.i64_in _ (by omega)]; omega
      have hw2 : IntKind.i64.wrap (L : Int) = (L : Int) := IntWalk.i64_in _ (by omega)
      have HL := Lib.hid hL
      have HOWN := Lib.hid hown
      have HB0 := Lib.hid hb0
      have HE0 := Lib.hid he0
      clear hL hown hb0 he0
      have hm1 : L + 1 ≤ maxLen := by unfold maxLen; omega
      go_wp2_with (at_builtin; go_loud (refine wpList_append_lies _ (by rfl) _ _ 76 (by rfl) B 61 i0 (.int .u64 0) 1 8 Tryz.underlying76 hi hz0 hz1 hz2 rfl (by omega) (.slice t.ea L t.ec) L _ (by rfl) HOWN.out ⟨wr.heap.size, 0, none⟩ 1 1 [.int .u64 e] (by rfl) (by rfl) ?c1 ?c2 (by omega) hm1 (by omega) ?c5 (wr.heap.size + 1) (by simp) ?_))
      case c1 =>
        intro j u hj
        match j, hj with
        | 0, hj => simp at hj; subst hj; simp [Addr.add]
      case c2 => intro u hu; simp at hu; subst hu; rfl
      case c5 => simp; omega
      intro g cap w6 hown6 hg6 hat6 hlt6
      have hne : some t.tb ≠ (Value.slice t.ea L t.ec).ownBlock := by
        have := ownsRow_ne_block3 HE0.out HB0.out (fun cur he => by cases he)
        rw [HL.out] at this
        exact this
      have hb6 := keepG hg6 (keepA (.cells #[.int .u64 e] 61) HB0.out) hne
      have d5 := cell_at hb6 5
      have g5 := free_at hb6 5
      rw [HL.out] at d5
      simp at d5
      have hout6 : Out (fun b => b = t.tb ∨ (Value.slice t.ea t.ents.length t.ec).ownBlock = some b) wr (w6.setCell ⟨t.tb, 5, none⟩ (.slice (some ⟨g, 0, none⟩) (L + 1) cap)) := by
        have h1 : Out (fun b => b = t.tb ∨ (Value.slice t.ea t.ents.length t.ec).ownBlock = some b) wr w6 := ⟨hg6.os, hg6.tape, hg6.output, by have := hg6.size; simp at this; omega, fun j hj hF => (hg6.block j (by simp; omega) (fun e => hF (.inr (by rw [HL.out]; exact e.symm)))).trans (by rw [halloc, if_neg (by omega)])⟩
        exact h1.trans (Out.only (Only.at w6 t.tb 5 _) (.inl rfl)) (fun x h => .inl h)
      have hblk6 := hset w6 t.tb 5 (.slice (some ⟨g, 0, none⟩) (L + 1) cap) _ _ _ hb6
      have hown7 := ownsRow_out hown6 (Out.only (F := fun b => b = t.tb) (Only.at w6 t.tb 5 (.slice (some ⟨g, 0, none⟩) (L + 1) cap)) rfl) (fun x hx he => by
        subst he
        exact ownsRow_ne_block3 hown6 hb6 (fun cur he => by cases he) hx.symm)
      have hlen : (t.ents ++ [e]).length = L + 1 := by rw [List.length_append, HL.out]; rfl
      have hfin := HST.out.fin HH.out (by rw [HLEN.out, HN.out]) (t.ents ++ [e]) (some ⟨g, 0, none⟩) cap (w2 := w6.setCell ⟨t.tb, 5, none⟩ (.slice (some ⟨g, 0, none⟩) (L + 1) cap)) (by rw [hlen]; simpa using hblk6) (by rw [hlen, List.map_append]; exact hown7) hout6 (fun b hb => by
        have hb' : g = b := by simpa [Value.ownBlock] using hb
        subst hb'
        rcases hat6 with h1 | h1
        · exact .inl (by rw [HL.out]; exact h1)
        · exact .inr (by omega)) (fun i d d' hd hG => by
        have hxi : i < t.cps.length := by rw [← HLEN.out]; exact (List.getElem?_eq_some_iff.1 hd).1
        obtain ⟨x, hx⟩ : ∃ x, t.cps[i]? = some x := ⟨_, List.getElem?_eq_getElem hxi⟩
        obtain ⟨k1, k2, k3, k4⟩ := HH.out.col i x d hx hd
        obtain ⟨g1, g2, g3, g4⟩ := hG x hx
        exact ⟨g2, g3, g4, by rw [g1, List.length_append, hlen, k4, HL.out]; rfl⟩) (by have h1 := HFREE.out; have h2 := HL.out; unfold TD.free at h1; omega)
      have hput : ∀ (i : Nat) (d d' : CD), t.cols[i]? = some d → D[i]? = some d' → PutG ps t.cps i d d' := by
        intro i d d' hd hd'
        obtain ⟨d'', h1, h2⟩ := HST.out.done i d (by have := (List.getElem?_eq_some_iff.1 hd).1; have := HLEN.out; have := HN.out; omega) hd
        rw [h1] at hd'
        cases hd'
        exact h2
      have HFIN := Lib.hid hfin
      have HPUT := Lib.hid hput
      clear hfin hput hout6 hblk6 hown7 hown6 hg6 hat6 hlt6 hb6 hne hlen c5 f5
      go_wp2_with fail
      go_ret2
      exact ⟨ret_ii (by rw [HL.out]) rfl, _, _, D, HFIN.out.1, HPUT.out, HFIN.out.2.1, HFIN.out.2.2⟩
end
end Go.Proofs.YtoadihebdaooaaaGreat
namespace Go.Proofs.YtoadihebdaooaaaGreat
open Go.RowKit
set_option linter.unusedVariables false
theorem ret_ui {a b c d : Int} (h1 : a = c) (h2 : b = d) : Ending.returned (.tuple #[.int .u64 a, .int .i64 b]) = .returned (.tuple #[.int .u64 c, .int .i64 d]) := by rw [h1, h2]
theorem ownsRow_set {w : World} {b : Nat} {e : TypeId} {va : Option Addr} {n vc r : Nat} {xs : List Value} (u : Value) (h : w.ownsRow b e 1 (.slice va n vc) n xs) (hr : r < n) :
    ∃ q, va = some ⟨q, 0, none⟩ ∧ (w.setCell ⟨q, r, none⟩ u).ownsRow b e 1 (.slice va n vc) n (xs.set r u) ∧ w.frozen? ⟨q, r, none⟩ = false ∧ q < w.heap.size ∧ n ≤ vc := by
  obtain ⟨h1, h2⟩ := h
  rcases h2 with ⟨_, h3⟩ | ⟨g, cap, cur, hv, hg, hh, hc1, hc2, hc3, hc4⟩
  · omega
  · cases hv
    refine ⟨g, rfl, ⟨by rw [List.length_set]; exact h1, .inr ⟨g, vc, cur.setIfInBounds r u, rfl, hg, hset w g r u _ _ _ hh, hc1, hc2, by rw [Array.size_setIfInBounds]; exact hc3, ?_⟩⟩, free_at hh r, lt_some hh, hc1⟩
    rw [Array.toList_setIfInBounds, ← hc4, List.take_set]
def DropG (r m : Nat) (i : Nat) (d d' : CD) : Prop := ∀ l, d.rows[m]? = some l → d'.rows = (d.rows.set r l).take m ∧ d'.cb = d.cb ∧ d'.size = d.size ∧ d'.cap = d.cap
/-- The table with a row less. -/
def Dropped (B : Nat) (t : TD) (r m : Nat) (x : Int) (w w' : World) : Prop :=
  ∃ D, TabIn B w' { t with ents := (t.ents.set r x).take m, cols := D } ∧ (∀ (i : Nat) (d d' : CD), t.cols[i]? = some d → D[i]? = some d' → DropG r m i d d') ∧ Out t.foot w w' ∧
    ∀ b, TD.foot { t with ents := (t.ents.set r x).take m, cols := D } b → t.foot b ∨ w.heap.size ≤ b
section
variable {B : Nat} {w : World} {t : TD}
set_option maxRecDepth 100000 in
theorem tabDrop_no (h : TabIn B w t) (i : Int) (hi : ¬ (0 ≤ i ∧ i < t.ents.length)) : Calls Tryz.prog 34 #[.pointer (some ⟨t.tb, 0, none⟩), .int .i64 i] w fun en w' => en = .returned (.tuple #[.int .u64 0, .int .i64 3]) ∧ w = w' := by
  have hc := tabAt_in h i
  rw [if_neg hi] at hc
  have HC := Lib.hid hc
  clear hc h hi
  go_enter Tryz.func34, Tryz.ntmps34
  go_wp2_with fail
  refine HC.out.mono ?_
  rintro en w1 ⟨rfl, rfl⟩
  go_wp2_with fail
  go_ret2
  exact ⟨rfl, rfl⟩
set_option maxRecDepth 100000 in
set_option maxHeartbeats 4000000 in
theorem tabDrop_ok (h : TabIn B w t) (r m : Nat) (hr : r ≤ m) (hm : t.ents.length = m + 1) (x : Int) (hx : t.ents[m]? = some x) :
    Calls Tryz.prog 34 #[.pointer (some ⟨t.tb, 0, none⟩), .int .i64 (r : Int)] w fun en w' => en = .returned (.tuple #[.int .u64 (if r = m then 0 else x), .int .i64 0]) ∧ Dropped B t r m x w w' := by
  have hc := tabAt_in h (r : Int)
  rw [if_pos ⟨by omega, by omega⟩] at hc
  have hroom := h.room
  have hm2 := h.most2
  have hn24 := h.n24
  have hlen := h.len
  have hmb : m < 256 := by omega
  have HC := Lib.hid hc
  have HH := Lib.hid h
  have HLEN := Lib.hid hlen
  have HM := Lib.hid hm
  have HXX := Lib.hid hx
  obtain ⟨c0, c1, c2, c3, c4, c5, c6, fz⟩ := h.cells
  rw [hm] at c5
  clear h hc hlen hm hx fz
  go_enter Tryz.func34, Tryz.ntmps34
  go_wp2_with fail
  refine HC.out.mono ?_
  rintro en w1 ⟨rfl, rfl⟩
  go_wp2_with fail
  clear c0 c1 c2 c3 c4 c5 c6
  obtain ⟨n, hn⟩ : ∃ n, t.cps.length = n := ⟨_, rfl⟩
  rw [hn] at hn24 ⊢
  have HN := Lib.hid hn
  clear hn
  go_loopw [28] (fun i wr => ∃ (k : Nat) (D : List CD), k ≤ n ∧ i = .int .i64 (k : Int) ∧ ColsS B w t (DropG r m) k D wr) (fun i _ => n - (intOf i).toNat)
  case atStart => exact ⟨0, t.cols, Nat.zero_le _, rfl, ColsS.start HH.out _⟩
  case round =>
    obtain ⟨k, D, hk, rfl, hst⟩ := hrel
    have HST := Lib.hid hst
    clear hst
    by_cases hlt : k < n
    · obtain ⟨x, hx⟩ : ∃ x, t.cps[k]? = some x := ⟨_, List.getElem?_eq_getElem (by have := HN.out; omega)⟩
      obtain ⟨d, hd⟩ : ∃ d, t.cols[k]? = some d := ⟨_, List.getElem?_eq_getElem (by have := HN.out; have := HLEN.out; omega)⟩
      obtain ⟨k1, k2, k3, k4⟩ := HH.out.col k x d hx hd
      obtain ⟨l, hl⟩ : ∃ l, d.rows[m]? = some l := ⟨_, List.getElem?_eq_getElem (by have := HM.out; omega)⟩
      have hM : ∀ b, t.cfoot b → Mut w b := fun b hb => HH.out.foot_mut (TabIn.cfoot_foot hb)
      have hcr := ownsRow_out HH.out.colsR HST.out.out (row_mut HH.out.colsR (.inr (.inl rfl)) hM)
      rw [HN.out] at hcr
      obtain ⟨q, hq, _, hql, hqc⟩ := row_block hcr (by omega)
      obtain ⟨g0, g1, g2, g3⟩ := colL_at t.cps hx
      have z0 := hqc _ _ g0
      have z1 := hqc _ _ g1
      have z2 := hqc _ _ g2
      have z3 := hqc _ _ g3
      rw [hq]
      have i1 : (0 : Int) ≤ (k : Int) := by omega
      have i2 : (k : Int) < (n : Int) := by omega
      have hsA := HST.out.below ((Below.refl _ wr).alloc (Nat.le_refl _) (.cells #[.int .i64 x.c.id, .string x.c.name, .slice x.fa x.fl x.fc, .pointer (some ⟨x.cb, 0, none⟩)] 142))
      have hcd := hsA.colsA k d ((hsA.rest k (Nat.le_refl _)).trans hd)
      have hsw := colSwap_any B _ d r m l hcd hr (by rw [k4, HM.out]) hl
      rw [k1] at hsw
      have HSW := Lib.hid hsw
      have HSA := Lib.hid hsA
      have HD := Lib.hid (And.intro hd (And.intro hl k1))
      clear hx hd k1 k2 k3 k4 hl hM hcr hqc g0 g1 g2 g3 hsA hcd hsw hq
      go_wp2_with fail
      refine HSW.out.mono ?_
      rintro en w8 ⟨rfl, gs8, hcol, hout, hfoot⟩
      have hst8 := HSA.out.step HD.out.1 hcol hout (fun b hb => .inl (hfoot b hb)) (show DropG r m k d _ from fun l' hl' => by
        rw [HD.out.2.1] at hl'
        cases hl'
        exact ⟨rfl, HD.out.2.2.symm, rfl, rfl⟩)
      have HST8 := Lib.hid hst8
      clear hcol hout hfoot hst8 HSW z0 z1 z2 z3
      go_wp2_with fail
      go_roundw
      case rel => exact ⟨k + 1, _, by omega, by go_num, HST8.out⟩
      case measure => simp [intOf]; omega
    · obtain rfl : k = n := by omega
      have hb0 := HST.out.out.keep HH.out.blk HH.out.cfoot_ne.1
      have he0 := ownsRow_out HH.out.entsR HST.out.out HH.out.cfoot_ne.2
      have c5 := cell_at hb0 5
      have f5 := free_at hb0 5
      simp at c5
      rw [HM.out] at c5 he0
      obtain ⟨q, hq, hset0, hfr, hql, hcap⟩ := ownsRow_set (r := r) (.int .u64 x) he0 (by omega)
      obtain ⟨q', hq', _, _, hqc⟩ := row_block he0 (by omega)
      have : q' = q := by rw [hq] at hq'; cases hq'; rfl
      subst this
      have z0 := hqc m (.int .u64 x) (by rw [List.getElem?_map, HXX.out]; rfl)
      rw [hq] at c5
      have i1 : (0 : Int) ≤ (m : Int) := by omega
      have i2 : (m : Int) < (m : Int) + 1 := by omega
      have i3 : (0 : Int) ≤ (r : Int) := by omega
      have i4 : (r : Int) < (m : Int) + 1 := by omega
      have i5 : (m : Int) ≤ (t.ec : Int) := by omega
      have hne : t.tb ≠ q' := fun e => by
        have h1 := ownsRow_ne_block3 he0 hb0 (fun cur he => by cases he)
        rw [hq] at h1
        exact h1 (by rw [e]; rfl)
      have hcr : ∃ y, wr.cell? ⟨q', r, none⟩ = some y := by
        obtain ⟨y, hy⟩ : ∃ y, t.ents[r]? = some y := ⟨_, List.getElem?_eq_getElem (by have := HM.out; omega)⟩
        exact ⟨_, hqc r (.int .u64 y) (by rw [List.getElem?_map, hy]; rfl)⟩
      obtain ⟨y, hy⟩ := hcr
      have hb1 := keepO (Only.at wr q' r (.int .u64 x)) hb0 hne
      have d5 := cell_at hb1 5
      have g5 := free_at hb1 5
      simp at d5
      rw [HM.out, hq] at d5
      have hzr := HST.out.out.size
      have hbt := lt_some hb0
      have HB0 := Lib.hid hb0
      have HB1 := Lib.hid hb1
      have HE0 := Lib.hid he0
      have HSET := Lib.hid hset0
      have HQ := Lib.hid hq
      have hlm : ((t.ents.set r x).take m).length = m := by rw [List.length_take, List.length_set]; have := HM.out; omega
      have hset1 := ownsRow_shrink hset0 (show m ≤ m + 1 by omega) (by omega)
      have hset2 := ownsRow_out hset1 (Out.only (F := fun b => b = t.tb) (Only.at (wr.setCell ⟨q', r, none⟩ (.int .u64 x)) t.tb 5 (.slice t.ea m t.ec)) rfl) (fun z hz he => by
        subst he
        exact ownsRow_ne_block3 hset1 hb1 (fun cur he => by cases he) hz.symm)
      have hblk2 := hset (wr.setCell ⟨q', r, none⟩ (.int .u64 x)) t.tb 5 (.slice t.ea m t.ec) _ _ _ hb1
      have hfin := HST.out.fin HH.out (by rw [HLEN.out, HN.out]) ((t.ents.set r x).take m) t.ea t.ec (w2 := (wr.setCell ⟨q', r, none⟩ (.int .u64 x)).setCell ⟨t.tb, 5, none⟩ (.slice t.ea m t.ec)) (by rw [hlm]; simpa using hblk2) (by rw [hlm, List.map_take, List.map_set]; exact hset2)
        ((Out.only (Only.at wr q' r (.int .u64 x)) (.inr (by rw [hq]; rfl))).trans (Out.only (F := fun b => b = t.tb) (Only.at (wr.setCell ⟨q', r, none⟩ (.int .u64 x)) t.tb 5 _) rfl) (fun z hz => .inl (.inl hz)))
        (fun b hb => .inl (by rw [hq] at hb ⊢; exact hb)) (fun i d d' hd hG => by
          have hxi : i < t.cps.length := by rw [← HLEN.out]; exact (List.getElem?_eq_some_iff.1 hd).1
          obtain ⟨x', hx'⟩ : ∃ x, t.cps[i]? = some x := ⟨_, List.getElem?_eq_getElem hxi⟩
          obtain ⟨k1, k2, k3, k4⟩ := HH.out.col i x' d hx' hd
          obtain ⟨l, hl⟩ : ∃ l, d.rows[m]? = some l := ⟨_, List.getElem?_eq_getElem (by have := HM.out; omega)⟩
          obtain ⟨g1, g2, g3, g4⟩ := hG l hl
          exact ⟨g2, g3, g4, by rw [g1, hlm, List.length_take, List.length_set, k4, HM.out]; omega⟩) (by rw [hlm]; have := HM.out; omega)
      have hput : ∀ (i : Nat) (d d' : CD), t.cols[i]? = some d → D[i]? = some d' → DropG r m i d d' := by
        intro i d d' hd hd'
        obtain ⟨d'', h1, h2⟩ := HST.out.done i d (by have := (List.getElem?_eq_some_iff.1 hd).1; have := HLEN.out; have := HN.out; omega) hd
        rw [h1] at hd'
        cases hd'
        exact h2
      have hdrop : Dropped B t r m x w ((wr.setCell ⟨q', r, none⟩ (.int .u64 x)).setCell ⟨t.tb, 5, none⟩ (.slice t.ea m t.ec)) := ⟨D, hfin.1, hput, hfin.2.1, hfin.2.2⟩
      rw [hq] at hdrop
      have HDROP := Lib.hid hdrop
      clear hb0 hb1 he0 hset0 hqc hq hq' hlm hset1 hset2 hblk2 hfin hput hdrop
      by_cases hrm : r = m
      · have e1 : ((r : Int) == (m : Int)) = true := by rw [hrm]; simp
        have HRM := Lib.hid hrm
        clear hrm
        go_wp2_with fail
        go_ret2
        have hd := HDROP.out
        rw [HRM.out] at hd
        exact ⟨ret_ui (by first | rfl | rw [if_pos HRM.out]) rfl, hd⟩
      · have e1 : ((r : Int) == (m : Int)) = false := by rw [beq_eq_false_iff_ne]; omega
        have HRM := Lib.hid hrm
        clear hrm
        go_wp2_with fail
        go_ret2
        exact ⟨ret_ui (by first | rfl | rw [if_neg HRM.out]) rfl, HDROP.out⟩
end
end Go.Proofs.YtoadihebdaooaaaGreat
