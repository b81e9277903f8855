/- cmd.Same: whether commands are the same. · great, long; cmd.Check of any command. -/
import Derived.Test.YtnhlnnehpmjeiaaGreatDoorP38
import Derived.Test.YtnhlnnehpmjeiaaGreatDoorP32
import Derived.Test.YtnhlnnehpmjeiaaGreatDoorP22
import Derived.Test.YtnhlnnehpmjeiaaGreatDoorP33
namespace Go.Proofs.YtnhlnnehpmjeiaaGreatDoor
open Go.RowKit
set_option linter.unusedVariables false
set_option maxRecDepth 100000 in
theorem eqInts_any (xs ys : List WI) (a : Option Addr) (l c : Nat) (a' : Option Addr) (l' c' : Nat) (w : World) (hx : IntsAt w.heap.size w a l c xs) (hy : IntsAt w.heap.size w a' l' c' ys) :
    Calls Tryz.prog 44 #[.slice a l c, .slice a' l' c'] w fun e w' => ∃ r : Bool, e = .returned (.bool r) ∧ (r = true ↔ xs = ys) ∧ Drawn w w' := by
  have hlx := hx.1
  have hly := hy.1
  have hmx : l ≤ maxLen := Nat.le_trans hx.2.1 hx.2.2.1
  have hmy : l' ≤ maxLen := Nat.le_trans hy.2.1 hy.2.2.1
  unfold maxLen at hmx hmy
  have HX := Lib.hid hx
  have HY := Lib.hid hy
  have HLX := Lib.hid hlx
  have HLY := Lib.hid hly
  clear hx hy hlx hly
  by_cases hl : l = l'
  · subst hl
    go_enter Tryz.func44, Tryz.ntmps44
    go_wp2_with fail
    go_loopw [13] (fun i wr => ∃ k : Nat, k ≤ l ∧ i = .int .i64 (k : Int) ∧ xs.take k = ys.take k ∧ Drawn w wr) (fun i _ => l - (intOf i).toNat)
    case atStart => exact ⟨0, by omega, rfl, rfl, Drawn.refl _⟩
    case round =>
      obtain ⟨k, hk, rfl, htk, hdr⟩ := hrel
      have hbr := hdr.below
      have HDR := Lib.hid hdr
      clear hdr
      by_cases hlt : k < l
      · obtain ⟨b, off, x, rfl, hB, hxk, hxw, x0, x1, x2⟩ := HX.out.get hbr hlt
        obtain ⟨b', off', y, rfl, hB', hyk, hyw, y0, y1, y2⟩ := HY.out.get hbr hlt
        obtain ⟨xn, xh, xl⟩ := x
        obtain ⟨yn, yh, yl⟩ := y
        have hne := fun w => int_ne xn yn xh yh xl yl w
        obtain ⟨r, hr⟩ : ∃ r, (xn == yn && (xh == yh && xl == yl)) = r := ⟨_, rfl⟩
        rw [hr] at hne
        have HR := Lib.hid hr
        have HXK := Lib.hid hxk
        have HYK := Lib.hid hyk
        have HTK := Lib.hid htk
        have HBR := Lib.hid hbr
        have i1 : (0 : Int) ≤ (k : Int) := by omega
        have i2 : (k : Int) < (l : Int) := by omega
        have z1 : b < wr.heap.size := by have := hbr.size; omega
        have z2 : b' < wr.heap.size := by have := hbr.size; omega
        clear hr hxk hyk htk hbr hxw hyw
        cases r
        · go_wp2_with fail
          go_quiet (fail)
          go_wp2_with fail
          go_returns
          refine ⟨false, rfl, ⟨fun h => (by cases h), fun h => ?_⟩, HDR.out.more _⟩
          have h1 := HXK.out
          rw [h, HYK.out] at h1
          cases h1
          have := HR.out
          simp at this
        · go_wp2_with fail
          go_quiet (fail)
          go_wp2_with fail
          go_roundw
          case rel => exact ⟨k + 1, by omega, by go_num, take_eq_succ HXK.out HYK.out HTK.out (wi_ext HR.out), HDR.out.more _⟩
          case measure => simp only [intOf]; omega
      · obtain rfl : k = l := by omega
        have HT := Lib.hid htk
        clear htk
        go_wp2_with fail
        go_returns
        refine ⟨true, rfl, ⟨fun _ => ?_, fun _ => rfl⟩, HDR.out⟩
        have h := HT.out
        rw [List.take_of_length_le (by have := HLX.out; omega), List.take_of_length_le (by have := HLY.out; omega)] at h
        exact h
  · have hl2 : ((l : Int) != (l' : Int)) = true := by rw [bne_iff_ne]; omega
    go_enter Tryz.func44, Tryz.ntmps44
    go_wp2_with fail
    go_returns
    exact ⟨false, rfl, ⟨fun h => (by cases h), fun h => absurd (by rw [← HLX.out, ← HLY.out, h]) hl⟩, Drawn.refl _⟩
/-- Two parts in hand. -/
theorem samePart_any (p q : PW) (w : World) (hp : IntsAt w.heap.size w p.va p.vl p.vc p.val) (hq : IntsAt w.heap.size w q.va q.vl q.vc q.val) :
    Calls Tryz.prog 24 #[.agg #[.int .i64 p.comp, .slice p.va p.vl p.vc], .agg #[.int .i64 q.comp, .slice q.va q.vl q.vc]] w fun e w' => ∃ r : Bool, e = .returned (.bool r) ∧ (r = true ↔ (p.comp, p.val) = (q.comp, q.val)) ∧ Below w.heap.size w w' := by
  obtain ⟨w1, hw1⟩ : ∃ w1, w1 = (w.alloc (.cells #[.int .i64 p.comp, .slice p.va p.vl p.vc] 73)).alloc (.cells #[.int .i64 q.comp, .slice q.va q.vl q.vc] 73) := ⟨_, rfl⟩
  have hb1 : Below w.heap.size w w1 := by rw [hw1]; go_grown
  have HE := Lib.hid (eqInts_any p.val q.val p.va p.vl p.vc q.va q.vl q.vc w1 ((hp.below hb1).mono hb1.size) ((hq.below hb1).mono hb1.size))
  have HB1 := Lib.hid hb1
  clear hp hq hb1
  by_cases hc : p.comp = q.comp
  · have e1 : (p.comp == q.comp) = true := by simp [hc]
    have HCC := Lib.hid hc
    clear hc
    go_enter Tryz.func24, Tryz.ntmps24
    go_wp2_with fail
    rw [← hw1]
    clear hw1
    refine HE.out.mono ?_
    rintro e w2 ⟨r, rfl, hr, hd⟩
    have HR := Lib.hid hr
    have HB2 := Lib.hid (HB1.out.trans (hd.below.mono HB1.out.size))
    clear hr hd
    go_wp2_with fail
    go_returns
    refine ⟨r, rfl, ?_, HB2.out⟩
    rw [HR.out, HCC.out]
    simp
  · have e1 : (p.comp == q.comp) = false := by simp [hc]
    have HCC : Hid (¬ p.comp = q.comp) := Lib.hid hc
    clear hc
    rw [hw1] at HB1
    clear hw1 HE
    go_enter Tryz.func24, Tryz.ntmps24
    go_wp2_with fail
    go_returns
    exact ⟨false, rfl, ⟨fun h => (by cases h), fun h => absurd (congrArg Prod.fst h) HCC.out⟩, HB1.out⟩
set_option maxRecDepth 100000 in
set_option maxHeartbeats 2000000 in
theorem eqParts_any (ps qs : List PW) (a : Option Addr) (l c : Nat) (a' : Option Addr) (l' c' : Nat) (w : World) (hp : PartsAt w.heap.size w a l c ps) (hq : PartsAt w.heap.size w a' l' c' qs) :
    Calls Tryz.prog 23 #[.slice a l c, .slice a' l' c', .func (.func 24) #[] #[]] w fun e w' => ∃ r : Bool, e = .returned (.bool r) ∧ (r = true ↔ pairs ps = pairs qs) ∧ Below w.heap.size w w' := by
  have hlx := hp.1
  have hly := hq.1
  have hmx : l ≤ maxLen := Nat.le_trans hp.2.1 hp.2.2.1
  have hmy : l' ≤ maxLen := Nat.le_trans hq.2.1 hq.2.2.1
  unfold maxLen at hmx hmy
  have HX := Lib.hid hp
  have HY := Lib.hid hq
  have HLX : Hid ((pairs ps).length = l) := Lib.hid (by unfold pairs; rw [List.length_map]; exact hlx)
  have HLY : Hid ((pairs qs).length = l') := Lib.hid (by unfold pairs; rw [List.length_map]; exact hly)
  clear hp hq hlx hly
  by_cases hl : l = l'
  · subst hl
    go_enter Tryz.func23, Tryz.ntmps23
    go_wp2_with fail
    go_loopw [17] (fun i wr => ∃ k : Nat, k ≤ l ∧ i = .int .i64 (k : Int) ∧ (pairs ps).take k = (pairs qs).take k ∧ Below w.heap.size w wr) (fun i _ => l - (intOf i).toNat)
    case atStart => exact ⟨0, by omega, rfl, rfl, Below.refl _ _⟩
    case round =>
      obtain ⟨k, hk, rfl, htk, hbr⟩ := hrel
      by_cases hlt : k < l
      · obtain ⟨b, off, x, rfl, hB, hxk, hxv, x0, x1⟩ := HX.out.get hbr hlt
        obtain ⟨b', off', y, rfl, hB', hyk, hyv, y0, y1⟩ := HY.out.get hbr hlt
        have z1 : b < wr.heap.size := by have := hbr.size; omega
        have z2 : b' < wr.heap.size := by have := hbr.size; omega
        have y0' := (((Below.refl _ wr).alloc (Nat.le_refl _) (.cells #[.int .i64 x.comp, .slice x.va x.vl x.vc] 73)).cell (p := ⟨b', off' + k * 2, none⟩) z2).trans y0
        have y1' := (((Below.refl _ wr).alloc (Nat.le_refl _) (.cells #[.int .i64 x.comp, .slice x.va x.vl x.vc] 73)).cell (p := ⟨b', off' + k * 2 + 1, none⟩) z2).trans y1
        have i1 : (0 : Int) ≤ (k : Int) := by omega
        have i2 : (k : Int) < (l : Int) := by omega
        obtain ⟨w2, hw2⟩ : ∃ w2, w2 = (wr.alloc (.cells #[.int .i64 x.comp, .slice x.va x.vl x.vc] 73)).alloc (.cells #[.int .i64 y.comp, .slice y.va y.vl y.vc] 73) := ⟨_, rfl⟩
        have hb2 : Below wr.heap.size wr w2 := by rw [hw2]; go_grown
        have hsz : w.heap.size ≤ wr.heap.size := hbr.size
        have HS := Lib.hid (samePart_any x y w2 (((hxv.mono hsz).below hb2).mono hb2.size) (((hyv.mono hsz).below hb2).mono hb2.size))
        have HXK : Hid ((pairs ps)[k]? = some (x.comp, x.val)) := Lib.hid (by unfold pairs; rw [List.getElem?_map, hxk]; rfl)
        have HYK : Hid ((pairs qs)[k]? = some (y.comp, y.val)) := Lib.hid (by unfold pairs; rw [List.getElem?_map, hyk]; rfl)
        have HTK := Lib.hid htk
        have HB2 := Lib.hid (hbr.trans (hb2.mono hsz))
        clear hxk hyk htk hbr hxv hyv hb2 hsz
        go_wp2_with fail
        rw [← hw2]
        clear hw2 x0 x1 y0 y1 y0' y1'
        refine HS.out.mono ?_
        rintro e w3 ⟨r, rfl, hr, hb3⟩
        have HR := Lib.hid hr
        have HB3 := Lib.hid (HB2.out.trans (hb3.mono HB2.out.size))
        clear hr hb3
        cases r
        · go_wp2_with fail
          go_returns
          refine ⟨false, rfl, ⟨fun h => (by cases h), fun h => ?_⟩, HB3.out⟩
          have h1 := HXK.out
          rw [h, HYK.out] at h1
          exact absurd (HR.out.2 (Option.some.inj h1).symm) (by simp)
        · go_wp2_with fail
          go_roundw
          case rel => exact ⟨k + 1, by omega, by go_num, take_eq_succ HXK.out HYK.out HTK.out (by first | exact HR.out.1 trivial | exact HR.out.1 rfl), HB3.out⟩
          case measure => simp only [intOf]; omega
      · obtain rfl : k = l := by omega
        have HT := Lib.hid htk
        have HB := Lib.hid hbr
        clear htk hbr
        go_wp2_with fail
        go_returns
        refine ⟨true, rfl, ⟨fun _ => ?_, fun _ => rfl⟩, HB.out⟩
        have h := HT.out
        rw [List.take_of_length_le (by have := HLX.out; omega), List.take_of_length_le (by have := HLY.out; omega)] at h
        exact h
  · have hl2 : ((l : Int) != (l' : Int)) = true := by rw [bne_iff_ne]; omega
    go_enter Tryz.func23, Tryz.ntmps23
    go_wp2_with fail
    go_returns
    exact ⟨false, rfl, ⟨fun h => (by cases h), fun h => absurd (by rw [← HLX.out, ← HLY.out, h]) hl⟩, Below.refl _ _⟩
set_option maxRecDepth 100000 in
set_option maxHeartbeats 2000000 in
theorem same_any (k e c : Int) (pa : Option Addr) (pl pc : Nat) (ps : List PW) (k' e' c' : Int) (qa : Option Addr) (ql qc : Nat) (qs : List PW) (w : World) (hp : PartsAt w.heap.size w pa pl pc ps) (hq : PartsAt w.heap.size w qa ql qc qs) :
    Calls Tryz.prog 9 #[.agg #[.int .i64 k, .int .u64 e, .int .i64 c, .slice pa pl pc], .agg #[.int .i64 k', .int .u64 e', .int .i64 c', .slice qa ql qc]] w fun en w' => ∃ r : Bool, en = .returned (.bool r) ∧ (r = true ↔ cmOf k e c ps = cmOf k' e' c' qs) ∧ Below w.heap.size w w' := by
  obtain ⟨w1, hw1⟩ : ∃ w1, w1 = (w.alloc (.cells #[.int .i64 k, .int .u64 e, .int .i64 c, .slice pa pl pc] 34)).alloc (.cells #[.int .i64 k', .int .u64 e', .int .i64 c', .slice qa ql qc] 34) := ⟨_, rfl⟩
  have hb1 : Below w.heap.size w w1 := by rw [hw1]; go_grown
  have HE := Lib.hid (eqParts_any ps qs pa pl pc qa ql qc w1 ((hp.below hb1).mono hb1.size) ((hq.below hb1).mono hb1.size))
  have HB1 := Lib.hid hb1
  clear hp hq hb1
  by_cases h1 : k = k'
  · by_cases h2 : e = e'
    · by_cases h3 : c = c'
      · have e1 : (k == k') = true := by simp [h1]
        have e2 : (e == e') = true := by simp [h2]
        have e3 : (c == c') = true := by simp [h3]
        have HCC := Lib.hid (And.intro h1 (And.intro h2 h3))
        clear h1 h2 h3
        go_enter Tryz.func9, Tryz.ntmps9
        go_wp2_with fail
        rw [← hw1]
        clear hw1
        refine HE.out.mono ?_
        rintro en w2 ⟨r, rfl, hr, hb2⟩
        have HR := Lib.hid hr
        have HB2 := Lib.hid (HB1.out.trans (hb2.mono HB1.out.size))
        clear hr hb2
        go_wp2_with fail
        go_returns
        refine ⟨r, rfl, ?_, HB2.out⟩
        rw [HR.out, HCC.out.1, HCC.out.2.1, HCC.out.2.2]
        unfold cmOf
        constructor
        · intro h; rw [h]
        · intro h; exact congrArg CM.ps h
      · have e1 : (k == k') = true := by simp [h1]
        have e2 : (e == e') = true := by simp [h2]
        have e3 : (c == c') = false := by simp [h3]
        have HCC : Hid (¬ c = c') := Lib.hid h3
        rw [hw1] at HB1
        clear h1 h2 h3 hw1 HE
        go_enter Tryz.func9, Tryz.ntmps9
        go_wp2_with fail
        go_returns
        exact ⟨false, rfl, ⟨fun h => (by cases h), fun h => absurd (congrArg CM.comp h) HCC.out⟩, HB1.out⟩
    · have e1 : (k == k') = true := by simp [h1]
      have e2 : (e == e') = false := by simp [h2]
      have HCC : Hid (¬ e = e') := Lib.hid h2
      rw [hw1] at HB1
      clear h1 h2 hw1 HE
      go_enter Tryz.func9, Tryz.ntmps9
      go_wp2_with fail
      go_returns
      exact ⟨false, rfl, ⟨fun h => (by cases h), fun h => absurd (congrArg CM.ent h) HCC.out⟩, HB1.out⟩
  · have e1 : (k == k') = false := by simp [h1]
    have HCC : Hid (¬ k = k') := Lib.hid h1
    rw [hw1] at HB1
    clear h1 hw1 HE
    go_enter Tryz.func9, Tryz.ntmps9
    go_wp2_with fail
    go_returns
    exact ⟨false, rfl, ⟨fun h => (by cases h), fun h => absurd (congrArg CM.kind h) HCC.out⟩, HB1.out⟩
end Go.Proofs.YtnhlnnehpmjeiaaGreatDoor
namespace Go.Proofs.YtnhlnnehpmjeiaaGreatDoor
open Go.RowKit
set_option linter.unusedVariables false
set_option maxRecDepth 100000 in
theorem great21_any (ver : Int) (cs : List Cmp) (a : Option Addr) (len cap : Nat) (w : World) (hcs : CompsAt w.heap.size w a len cs) : Calls Tryz.prog 11 #[.agg #[.int .i64 ver, .slice a len cap]] w fun e w' => e = .returned (.bool (great18B cs)) ∧ Below w.heap.size w w' := by
  have hmx : len ≤ maxLen := hcs.2.1
  have hll := hcs.1
  unfold maxLen at hmx
  have HLL := Lib.hid hll
  clear hll
  have hbel0 : Below w.heap.size w (w.alloc (.cells #[.int .i64 ver, .slice a len cap] 43)) := by go_grown
  by_cases h30 : 30 < len
  · have HT : Hid (great18B cs = true) := Lib.hid (by simp [great18B, HLL.out]; omega)
    go_enter Tryz.func11, Tryz.ntmps11
    go_wp2_with fail
    go_returns
    exact ⟨ret_bool HT.out.symm, hbel0⟩
  · go_enter Tryz.func11, Tryz.ntmps11
    go_wp2_with fail
    go_loopw [3] (fun i wr => ∃ k : Nat, k ≤ len ∧ i = .int .i64 k ∧ great18B cs = ((cs.drop k).any fun c => decide (12 < c.fields.length)) ∧ w.alloc (.cells #[.int .i64 ver, .slice a len cap] 43) = wr) (fun i _ => len - (intOf i).toNat)
    case atStart => exact ⟨0, Nat.zero_le _, rfl, by simp [great18B, HLL.out]; omega, rfl⟩
    case round =>
      obtain ⟨k, hk, rfl, hgo, rfl⟩ := hrel
      have HGO := Lib.hid hgo
      clear hgo
      by_cases hlt : k < len
      · obtain ⟨b, off, c, rfl, hB, hc, c0, c1, fa, fl, fc, c2, hF, hnil⟩ := hcs.get hbel0 hlt
        have hstep := Lib.hid (HGO.out.trans (by rw [drop_get hc]))
        have hfl := hF.1
        have hfm := hF.2.1
        unfold maxLen at hfm
        have HFL := Lib.hid hfl
        clear hF hfl
        by_cases h12 : 12 < fl
        · have HT : Hid (great18B cs = true) := Lib.hid (by rw [hstep.out, List.any_cons, HFL.out]; simp [h12])
          go_wp2_with fail
          go_returns
          exact ⟨ret_bool HT.out.symm, hbel0⟩
        · have HT := Lib.hid (hstep.out.trans (show _ = ((cs.drop (k + 1)).any fun c => decide (12 < c.fields.length)) by rw [List.any_cons, HFL.out]; simp [h12]))
          go_wp2_with fail
          go_roundw
          case rel => exact ⟨k + 1, by omega, by go_num, HT.out, by trivial⟩
          case measure => simp [intOf]; omega
      · obtain rfl : k = len := by omega
        have HT : Hid (great18B cs = false) := Lib.hid (by rw [HGO.out, List.drop_eq_nil_of_le (by rw [HLL.out]; exact Nat.le_refl _)]; rfl)
        go_wp2_with fail
        go_returns
        exact ⟨ret_bool HT.out.symm, hbel0⟩
def longB (ps : List PW) : Bool := decide (12 < ps.length) || ps.any fun p => decide (100 < p.val.length)
set_option maxRecDepth 100000 in
theorem long21_any (k e c : Int) (pa : Option Addr) (pl pc : Nat) (ps : List PW) (w : World) (hp : PartsAt w.heap.size w pa pl pc ps) : Calls Tryz.prog 12 #[.agg #[.int .i64 k, .int .u64 e, .int .i64 c, .slice pa pl pc]] w fun en w' => en = .returned (.bool (longB ps)) ∧ Below w.heap.size w w' := by
  have hmx : pl ≤ maxLen := Nat.le_trans hp.2.1 hp.2.2.1
  have hll := hp.1
  unfold maxLen at hmx
  have HLL := Lib.hid hll
  have HP := Lib.hid hp
  clear hll hp
  have hbel0 : Below w.heap.size w (w.alloc (.cells #[.int .i64 k, .int .u64 e, .int .i64 c, .slice pa pl pc] 34)) := by go_grown
  by_cases h12 : 12 < pl
  · have HT : Hid (longB ps = true) := Lib.hid (by simp [longB, HLL.out]; omega)
    go_enter Tryz.func12, Tryz.ntmps12
    go_wp2_with fail
    go_returns
    exact ⟨ret_bool HT.out.symm, hbel0⟩
  · go_enter Tryz.func12, Tryz.ntmps12
    go_wp2_with fail
    go_loopw [3] (fun i wr => ∃ m : Nat, m ≤ pl ∧ i = .int .i64 m ∧ longB ps = ((ps.drop m).any fun p => decide (100 < p.val.length)) ∧ w.alloc (.cells #[.int .i64 k, .int .u64 e, .int .i64 c, .slice pa pl pc] 34) = wr) (fun i _ => pl - (intOf i).toNat)
    case atStart => exact ⟨0, Nat.zero_le _, rfl, by simp [longB, HLL.out]; omega, rfl⟩
    case round =>
      obtain ⟨j, hk, rfl, hgo, rfl⟩ := hrel
      have HGO := Lib.hid hgo
      clear hgo
      by_cases hlt : j < pl
      · obtain ⟨b, off, p, rfl, hB, hc, hv, c0, c1⟩ := HP.out.get hbel0 hlt
        have hstep := Lib.hid (HGO.out.trans (by rw [drop_get hc]))
        have hfl := hv.1
        have hfm : p.vl ≤ maxLen := Nat.le_trans hv.2.1 hv.2.2.1
        unfold maxLen at hfm
        have HFL := Lib.hid hfl
        have i1 : (0 : Int) ≤ (j : Int) := by omega
        have i2 : (j : Int) < (pl : Int) := by omega
        clear hv hfl
        by_cases h100 : 100 < p.vl
        · have HT : Hid (longB ps = true) := Lib.hid (by rw [hstep.out, List.any_cons, HFL.out]; simp [h100])
          go_wp2_with fail
          go_returns
          exact ⟨ret_bool HT.out.symm, hbel0⟩
        · have HT := Lib.hid (hstep.out.trans (show _ = ((ps.drop (j + 1)).any fun p => decide (100 < p.val.length)) by rw [List.any_cons, HFL.out]; simp [h100]))
          go_wp2_with fail
          go_roundw
          case rel => exact ⟨j + 1, by omega, by go_num, HT.out, by trivial⟩
          case measure => simp [intOf]; omega
      · obtain rfl : j = pl := by omega
        have HT : Hid (longB ps = false) := Lib.hid (by rw [HGO.out, List.drop_eq_nil_of_le (by rw [HLL.out]; exact Nat.le_refl _)]; rfl)
        go_wp2_with fail
        go_returns
        exact ⟨ret_bool HT.out.symm, hbel0⟩
theorem longB_f {ps : List PW} (h : longB ps = false) : ps.length ≤ 12 ∧ ∀ p ∈ ps, p.val.length ≤ 100 := by
  unfold longB at h
  rw [Bool.or_eq_false_iff, List.any_eq_false] at h
  refine ⟨by have := h.1; simp at this; exact this, fun p hp => ?_⟩
  have := h.2 p hp
  simp at this
  exact this
/-- Has nothing that its kind doesn't name. -/
def plainC (k e c : Int) (pl : Nat) : Bool := if k = 1 then decide (e = 0) && decide (c = 0) else if k = 2 then decide (c = 0) && decide (pl = 0) else if k = 5 then decide (pl = 0) else decide (c = 0) && decide (pl = 1)
set_option maxHeartbeats 1000000 in
theorem plain_any (k e c : Int) (pa : Option Addr) (pl pc : Nat) (w : World) (hl : pl ≤ 100) : Calls Tryz.prog 26 #[.agg #[.int .i64 k, .int .u64 e, .int .i64 c, .slice pa pl pc]] w fun en w' => en = .returned (.bool (plainC k e c pl)) ∧ Below w.heap.size w w' := by
  have HB : Hid (Below w.heap.size w (w.alloc (.cells #[.int .i64 k, .int .u64 e, .int .i64 c, .slice pa pl pc] 34))) := Lib.hid (by go_grown)
  by_cases h1 : k = 1
  · have e1 : (k == 1) = true := by simp [h1]
    by_cases he : e = 0
    · have e2 : (e == 0) = true := by simp [he]
      have HR : Hid ((c == 0) = plainC k e c pl) := Lib.hid (by unfold plainC; rw [if_pos h1]; by_cases hc : c = 0 <;> simp [he, hc])
      clear h1 he
      go_enter Tryz.func26, Tryz.ntmps26
      go_wp2_with fail
      go_returns
      exact ⟨ret_bool HR.out, HB.out⟩
    · have e2 : (e == 0) = false := by simp [he]
      have HR : Hid (false = plainC k e c pl) := Lib.hid (by unfold plainC; rw [if_pos h1]; simp [he])
      clear h1 he
      go_enter Tryz.func26, Tryz.ntmps26
      go_wp2_with fail
      go_returns
      exact ⟨ret_bool HR.out, HB.out⟩
  have e1 : (k == 1) = false := by simp [h1]
  by_cases h2 : k = 2
  · have e2 : (k == 2) = true := by simp [h2]
    by_cases hc : c = 0
    · have e3 : (c == 0) = true := by simp [hc]
      have HR : Hid (((pl : Int) == 0) = plainC k e c pl) := Lib.hid (by unfold plainC; rw [if_neg h1, if_pos h2]; by_cases hp : pl = 0 <;> simp [hc, hp])
      clear h1 h2 hc
      go_enter Tryz.func26, Tryz.ntmps26
      go_wp2_with fail
      go_returns
      exact ⟨ret_bool HR.out, HB.out⟩
    · have e3 : (c == 0) = false := by simp [hc]
      have HR : Hid (false = plainC k e c pl) := Lib.hid (by unfold plainC; rw [if_neg h1, if_pos h2]; simp [hc])
      clear h1 h2 hc
      go_enter Tryz.func26, Tryz.ntmps26
      go_wp2_with fail
      go_returns
      exact ⟨ret_bool HR.out, HB.out⟩
  have e2 : (k == 2) = false := by simp [h2]
  by_cases h5 : k = 5
  · have e3 : (k == 5) = true := by simp [h5]
    have HR : Hid (((pl : Int) == 0) = plainC k e c pl) := Lib.hid (by unfold plainC; rw [if_neg h1, if_neg h2, if_pos h5]; by_cases hp : pl = 0 <;> simp [hp])
    clear h1 h2 h5
    go_enter Tryz.func26, Tryz.ntmps26
    go_wp2_with fail
    go_returns
    exact ⟨ret_bool HR.out, HB.out⟩
  have e3 : (k == 5) = false := by simp [h5]
  by_cases hc : c = 0
  · have e4 : (c == 0) = true := by simp [hc]
    have HR : Hid (((pl : Int) == 1) = plainC k e c pl) := Lib.hid (by unfold plainC; rw [if_neg h1, if_neg h2, if_neg h5]; by_cases hp : pl = 1 <;> simp [hc, hp] <;> omega)
    clear h1 h2 h5 hc
    go_enter Tryz.func26, Tryz.ntmps26
    go_wp2_with fail
    go_returns
    exact ⟨ret_bool HR.out, HB.out⟩
  · have e4 : (c == 0) = false := by simp [hc]
    have HR : Hid (false = plainC k e c pl) := Lib.hid (by unfold plainC; rw [if_neg h1, if_neg h2, if_neg h5]; simp [hc])
    clear h1 h2 h5 hc
    go_enter Tryz.func26, Tryz.ntmps26
    go_wp2_with fail
    go_returns
    exact ⟨ret_bool HR.out, HB.out⟩
/-- What Check's silence says. -/
structure ChOk (ver : Int) (cs : List Cmp) (k e c : Int) (pl : Nat) (ps : List PW) : Prop where
  sch : schemaCheck ver cs = 0
  k0 : 1 ≤ k
  k1 : k ≤ 5
  plain : plainC k e c pl = true
  parts : cpsGo cs [] ps = 0
  has : k = 5 → ∃ x, findC c cs = some x
set_option maxRecDepth 100000 in
set_option maxHeartbeats 4000000 in
theorem cmdCheck_any (ver : Int) (cs : List Cmp) (a : Option Addr) (len cap : Nat) (k e c : Int) (pa : Option Addr) (pl pc : Nat) (ps : List PW) (w : World) (hcs : CompsAt w.heap.size w a len cs) (hw : CompsWf cs) (hf : ∀ c ∈ cs, c.fields.length ≤ 100000) (hp : PartsAt w.heap.size w pa pl pc ps) (hl : pl ≤ 100) :
    Calls Tryz.prog 13 #[.agg #[.int .i64 ver, .slice a len cap], .agg #[.int .i64 k, .int .u64 e, .int .i64 c, .slice pa pl pc]] w fun en w' => ∃ r : Int, en = .returned (.int .i64 r) ∧ (r = 0 → ChOk ver cs k e c pl ps) ∧ Below w.heap.size w w' := by
  obtain ⟨w1, hw1⟩ : ∃ w1, w1 = (w.alloc (.cells #[.int .i64 ver, .slice a len cap] 43)).alloc (.cells #[.int .i64 k, .int .u64 e, .int .i64 c, .slice pa pl pc] 34) := ⟨_, rfl⟩
  have hb1 : Below w.heap.size w w1 := by rw [hw1]; go_grown
  have hs1 : w1.heap[w.heap.size]? = some (.cells #[.int .i64 ver, .slice a len cap] 43 (0, 0)) := by rw [hw1]; exact keepA _ (heap_alloc_new _ _)
  have hc1 : w1.heap[w.heap.size + 1]? = some (.cells #[.int .i64 k, .int .u64 e, .int .i64 c, .slice pa pl pc] 34 (0, 0)) := by
    rw [hw1]
    have := heap_alloc_new (w.alloc (.cells #[.int .i64 ver, .slice a len cap] 43)) (.cells #[.int .i64 k, .int .u64 e, .int .i64 c, .slice pa pl pc] 34)
    simpa using this
  have HS := Lib.hid (schemaCheck_any ver cs a len cap w1 ((hcs.below hb1).mono hb1.size) hw)
  have HCS := Lib.hid hcs
  have HF := Lib.hid hf
  have HP := Lib.hid hp
  have HB1 := Lib.hid hb1
  have HS1 := Lib.hid hs1
  have HC1 := Lib.hid hc1
  clear hcs hw hf hp hb1 hs1 hc1
  go_enter Tryz.func13, Tryz.ntmps13
  go_wp2_with fail
  rw [← hw1]
  clear hw1
  refine HS.out.mono ?_
  rintro en w2 ⟨rfl, hb2⟩
  have hc2 := keep hb2 HC1.out
  have x0 := cell_at hc2 0
  have x1 := cell_at hc2 1
  have x2 := cell_at hc2 2
  have x3 := cell_at hc2 3
  simp at x0 x1 x2 x3
  have HB2 := Lib.hid (HB1.out.trans (hb2.mono HB1.out.size))
  have HC2 := Lib.hid hc2
  have HS2 := Lib.hid (keep hb2 HS1.out)
  clear hb2 hc2 HS HC1 HB1 HS1
  obtain ⟨r0, hr0⟩ : ∃ r0, schemaCheck ver cs = r0 := ⟨_, rfl⟩
  rw [hr0]
  by_cases h0 : r0 = 0
  · subst h0
    have HR0 := Lib.hid hr0
    clear hr0
    by_cases hk1 : k < 1
    · go_wp2_with fail
      go_returns
      exact ⟨1, rfl, fun h => (by cases h), HB2.out⟩
    by_cases hk5 : 5 < k
    · go_wp2_with fail
      go_returns
      exact ⟨1, rfl, fun h => (by cases h), HB2.out⟩
    go_wp2_with fail
    refine (plain_any k e c pa pl pc _ hl).mono ?_
    rintro en w3 ⟨rfl, hb3⟩
    obtain ⟨r1, hr1⟩ : ∃ r1, plainC k e c pl = r1 := ⟨_, rfl⟩
    rw [hr1]
    have HR1 := Lib.hid hr1
    have HB3 := Lib.hid (HB2.out.trans (hb3.mono HB2.out.size))
    have hc3 := keep hb3 HC2.out
    have hs3 := keep hb3 HS2.out
    have HC3 := Lib.hid hc3
    have HS3 := Lib.hid hs3
    clear hr1 hb3 x0 x1 x2 x3
    cases r1
    · go_wp2_with fail
      go_returns
      exact ⟨4, rfl, fun h => (by cases h), HB3.out⟩
    · have x3 := cell_at hc3 3
      have s0 := cell_at hs3 0
      have s1 := cell_at hs3 1
      simp at x3 s0 s1
      clear hc3 hs3
      have HK := Lib.hid (checkParts_any ver cs a len cap ps pa pl pc w3 ((HCS.out.below HB3.out).mono HB3.out.size) HF.out ((HP.out.below HB3.out).mono HB3.out.size))
      go_wp2_with fail
      refine HK.out.mono ?_
      rintro en w4 ⟨rfl, hb4⟩
      obtain ⟨r2, hr2⟩ : ∃ r2, cpsGo cs [] ps = r2 := ⟨_, rfl⟩
      rw [hr2]
      have HR2 := Lib.hid hr2
      have HB4 := Lib.hid (HB3.out.trans (hb4.mono HB3.out.size))
      have hc4 := keep hb4 HC3.out
      have hs4 := keep hb4 HS3.out
      have HC4 := Lib.hid hc4
      clear hr2 hb4 x3 s0 s1 HK
      by_cases h2 : r2 = 0
      · subst h2
        have x2 := cell_at hc4 2
        have s0 := cell_at hs4 0
        have s1 := cell_at hs4 1
        simp at x2 s0 s1
        clear hc4 hs4
        have HFD := Lib.hid (Find_any ver c cs a len cap w4 ((HCS.out.below HB4.out).mono HB4.out.size) HF.out)
        go_wp2_with fail
        refine HFD.out.mono ?_
        rintro en w5 h
        unfold IsFind at h
        cases hfc : findC c cs with
        | none =>
          rw [hfc] at h
          obtain ⟨rfl, hb5⟩ := h
          have HB5 := Lib.hid ((HB4.out.trans (hb5.mono HB4.out.size)).alloc (by have := HB4.out.size; have := hb5.size; omega) (.cells #[.int .i64 0, .string ByteArray.empty, .slice none 0 0] 51))
          have hc5 := keepA (.cells #[.int .i64 0, .string ByteArray.empty, .slice none 0 0] 51) (keep hb5 HC4.out)
          have x0 := cell_at hc5 0
          simp at x0
          have HFC := Lib.hid hfc
          clear hb5 hc5 x2 s0 s1 hfc
          by_cases h5 : k = 5
          · have e5 : (k == 5) = true := by simp [h5]
            clear h5
            go_wp2_with fail
            go_returns
            exact ⟨6, rfl, fun h => (by cases h), HB5.out⟩
          · have e5 : (k == 5) = false := by simp [h5]
            have HK5 : Hid (k ≠ 5) := Lib.hid h5
            clear h5
            go_wp2_with fail
            go_returns
            exact ⟨0, rfl, fun _ => ⟨HR0.out, by omega, by omega, HR1.out, HR2.out, fun h => absurd h HK5.out⟩, HB5.out⟩
        | some x =>
          rw [hfc] at h
          obtain ⟨va, fl, vc, rfl, _, _, hb5⟩ := h
          have HB5 := Lib.hid ((HB4.out.trans (hb5.mono HB4.out.size)).alloc (by have := HB4.out.size; have := hb5.size; omega) (.cells #[.int .i64 x.id, .string x.name, .slice va fl vc] 51))
          have hc5 := keepA (.cells #[.int .i64 x.id, .string x.name, .slice va fl vc] 51) (keep hb5 HC4.out)
          have x0 := cell_at hc5 0
          simp at x0
          have HFC := Lib.hid hfc
          clear hb5 hc5 x2 s0 s1 hfc
          by_cases h5 : k = 5
          · have e5 : (k == 5) = true := by simp [h5]
            clear h5
            go_wp2_with fail
            go_returns
            exact ⟨0, rfl, fun _ => ⟨HR0.out, by omega, by omega, HR1.out, HR2.out, fun h => ⟨x, HFC.out⟩⟩, HB5.out⟩
          · have e5 : (k == 5) = false := by simp [h5]
            clear h5
            go_wp2_with fail
            go_returns
            exact ⟨0, rfl, fun _ => ⟨HR0.out, by omega, by omega, HR1.out, HR2.out, fun h => ⟨x, HFC.out⟩⟩, HB5.out⟩
      · have e2 : (r2 != 0) = true := by simp [h2]
        have H2 : Hid (r2 ≠ 0) := Lib.hid h2
        clear h2 hc4 hs4
        go_wp2_with fail
        go_returns
        exact ⟨r2, rfl, fun h => absurd h H2.out, HB4.out⟩
  · have e0 : (r0 != 0) = true := by simp [h0]
    have H0 : Hid (r0 ≠ 0) := Lib.hid h0
    clear h0
    go_wp2_with fail
    go_returns
    exact ⟨r0, rfl, fun h => absurd h H0.out, HB2.out⟩
end Go.Proofs.YtnhlnnehpmjeiaaGreatDoor
