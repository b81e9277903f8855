/- Contract of retrofitref05.Fit. Printed by mkZ9.py. -/
import Derived.Test.YtoadihebdaooaaaGreatE29
namespace Go.Proofs.YtoadihebdaooaaaGreat
open Go.RowKit
set_option linter.unusedVariables false
theorem elemL_at : ∀ (l : List (Int × Int)) (i : Nat) (e : Int × Int), l[i]? = some e → (elemL l)[i * 2]? = some (.int .i64 e.1)
  | [], _, _, h => by simp at h
  | y :: r, 0, e, h => by simp at h; subst h; rfl
  | y :: r, i + 1, e, h => by
    have h1 := elemL_at r i e (by simpa using h)
    rw [show (i + 1) * 2 = i * 2 + 2 by omega]
    exact h1
def fit_list (eb eo vl oc vb vo vc i : Nat) (kd : Int) (s : Bool) (ax bx : Int) (r : Bool) : List (Value → World → Prop) :=
  [IsV (.slice (some ⟨eb, eo, none⟩) vl oc),
   IsV (.int .i64 (i : Int)),
   IsV (.pointer (some ⟨eb, eo + i * 2, none⟩)),
   IsV (.pointer (some ⟨eb, eo + i * 2, none⟩)),
   IsV (.int .i64 kd),
   IsV (.slice (some ⟨vb, vo, none⟩) vl vc),
   IsV (.int .i64 (i : Int)),
   IsV (.pointer (some ⟨vb, vo + i * 3, none⟩)),
   IsV (.agg #[.bool s, .int .u64 ax, .int .u64 bx]),
   IsV (.bool r),
   IsV (.bool (!r))]
theorem fit_list_lasts (eb eo vl oc vb vo vc i : Nat) (kd : Int) (s : Bool) (ax bx : Int) (r : Bool) : ∀ p ∈ fit_list eb eo vl oc vb vo vc i  kd  s  ax bx  r , Lasts p := by
  simp only [fit_list, List.mem_cons, List.not_mem_nil, or_false]
  rintro p hp
  repeat (rcases hp with rfl | hp; exact lasts_v _)
set_option maxRecDepth 100000 in
set_option maxHeartbeats 1000000 in
theorem fit05_any (fs : List Fld) (a : Option Addr) (len cap : Nat) (va : Option Addr) (vl vc : Nat) (val : List WI) (w : World) (hfs : FieldsAt w.heap.size w a len fs) (hv : IntsAt w.heap.size w va vl vc val) :
    Calls Tryz.prog 90 #[.slice a len cap, .slice va vl vc] w fun e w' => e = .returned (.int .i64 (fitF fs val)) ∧ Below w.heap.size w w' := by
  have hvl := hv.1
  have hmv : vl ≤ maxLen := Nat.le_trans hv.2.1 hv.2.2.1
  unfold maxLen at hmv
  have HFS := Lib.hid hfs
  have HV := Lib.hid hv
  have HVL := Lib.hid hvl
  clear hfs hv hvl
  go_enter Tryz.func90, Tryz.ntmps90
  go_wp2_with fail
  refine (lay05_any fs _ _ _ _ HFS.out).mono ?_
  rintro e w1 ⟨hb1, hlay⟩
  by_cases hl : layCheck fs = 0
  · rw [if_pos hl] at hlay
    obtain ⟨oa, n, oc, sa, m, sc, rfl, hn, hrow, _, _⟩ := hlay
    rw [elems_cnt] at hn
    obtain ⟨h8, hall, _⟩ := layCheck_zero hl
    have hcl := cnt_le fs hall
    have hlen := HFS.out.1
    have hn64 : n ≤ 64 := by omega
    by_cases hvn : vl = n
    · subst hvn
      have HF : Hid (fitF fs val = if fitE (kindsL fs) val then 0 else 3) := Lib.hid (by
        unfold fitF
        rw [if_neg (by simp [hl]), if_neg (by simp; have := HVL.out; omega), fitGo_E fs val (by have := HVL.out; omega)])
      have HZL : Hid (((kindsL fs).zip val).length = vl) := Lib.hid (by rw [List.length_zip, kindsL_len]; have := HVL.out; omega)
      have HN := Lib.hid hn
      have HROW := Lib.hid hrow
      have HB1 := Lib.hid hb1
      clear hl hall hcl hlen hrow hb1 hn
      go_wp2_with fail
      go_loopw [9] (fun j wr => ∃ i : Nat, i ≤ vl ∧ j = .int .i64 i ∧ (((kindsL fs).zip val).take i).all (fun p => fitsF p.1 p.2) = true ∧ Below w1.heap.size w1 wr) (fun j _ => vl - (intOf j).toNat)
      case atStart => exact ⟨0, Nat.zero_le _, rfl, by simp, Below.refl _ _⟩
      case round =>
        obtain ⟨i, hi, rfl, hal, hbw⟩ := hrel
        have HAL := Lib.hid hal
        clear hal
        by_cases hlt : i < vl
        · have hbw0 := HB1.out.trans (hbw.mono HB1.out.size)
          obtain ⟨vb, vo, x, rfl, hvB, hx, hxw, x0, x1, x2⟩ := HV.out.get hbw0 hlt
          obtain ⟨e, he⟩ : ∃ e, (elems fs)[i]? = some e := ⟨_, List.getElem?_eq_getElem (by rw [elems_cnt]; have := HN.out; omega)⟩
          obtain ⟨eb, eo, hoa, hel, hec⟩ : ∃ eb eo, oa = some ⟨eb, eo, none⟩ ∧ eb < w1.heap.size ∧ w1.cell? ⟨eb, eo + i * 2, none⟩ = some (.int .i64 e.1) := by
            obtain ⟨q, hq, _, hql, hqc⟩ := row_block HROW.out (by omega)
            exact ⟨q, 0, hq, hql, by rw [Nat.zero_add]; exact hqc _ _ (elemL_at _ i e he)⟩
          rw [hoa]
          have hz : ((kindsL fs).zip val)[i]? = some (e.1, x) := by
            rw [List.getElem?_zip_eq_some]
            refine ⟨?_, hx⟩
            rw [← elems_kinds, List.getElem?_map, he]; rfl
          obtain ⟨kd, hkd⟩ : ∃ kd, e.1 = kd := ⟨_, rfl⟩
          rw [hkd] at hec hz
          obtain ⟨s, ax, bx⟩ := x
          dsimp only at x0 x1 x2
          obtain ⟨r, hr⟩ : ∃ r, fitsF kd ⟨s, ax, bx⟩ = r := ⟨_, rfl⟩
          have hwz := hbw.size
          have hwz1 := HB1.out.size
          have HCEL : Hid (∀ w', Below wr.heap.size wr w' → w'.cell? ⟨eb, eo + i * 2, none⟩ = some (.int .i64 kd) ∧ w'.cell? ⟨vb, vo + i * 3, none⟩ = some (.bool s) ∧ w'.cell? ⟨vb, vo + i * 3 + 1, none⟩ = some (.int .u64 ax) ∧ w'.cell? ⟨vb, vo + i * 3 + 2, none⟩ = some (.int .u64 bx)) := Lib.hid (fun w' hb' =>
            ⟨(hb'.cell (p := ⟨eb, _, none⟩) (show eb < wr.heap.size by omega)).trans ((hbw.cell (p := ⟨eb, _, none⟩) hel).trans hec), (hb'.cell (p := ⟨vb, _, none⟩) (show vb < wr.heap.size by omega)).trans x0, (hb'.cell (p := ⟨vb, _, none⟩) (show vb < wr.heap.size by omega)).trans x1, (hb'.cell (p := ⟨vb, _, none⟩) (show vb < wr.heap.size by omega)).trans x2⟩)
          have HXW := Lib.hid hxw
          have HRR := Lib.hid hr
          have HZ := Lib.hid hz
          have HBW := Lib.hid hbw
          have HB0 := Lib.hid hbw0
          have i1 : (0 : Int) ≤ (i : Int) := by omega
          have i2 : (i : Int) < (vl : Int) := by omega
          clear hx hxw x0 x1 x2 he hoa hel hec hz hkd hr hbw hbw0
          go_wp2_with fail
          refine wp_region_frame (by kernel_rfl) (by kernel_rfl) (by kernel_rfl) (byList (fit_list eb eo vl oc vb vo vc i kd s ax bx r)) (lasts_list (fit_list_lasts eb eo vl oc vb vo vc i kd s ax bx r)) ?_ ?_
          · intro vs w' iq o A F hb ho hd
            have m5 : A.tmps[5]?.getD undef = (.slice (some ⟨eb, eo, none⟩) vl oc) := F.m (by kernel_rfl) rfl
            have m9 : A.tmps[9]?.getD undef = (.int .i64 (i : Int)) := F.m (by kernel_rfl) rfl
            have m1 : A.tmps[1]?.getD undef = (.slice (some ⟨vb, vo, none⟩) vl vc) := F.m (by kernel_rfl) rfl
            have G := F.light (n := 42) (by kernel_rfl)
            clear F
            obtain ⟨z0, z1, z2, z3⟩ := HCEL.out w' hb
            clear hb
            revert ho hd
            match iq with
            | 0 =>
              intro ho hd
              obtain rfl := (Option.some.inj ho).symm
              clear hd ho
              refine step_open rfl ?_
              clear G
              exact step_run (v := (.slice (some ⟨eb, eo, none⟩) vl oc)) (by go_simp) rfl
            | 1 =>
              intro ho hd
              obtain rfl := (Option.some.inj ho).symm
              clear hd ho
              refine step_open rfl ?_
              clear G
              exact step_run (v := (.int .i64 (i : Int))) (by go_simp) rfl
            | 2 =>
              intro ho hd
              obtain rfl := (Option.some.inj ho).symm
              have d0 : vs 0 = (.slice (some ⟨eb, eo, none⟩) vl oc) := hd ⟨0, .data⟩ (by simp) rfl
              have d1 : vs 1 = (.int .i64 (i : Int)) := hd ⟨1, .data⟩ (by simp) rfl
              clear hd ho
              have h31 := G.h (j := 0) (d := 31) rfl (by decide) d0
              have h32 := G.h (j := 1) (d := 32) rfl (by decide) d1
              refine step_open rfl ?_
              clear G
              exact step_run (v := (.pointer (some ⟨eb, eo + i * 2, none⟩))) (by go_simp) rfl
            | 3 =>
              intro ho hd
              obtain rfl := (Option.some.inj ho).symm
              have d2 : vs 2 = (.pointer (some ⟨eb, eo + i * 2, none⟩)) := hd ⟨2, .data⟩ (by simp) rfl
              clear hd ho
              have h33 := G.h (j := 2) (d := 33) rfl (by decide) d2
              refine step_open rfl ?_
              clear G
              exact step_run (v := (.pointer (some ⟨eb, eo + i * 2, none⟩))) (by go_simp) rfl
            | 4 =>
              intro ho hd
              obtain rfl := (Option.some.inj ho).symm
              have d3 : vs 3 = (.pointer (some ⟨eb, eo + i * 2, none⟩)) := hd ⟨3, .data⟩ (by simp) rfl
              clear hd ho
              have h34 := G.h (j := 3) (d := 34) rfl (by decide) d3
              refine step_open rfl ?_
              clear G
              exact step_run (v := (.int .i64 kd)) (by go_simp) rfl
            | 5 =>
              intro ho hd
              obtain rfl := (Option.some.inj ho).symm
              clear hd ho
              refine step_open rfl ?_
              clear G
              exact step_run (v := (.slice (some ⟨vb, vo, none⟩) vl vc)) (by go_simp) rfl
            | 6 =>
              intro ho hd
              obtain rfl := (Option.some.inj ho).symm
              clear hd ho
              refine step_open rfl ?_
              clear G
              exact step_run (v := (.int .i64 (i : Int))) (by go_simp) rfl
            | 7 =>
              intro ho hd
              obtain rfl := (Option.some.inj ho).symm
              have d5 : vs 5 = (.slice (some ⟨vb, vo, none⟩) vl vc) := hd ⟨5, .data⟩ (by simp) rfl
              have d6 : vs 6 = (.int .i64 (i : Int)) := hd ⟨6, .data⟩ (by simp) rfl
              clear hd ho
              have h36 := G.h (j := 5) (d := 36) rfl (by decide) d5
              have h37 := G.h (j := 6) (d := 37) rfl (by decide) d6
              refine step_open rfl ?_
              clear G
              exact step_run (v := (.pointer (some ⟨vb, vo + i * 3, none⟩))) (by go_simp) rfl
            | 8 =>
              intro ho hd
              obtain rfl := (Option.some.inj ho).symm
              have d7 : vs 7 = (.pointer (some ⟨vb, vo + i * 3, none⟩)) := hd ⟨7, .data⟩ (by simp) rfl
              clear hd ho
              have h38 := G.h (j := 7) (d := 38) rfl (by decide) d7
              refine step_open rfl ?_
              clear G
              exact step_run (v := (.agg #[.bool s, .int .u64 ax, .int .u64 bx])) (by go_simp) rfl
            | 9 =>
              intro ho hd
              obtain rfl := (Option.some.inj ho).symm
              have d4 : vs 4 = (.int .i64 kd) := hd ⟨4, .data⟩ (by simp) rfl
              have d8 : vs 8 = (.agg #[.bool s, .int .u64 ax, .int .u64 bx]) := hd ⟨8, .data⟩ (by simp) rfl
              clear hd ho
              have h35 := G.h (j := 4) (d := 35) rfl (by decide) d4
              have h39 := G.h (j := 8) (d := 39) rfl (by decide) d8
              refine step_open rfl ?_
              clear G
              go_simp
              refine (fits04_any kd ⟨s, ax, bx⟩ _ HXW.out).mono ?_
              rintro e w2 ⟨rfl, hb2⟩
              rw [HRR.out]
              exact ⟨_, rfl, rfl, hb2⟩
            | 10 =>
              intro ho hd
              obtain rfl := (Option.some.inj ho).symm
              have d9 : vs 9 = (.bool r) := hd ⟨9, .data⟩ (by simp) rfl
              clear hd ho
              have h40 := G.h (j := 9) (d := 40) rfl (by decide) d9
              refine step_open rfl ?_
              clear G
              exact step_run (v := (.bool (!r))) (by go_simp) rfl
            | n + 11 =>
              intro ho hd
              simp at ho
          intro vs w6 hb hR
          have hvv : vs 10 = .bool (!r) := hR 10 (by simp)
          have HB6 := Lib.hid (HB0.out.trans (hb.mono HB0.out.size))
          have HB7 := Lib.hid (HBW.out.trans (hb.mono HBW.out.size))
          simp only [putAll, Act.put, List.setIfInBounds_toArray, List.set_cons_succ, List.set_cons_zero]
          rw [hvv]
          clear hR hb hvv
          cases r
          · have HT : Hid (fitF fs val = 3) := Lib.hid (by
              rw [HF.out]
              have : fitE (kindsL fs) val = false := all_take_false HZ.out HRR.out
              rw [this]; rfl)
            go_wp2_with fail
            go_returns
            exact ⟨ret_intk HT.out.symm, HB6.out⟩
          · go_wp2_with fail
            go_roundw
            case rel => exact ⟨i + 1, by omega, by go_num, by rw [all_take_succ HZ.out HAL.out]; exact HRR.out, HB7.out⟩
            case measure => simp only [intOf]; omega
        · obtain rfl : i = vl := by omega
          have HT : Hid (fitF fs val = 0) := Lib.hid (by
            rw [HF.out]
            have : fitE (kindsL fs) val = true := by
              have h := HAL.out
              rw [List.take_of_length_le (by rw [HZL.out]; exact Nat.le_refl _)] at h
              exact h
            rw [this]; rfl)
          have HBE := Lib.hid (HB1.out.trans (hbw.mono HB1.out.size))
          clear hbw
          go_wp2_with fail
          go_returns
          exact ⟨ret_intk HT.out.symm, HBE.out⟩
    · have HF : Hid (fitF fs val = 4) := Lib.hid (by
        unfold fitF
        rw [if_neg (by simp [hl]), if_pos (by have := HVL.out; omega)])
      have e1 : ((n : Int) != (vl : Int)) = true := by rw [bne_iff_ne]; omega
      have HB1 := Lib.hid hb1
      clear hl hall hcl hlen hrow hb1 hn hvn
      go_wp2_with fail
      go_returns
      exact ⟨ret_intk HF.out.symm, HB1.out⟩
  · rw [if_neg hl] at hlay
    subst hlay
    have HF : Hid (fitF fs val = layCheck fs) := Lib.hid (by unfold fitF; rw [if_pos hl])
    have e1 : (layCheck fs != 0) = true := by rw [bne_iff_ne]; exact hl
    have HB1 := Lib.hid hb1
    generalize layCheck fs = L at *
    clear hl hb1
    go_wp2_with fail
    go_returns
    exact ⟨ret_intk HF.out.symm, HB1.out⟩
end Go.Proofs.YtoadihebdaooaaaGreat
