/- Contract of retrofitref05.Pack. Printed by mkZI.py. · Contract of the reference's Bytes. Printed by mkZM.py. -/
import Derived.Test.YtoadihebdaooaaaGreatE39
import Derived.Test.YtoadihebdaooaaaGreatE19
namespace Go.Proofs.YtoadihebdaooaaaGreat
open Go.RowKit
set_option linter.unusedVariables false
/-- The bytes in work. -/
structure PkS (w1 : World) (z : Nat) (l : List UInt8) (w : World) : Prop where
  own : w.ownsRow w1.heap.size 5 1 (.slice (some ⟨w1.heap.size, 0, none⟩) z z) z (Lib.byteCells l)
  bel : Below w1.heap.size w1 w
theorem PkS.below {w1 w w' : World} {z : Nat} {l : List UInt8} (h : PkS w1 z l w) (hb : Below w.heap.size w w') : PkS w1 z l w' := ⟨ownsRow_below h.own hb, h.bel.trans (hb.mono h.bel.size)⟩
theorem PkS.set {w1 w : World} {z : Nat} {l : List UInt8} (h : PkS w1 z l w) {i : Nat} (hi : i < z) (y : UInt8) : PkS w1 z (l.set i y) (w.setCell ⟨w1.heap.size, i, none⟩ (.int .u8 (y.toNat : Int))) ∧ w.frozen? ⟨w1.heap.size, i, none⟩ = false ∧ (∃ v, w.cell? ⟨w1.heap.size, i, none⟩ = some v) ∧ w1.heap.size < w.heap.size := by
  obtain ⟨q, hq, h1, h2, h3, h4⟩ := ownsRow_set (r := i) (.int .u8 (y.toNat : Int)) h.own hi
  cases hq
  obtain ⟨q', hq', _, _, hqc⟩ := row_block h.own (by omega)
  cases hq'
  refine ⟨⟨?_, ?_⟩, h2, ?_, h3⟩
  · unfold Lib.byteCells at h1 ⊢
    rw [List.map_set]
    exact h1
  · exact h.bel.setCell (show w1.heap.size ≤ (⟨w1.heap.size, i, none⟩ : Addr).block from Nat.le_refl _) _
  · obtain ⟨u, hu⟩ : ∃ u, (Lib.byteCells l)[i]? = some u := ⟨_, List.getElem?_eq_getElem (by have := h.own.1; omega)⟩
    exact ⟨u, hqc i u hu⟩
def pack_list (eb eo vl oc vb vo vc i : Nat) (kd : Int) (sn : Bool) (ax bx : Int) (L : List UInt8) : List (Value → World → Prop) :=
  [IsV (.slice (some ⟨eb, eo, none⟩) vl oc),
   IsV (.int .i64 (i : Int)),
   IsV (.pointer (some ⟨eb, eo + i * 2, none⟩)),
   IsV (.pointer (some ⟨eb, eo + i * 2, none⟩)),
   IsV (.int .i64 kd),
   IsV (.slice (some ⟨vb, vo, none⟩) vl vc),
   IsV (.int .i64 (i : Int)),
   IsV (.pointer (some ⟨vb, vo + i * 3, none⟩)),
   IsV (.agg #[.bool sn, .int .u64 ax, .int .u64 bx]),
   IsV (.string ⟨L.toArray⟩),
   IsV (.string ⟨L.toArray⟩)]
theorem pack_list_lasts (eb eo vl oc vb vo vc i : Nat) (kd : Int) (sn : Bool) (ax bx : Int) (L : List UInt8) : ∀ p ∈ pack_list eb eo vl oc vb vo vc i  kd  sn  ax bx  L , Lasts p := by
  simp only [pack_list, List.mem_cons, List.not_mem_nil, or_false]
  rintro p hp
  repeat (rcases hp with rfl | hp; exact lasts_v _)
theorem elemL_at1 : ∀ (l : List (Int × Int)) (i : Nat) (e : Int × Int), l[i]? = some e → (elemL l)[i * 2 + 1]? = some (.int .i64 e.2)
  | [], _, _, h => by simp at h
  | y :: r, 0, e, h => by simp at h; subst h; rfl
  | y :: r, i + 1, e, h => by
    have h1 := elemL_at1 r i e (by simpa using h)
    rw [show (i + 1) * 2 + 1 = i * 2 + 1 + 2 by omega]
    exact h1
set_option maxRecDepth 100000 in
set_option maxHeartbeats 2000000 in
theorem pack05_any (fs : List Fld) (a : Option Addr) (len cap : Nat) (va : Option Addr) (vl vc : Nat) (val : List WI) (w : World) (hfs : FieldsAt w.heap.size w a len fs) (hv : IntsAt w.heap.size w va vl vc val) (hfit : fitF fs val = 0) :
    Calls Tryz.prog 92 #[.slice a len cap, .slice va vl vc] w fun e w' => e = .returned (.string ⟨(packF fs val).toArray⟩) ∧ Below w.heap.size w w' := by
  obtain ⟨hl, hvc, hfg⟩ := fit_zero hfit
  rw [fitGo_E fs val hvc] at hfg
  have hfe : fitE (kindsL fs) val = true := by
    cases h : fitE (kindsL fs) val with
    | true => rfl
    | false => rw [h] at hfg; cases hfg
  obtain ⟨q1, q2, q3, q4⟩ := packE_packF hl (Nat.le_of_eq hvc.symm)
  obtain ⟨z, hz⟩ : ∃ z : Nat, planSize fs = (z : Int) := ⟨(planSize fs).toNat, by omega⟩
  rw [hz] at q1 q2 q3 q4
  rw [Int.toNat_natCast] at q1 q2
  have hz256 : z ≤ 256 := by omega
  have hvl : vl = (elems fs).length := by rw [elems_cnt, ← hvc]; exact hv.1.symm
  have hvl' := hv.1
  obtain ⟨h8, hall, _⟩ := layCheck_zero hl
  have hcl := cnt_le fs hall
  have hlen := hfs.1
  have hv64 : vl ≤ 64 := by rw [hvl, elems_cnt]; omega
  have HFS := Lib.hid hfs
  have HV := Lib.hid hv
  have HQ := Lib.hid (And.intro q1 q2)
  have HE := Lib.hid hfe
  have HL := Lib.hid (And.intro hl (And.intro hvl (And.intro hvl' hz)))
  have hmk := make_bytes z (by omega)
  clear hfs hv q1 q2 q3 q4 hfe hl hvc hfg hfit hvl h8 hall hcl hlen hvl' hz
  go_enter Tryz.func92, Tryz.ntmps92
  go_wp2_with fail
  refine (lay05_any fs _ _ _ _ HFS.out).mono ?_
  rintro e w1 ⟨hb1, hlay⟩
  rw [if_pos HL.out.1] at hlay
  obtain ⟨oa, n, oc, sa, m, sc, rfl, hn, hrow, _, _⟩ := hlay
  rw [HL.out.2.2.2]
  obtain rfl : vl = n := by rw [HL.out.2.1, hn]
  have HB1 := Lib.hid hb1
  have HROW := Lib.hid hrow
  have HN := Lib.hid hn
  clear hb1 hrow hn
  go_wp2_with fail
  clear hmk
  have hst0 : PkS w1 z (padB [] z) (w1.alloc (.cells (madeCells #[.int .u8 0] z) 5)) := by
    refine ⟨?_, by go_grown⟩
    have e1 : (madeCells #[.int .u8 0] z).toList.take (z * 1) = Lib.byteCells (padB [] z) := by
      rw [toList_madeCells_one, List.take_of_length_le (by simp)]
      unfold padB Lib.byteCells
      simp
    exact ⟨by rw [Lib.byteCells_length, padB_len (by simp), Nat.mul_one], .inr ⟨w1.heap.size, z, _, rfl, Nat.le_refl _, heap_alloc_new w1 _, Nat.le_refl _, by unfold maxLen; omega, by rw [size_madeCells]; simp, e1⟩⟩
  have HST0 := Lib.hid hst0
  clear hst0
  generalize w1.alloc (.cells (madeCells #[.int .u8 0] z) 5) = W at *
  have hbz : w1.heap.size < w1.heap.size + 1 := by omega
  go_loopw [10] (fun j wr => ∃ (i : Nat) (s : List UInt8), i ≤ vl ∧ j = .int .i64 i ∧ packE ((elems fs).drop i) (val.drop i) s = packE (elems fs) val [] ∧ goodE ((elems fs).drop i) s.length z ∧ PkS w1 z (padB s z) wr) (fun j _ => vl - (intOf j).toNat)
  case atStart => exact ⟨0, [], Nat.zero_le _, rfl, by simp, by simpa using HQ.out.2, HST0.out⟩
  case round =>
    obtain ⟨i, s, hi, rfl, hpk, hgd, hst⟩ := hrel
    have HST := Lib.hid hst
    clear hst
    by_cases hlt : i < vl
    · have hbw0 := HB1.out.trans (HST.out.bel.mono HB1.out.size)
      obtain ⟨vb, vo, x, rfl, hvB, hx, hxw, x0, x1, x2⟩ := HV.out.get hbw0 hlt
      obtain ⟨e, he⟩ : ∃ e, (elems fs)[i]? = some e := ⟨_, List.getElem?_eq_getElem (by have := HN.out; omega)⟩
      obtain ⟨eb, eo, hoa, hel, hec, hec1⟩ : ∃ eb eo, oa = some ⟨eb, eo, none⟩ ∧ eb < w1.heap.size ∧ w1.cell? ⟨eb, eo + i * 2, none⟩ = some (.int .i64 e.1) ∧ w1.cell? ⟨eb, eo + i * 2 + 1, none⟩ = some (.int .i64 e.2) := by
        obtain ⟨q, hq, _, hql, hqc⟩ := row_block HROW.out (by omega)
        exact ⟨q, 0, hq, hql, by rw [Nat.zero_add]; exact hqc _ _ (elemL_at _ i e he), by rw [Nat.zero_add]; exact hqc _ _ (elemL_at1 _ i e he)⟩
      rw [hoa]
      have hz : ((kindsL fs).zip val)[i]? = some (e.1, x) := by
        rw [List.getElem?_zip_eq_some]
        refine ⟨?_, hx⟩
        rw [← elems_kinds, List.getElem?_map, he]; rfl
      have hfk : fitsF e.1 x = true := by
        have h := HE.out
        unfold fitE at h
        rw [List.all_eq_true] at h
        exact h _ (List.mem_of_getElem? hz)
      rw [drop_get he, drop_get hx, packE] at hpk
      rw [drop_get he, goodE] at hgd
      obtain ⟨hg1, hg2⟩ := hgd
      obtain ⟨kd, hkd⟩ : ∃ kd, e.1 = kd := ⟨_, rfl⟩
      obtain ⟨at_, hat⟩ : ∃ at_ : Nat, e.2 = (at_ : Int) := ⟨e.2.toNat, by omega⟩
      rw [hkd] at hec hfk hpk hg2
      rw [hat] at hec1 hpk hg1 hg2
      rw [Int.toNat_natCast] at hpk hg2
      have hpl := putB_len kd x
      have hkz := goodE_le _ _ _ hg2
      rw [← hpl] at hg2 hkz
      have HPK := Lib.hid (And.intro hpk (And.intro hg1 hg2))
      obtain ⟨L, hL⟩ : ∃ L, putB kd x = L := ⟨_, rfl⟩
      rw [hL] at hkz
      have HLL := Lib.hid hL
      have hwz := HST.out.bel.size
      have HCEL : Hid (∀ w', Below wr.heap.size wr w' → w'.cell? ⟨eb, eo + i * 2, none⟩ = some (.int .i64 kd) ∧ w'.cell? ⟨vb, vo + i * 3, none⟩ = some (.bool x.neg) ∧ w'.cell? ⟨vb, vo + i * 3 + 1, none⟩ = some (.int .u64 x.hi) ∧ w'.cell? ⟨vb, vo + i * 3 + 2, none⟩ = some (.int .u64 x.lo)) := Lib.hid (fun w' hb' =>
        ⟨(hb'.cell (p := ⟨eb, _, none⟩) (show eb < wr.heap.size by omega)).trans ((HST.out.bel.cell (p := ⟨eb, _, none⟩) hel).trans hec), (hb'.cell (p := ⟨vb, _, none⟩) (show vb < wr.heap.size by have := HB1.out.size; omega)).trans x0, (hb'.cell (p := ⟨vb, _, none⟩) (show vb < wr.heap.size by have := HB1.out.size; omega)).trans x1, (hb'.cell (p := ⟨vb, _, none⟩) (show vb < wr.heap.size by have := HB1.out.size; omega)).trans x2⟩)
      have HPUT := Lib.hid (fun W' => put04_any kd x W' hxw hfk)
      rw [hL] at HPUT
      have HEC := Lib.hid hec1
      have i1 : (0 : Int) ≤ (i : Int) := by omega
      have i2 : (i : Int) < (vl : Int) := by omega
      clear hx hxw x0 x1 x2 he hoa hec hec1 hz hkd hat hbw0 hpk hg1 hg2 hfk hpl hL
      obtain ⟨sn, ax, bx⟩ := x
      dsimp only at HCEL HPUT HPK HLL
      dsimp only [WI.v] at HPUT
      go_wp2_with fail
      refine wp_region_frame (by kernel_rfl) (by kernel_rfl) (by kernel_rfl) (byList (pack_list eb eo vl oc vb vo vc i kd sn ax bx L)) (lasts_list (pack_list_lasts eb eo vl oc vb vo vc i kd sn ax bx L)) ?_ ?_
      · intro vs w' iq o A F hb ho hd
        have m5 : A.tmps[5]?.getD undef = (.slice (some ⟨eb, eo, none⟩) vl oc) := F.m (by kernel_rfl) rfl
        have m10 : A.tmps[10]?.getD undef = (.int .i64 (i : Int)) := F.m (by kernel_rfl) rfl
        have m1 : A.tmps[1]?.getD undef = (.slice (some ⟨vb, vo, none⟩) vl vc) := F.m (by kernel_rfl) rfl
        have G := F.light (n := 58) (by kernel_rfl)
        clear F
        obtain ⟨z0, z1, z2, z3⟩ := HCEL.out w' hb
        clear hb
        revert ho hd
        match iq with
        | 0 =>
          intro ho hd
          obtain rfl := (Option.some.inj ho).symm
          clear hd ho
          refine step_open rfl ?_
          clear G
          exact step_run (v := (.slice (some ⟨eb, eo, none⟩) vl oc)) (by go_simp) rfl
        | 1 =>
          intro ho hd
          obtain rfl := (Option.some.inj ho).symm
          clear hd ho
          refine step_open rfl ?_
          clear G
          exact step_run (v := (.int .i64 (i : Int))) (by go_simp) rfl
        | 2 =>
          intro ho hd
          obtain rfl := (Option.some.inj ho).symm
          have d0 : vs 0 = (.slice (some ⟨eb, eo, none⟩) vl oc) := hd ⟨0, .data⟩ (by simp) rfl
          have d1 : vs 1 = (.int .i64 (i : Int)) := hd ⟨1, .data⟩ (by simp) rfl
          clear hd ho
          have h28 := G.h (j := 0) (d := 28) rfl (by decide) d0
          have h29 := G.h (j := 1) (d := 29) rfl (by decide) d1
          refine step_open rfl ?_
          clear G
          exact step_run (v := (.pointer (some ⟨eb, eo + i * 2, none⟩))) (by go_simp) rfl
        | 3 =>
          intro ho hd
          obtain rfl := (Option.some.inj ho).symm
          have d2 : vs 2 = (.pointer (some ⟨eb, eo + i * 2, none⟩)) := hd ⟨2, .data⟩ (by simp) rfl
          clear hd ho
          have h30 := G.h (j := 2) (d := 30) rfl (by decide) d2
          refine step_open rfl ?_
          clear G
          exact step_run (v := (.pointer (some ⟨eb, eo + i * 2, none⟩))) (by go_simp) rfl
        | 4 =>
          intro ho hd
          obtain rfl := (Option.some.inj ho).symm
          have d3 : vs 3 = (.pointer (some ⟨eb, eo + i * 2, none⟩)) := hd ⟨3, .data⟩ (by simp) rfl
          clear hd ho
          have h31 := G.h (j := 3) (d := 31) rfl (by decide) d3
          refine step_open rfl ?_
          clear G
          exact step_run (v := (.int .i64 kd)) (by go_simp) rfl
        | 5 =>
          intro ho hd
          obtain rfl := (Option.some.inj ho).symm
          clear hd ho
          refine step_open rfl ?_
          clear G
          exact step_run (v := (.slice (some ⟨vb, vo, none⟩) vl vc)) (by go_simp) rfl
        | 6 =>
          intro ho hd
          obtain rfl := (Option.some.inj ho).symm
          clear hd ho
          refine step_open rfl ?_
          clear G
          exact step_run (v := (.int .i64 (i : Int))) (by go_simp) rfl
        | 7 =>
          intro ho hd
          obtain rfl := (Option.some.inj ho).symm
          have d5 : vs 5 = (.slice (some ⟨vb, vo, none⟩) vl vc) := hd ⟨5, .data⟩ (by simp) rfl
          have d6 : vs 6 = (.int .i64 (i : Int)) := hd ⟨6, .data⟩ (by simp) rfl
          clear hd ho
          have h33 := G.h (j := 5) (d := 33) rfl (by decide) d5
          have h34 := G.h (j := 6) (d := 34) rfl (by decide) d6
          refine step_open rfl ?_
          clear G
          exact step_run (v := (.pointer (some ⟨vb, vo + i * 3, none⟩))) (by go_simp) rfl
        | 8 =>
          intro ho hd
          obtain rfl := (Option.some.inj ho).symm
          have d7 : vs 7 = (.pointer (some ⟨vb, vo + i * 3, none⟩)) := hd ⟨7, .data⟩ (by simp) rfl
          clear hd ho
          have h35 := G.h (j := 7) (d := 35) rfl (by decide) d7
          refine step_open rfl ?_
          clear G
          exact step_run (v := (.agg #[.bool sn, .int .u64 ax, .int .u64 bx])) (by go_simp) rfl
        | 9 =>
          intro ho hd
          obtain rfl := (Option.some.inj ho).symm
          have d4 : vs 4 = (.int .i64 kd) := hd ⟨4, .data⟩ (by simp) rfl
          have d8 : vs 8 = (.agg #[.bool sn, .int .u64 ax, .int .u64 bx]) := hd ⟨8, .data⟩ (by simp) rfl
          clear hd ho
          have h32 := G.h (j := 4) (d := 32) rfl (by decide) d4
          have h36 := G.h (j := 8) (d := 36) rfl (by decide) d8
          refine step_open rfl ?_
          clear G
          go_simp
          refine (HPUT.out _).mono ?_
          rintro e w2 ⟨rfl, hb2⟩
          exact ⟨_, rfl, rfl, hb2⟩
        | 10 =>
          intro ho hd
          obtain rfl := (Option.some.inj ho).symm
          have d9 : vs 9 = (.string ⟨L.toArray⟩) := hd ⟨9, .data⟩ (by simp) rfl
          clear hd ho
          have h37 := G.h (j := 9) (d := 37) rfl (by decide) d9
          refine step_open rfl ?_
          clear G
          exact step_run (v := (.string ⟨L.toArray⟩)) (by go_simp) rfl
        | n + 11 =>
          intro ho hd
          simp at ho
      intro vs w6 hb hR
      have hvv : vs 10 = .string ⟨L.toArray⟩ := hR 10 (by simp)
      have HST6 := Lib.hid (HST.out.below hb)
      simp only [putAll, Act.put, List.setIfInBounds_toArray, List.set_cons_succ, List.set_cons_zero]
      rw [hvv]
      clear hR hb hvv
      have hlq : L.length ≤ 8 := by rw [← HLL.out, putB_len]; have := kSize_bd kd; omega
      go_wp2_with fail
      have hss : (⟨L.toArray⟩ : ByteArray).size = L.length := by simp [ByteArray.size]
      generalize hS : (⟨L.toArray⟩ : ByteArray) = S at *
      have HS := Lib.hid hS
      have hsl : s.length ≤ at_ := by have := HPK.out.2.1; omega
      go_loopw [12] (fun j wk => ∃ k : Nat, k ≤ L.length ∧ j = .int .i64 k ∧ PkS w1 z (padB (padB s at_ ++ L.take k) z) wk) (fun j _ => L.length - (intOf j).toNat)
      case atStart => exact ⟨0, Nat.zero_le _, rfl, by
        have e1 : padB (padB s at_ ++ L.take 0) z = padB s z := by
          unfold padB
          simp
          omega
        rw [e1]; exact HST6.out⟩
      case round =>
        obtain ⟨k, hk, rfl, hst⟩ := hrel
        have HSK := Lib.hid hst
        clear hst
        by_cases hlk : k < L.length
        · obtain ⟨y, hy⟩ : ∃ y, L[k]? = some y := ⟨_, List.getElem?_eq_getElem hlk⟩
          have hpl : (padB s at_ ++ L.take k).length = at_ + k := by rw [List.length_append, padB_len hsl, List.length_take]; omega
          obtain ⟨hs1, hs2, ⟨v0, hs3⟩, hs4⟩ := HSK.out.set (i := at_ + k) (by omega) y
          have he1 : (padB (padB s at_ ++ L.take k) z).set (at_ + k) y = padB (padB s at_ ++ L.take (k + 1)) z := by
            rw [take_snoc hy, ← List.append_assoc, ← set_pad (y := y) (by omega), hpl]
          rw [he1] at hs1
          have HS1 := Lib.hid hs1
          have x0 := (HSK.out.bel.cell (p := ⟨eb, _, none⟩) hel).trans HEC.out
          have hby : S.data[k]? = some y := by rw [← HS.out]; simpa using hy
          have hw1 : IntKind.i64.wrap ((at_ : Int) + (k : Int)) = ((at_ + k : Nat) : Int) := by rw [IntWalk.i64_in _ (by omega)]; omega
          have i3 : (0 : Int) ≤ (k : Int) := by omega
          have i4 : (k : Int) < (L.length : Int) := by omega
          have i5 : ((at_ + k : Nat) : Int) < (z : Int) := by omega
          have i6 : (0 : Int) ≤ ((at_ + k : Nat) : Int) := by omega
          have i7 : eb < wr.heap.size := by omega
          clear hs1 hy hpl he1
          generalize hAK : at_ + k = ak at *
          go_wp2_with fail
          go_region_law (fail)
          all_goals
            go_wp2_with fail
            refine ⟨?_, ?measure⟩
            refine ⟨_, _, _, _, _, _, _, _, _, _, _, _, _, _, _, _, _, _, _, ?rel, rfl⟩
            case rel =>
              refine ⟨k + 1, by omega, by go_num, ?_⟩
              have hks : k < S.size := by have : S.size = L.length := by assumption
                                          omega
              have he : S[k] = y := by
                have h2 := hby
                rw [Array.getElem?_eq_getElem (show k < S.data.size from hks)] at h2
                exact Option.some.inj h2
              rw [he]
              exact HS1.out.below (Below.refl _ _).drew
            case measure => simp [intOf]; omega
        · obtain rfl : k = L.length := by omega
          have hst' := HSK.out
          rw [List.take_length] at hst'
          have HSK' := Lib.hid hst'
          clear hst'
          go_wp2_with fail
          go_roundw
          case rel => exact ⟨i + 1, padB s at_ ++ L, by omega, by go_num, by rw [← HLL.out]; exact HPK.out.1, by rw [List.length_append, padB_len hsl, ← HLL.out]; exact HPK.out.2.2, HSK'.out⟩
          case measure => simp only [intOf]; omega
    · obtain rfl : i = vl := by omega
      have hpe : padB s z = packF fs val := by
        rw [List.drop_eq_nil_of_le (by have := HN.out; omega), packE] at hpk
        rw [hpk, HQ.out.1]
      have hl := HST.out.own.1
      have hlz : (packF fs val).length = z := by rw [← hpe]; rw [Nat.mul_one, Lib.byteCells_length] at hl; exact hl
      obtain ⟨ub, hub⟩ : ∃ ub, w1.heap.size = ub := ⟨_, rfl⟩
      have hcv : (convert 192 9 (.slice (some ⟨w1.heap.size, 0, none⟩) z z)).run Tryz.prog wr = .ok (.string ⟨(packF fs val).toArray⟩) wr := by
        have := run_convert_bytes_back wr 192 9 5 ⟨w1.heap.size, 0, none⟩ z (packF fs val) Tryz.underlying192 Tryz.underlying5 Tryz.underlying9 (fun t ht => by
          rw [show (⟨w1.heap.size, 0, none⟩ : Addr).add t = ⟨w1.heap.size, t, none⟩ from by simp [Addr.add]; omega]
          obtain ⟨q, hq, _, _, hqc⟩ := row_block HST.out.own (by omega)
          cases hq
          exact hqc t _ (by rw [hpe]; simp [Lib.byteCells, List.getElem?_eq_getElem ht]))
        rw [hlz] at this
        exact this
      have HBE := Lib.hid (HB1.out.trans (HST.out.bel.mono HB1.out.size))
      clear hpk hgd hpe hl hlz hub
      go_wp2_with fail
      go_returns
      exact ⟨rfl, HBE.out⟩
end Go.Proofs.YtoadihebdaooaaaGreat
namespace Go.Proofs.YtoadihebdaooaaaGreat
open Go.RowKit
set_option linter.unusedVariables false
def bytes_list (ub b off cl cc i : Nat) (ver id : Int) (fa : Option Addr) (fl fc : Nat) (va : Option Addr) (vl vc : Nat) (L : List UInt8) : List (Value → World → Prop) :=
  [IsV (.pointer (some ⟨ub, 0, none⟩)),
   IsV (.pointer (some ⟨ub, 1, none⟩)),
   IsV (.slice (some ⟨b, off, none⟩) cl cc),
   IsV (.pointer (some ⟨ub, 0, none⟩)),
   IsV (.agg #[.int .i64 ver, .slice (some ⟨b, off, none⟩) cl cc]),
   IsV (.int .i64 id),
   IsV (.int .i64 (i : Int)),
   IsV (.pointer (some ⟨b, off + i * 3, none⟩)),
   IsV (.pointer (some ⟨b, off + i * 3 + 2, none⟩)),
   IsV (.slice fa fl fc),
   IsV (.slice va vl vc),
   IsV (.string ⟨L.toArray⟩),
   IsV (.string ⟨L.toArray⟩),
   IsV (.int .i64 0)]
theorem bytes_list_lasts (ub b off cl cc i : Nat) (ver id : Int) (fa : Option Addr) (fl fc : Nat) (va : Option Addr) (vl vc : Nat) (L : List UInt8) : ∀ p ∈ bytes_list ub b off cl cc i  ver id  fa  fl fc  va  vl vc  L , Lasts p := by
  simp only [bytes_list, List.mem_cons, List.not_mem_nil, or_false]
  rintro p hp
  repeat (rcases hp with rfl | hp; exact lasts_v _)
section
variable {u : UD} {ids : List Int} {cs : List Cmp} {rs : List URow} {w : World}
set_option maxRecDepth 100000 in
theorem bytes16_no3 (row id : Int) (hl : u.ln ≤ 1000) (hr : ¬ (0 ≤ row ∧ row < u.ln)) : Calls Tryz.prog 53 #[u.v, .int .i64 row, .int .i64 id] w fun e w' => e = .returned (.tuple #[.string ⟨#[]⟩, .int .i64 3]) ∧ Below w.heap.size w w' := by
  have HG := Lib.hid (fun (W : World) => get16_no3 (u := u) (w := W) row id hl hr)
  have hU := heap_alloc_new w (.cells u.cs 99)
  have hb0 : Below w.heap.size w (w.alloc (.cells u.cs 99)) := by go_grown
  obtain ⟨ver, ca, cl, cc, ia, il, ic, most, kept, la, ln, lc⟩ := u
  dsimp only [UD.v, UD.cs] at *
  have HB := Lib.hid hb0
  have c0 := cell_at hU 0
  have c1 := cell_at hU 1
  have c2 := cell_at hU 2
  have c3 := cell_at hU 3
  have c4 := cell_at hU 4
  have c5 := cell_at hU 5
  simp at c0 c1 c2 c3 c4 c5
  clear hU hb0 hr
  go_enter Tryz.func53, Tryz.ntmps53
  go_wp2_with fail
  refine (HG.out _).mono ?_
  rintro e w1 ⟨rfl, hb1⟩
  have HB1 := Lib.hid (HB.out.trans (hb1.mono (by simp)))
  clear hb1
  go_wp2_with fail
  go_ret2
  exact ⟨rfl, HB1.out⟩
set_option maxRecDepth 100000 in
set_option maxHeartbeats 1000000 in
theorem bytes16_row (row : Nat) (id : Int) (r : URow) (hi : w.ownsRow 0 3 1 (.slice u.ia u.il u.ic) u.il (ids.map (.int .i64))) (hli : ids.length = u.il) (hb : u.il ≤ 1000) (hl : u.ln ≤ 1000) (hR : RU 0 w u.la u.ln u.lc rs) (hr : rs[row]? = some r) (hrp : r.ps.length = ids.length)
    (hcs : CompsAt w.heap.size w u.ca u.cl cs) (hfit : ∀ (k : Nat) (p : PW), ids[k]? = some id → r.ps[k]? = some p → ∃ c, findC id cs = some c ∧ fitF c.fields p.val = 0) :
    Calls Tryz.prog 53 #[u.v, .int .i64 (row : Int), .int .i64 id] w fun e w' => Below w.heap.size w w' ∧ ((partIx id 0 ids = -1 ∧ e = .returned (.tuple #[.string ⟨#[]⟩, .int .i64 6])) ∨ ∃ (k : Nat) (p : PW) (c : Cmp), ids[k]? = some id ∧ partIx id 0 ids = k ∧ r.ps[k]? = some p ∧ findC id cs = some c ∧ e = .returned (.tuple #[.string ⟨(packF c.fields p.val).toArray⟩, .int .i64 0])) := by
  have hU := heap_alloc_new w (.cells u.cs 99)
  have hb0 : Below w.heap.size w (w.alloc (.cells u.cs 99)) := by go_grown
  have HG := Lib.hid (get16_row (u := u) (w := w.alloc (.cells u.cs 99)) row id r (ownsRow_below hi hb0) hli hb hl (hR.below hb0) hr hrp)
  have HPR := Lib.hid (hR.parts r (List.mem_of_getElem? hr))
  have HCS := Lib.hid hcs
  have HFIT := Lib.hid hfit
  clear hi hR hr hrp hcs hfit
  obtain ⟨ver, ca, cl, cc, ia, il, ic, most, kept, la, ln, lc⟩ := u
  dsimp only [UD.v, UD.cs] at *
  have HU := Lib.hid hU
  have HB := Lib.hid hb0
  have c0 := cell_at hU 0
  have c1 := cell_at hU 1
  have c2 := cell_at hU 2
  have c3 := cell_at hU 3
  have c4 := cell_at hU 4
  have c5 := cell_at hU 5
  simp at c0 c1 c2 c3 c4 c5
  clear hU hb0
  go_enter Tryz.func53, Tryz.ntmps53
  go_wp2_with fail
  refine HG.out.mono ?_
  rintro e w1 ⟨hb1, hg⟩
  have HB1 := Lib.hid (HB.out.trans (hb1.mono (by simp)))
  have HU1 := Lib.hid (keep hb1 HU.out)
  clear hb1 c0 c1 c2 c3 c4 c5 HG HU HB
  rcases hg with ⟨hg, rfl⟩ | ⟨k, p, hk, hix, hp, rfl⟩
  · go_wp2_with fail
    go_ret2
    exact ⟨HB1.out, .inl ⟨hg, rfl⟩⟩
  · obtain ⟨c, hf, hfit⟩ := HFIT.out k p hk hp
    obtain ⟨i, hix', hci⟩ := idxF_some cs 0 hf
    rw [Nat.zero_add] at hix'
    have hil : i < cl := by have := (List.getElem?_eq_some_iff.1 hci).1; have := HCS.out.1; omega
    obtain ⟨b, off, c', rfl, hB, hc', _, _, fa, fl, fc, hfc, hF, _⟩ := HCS.out.get HB1.out hil
    obtain rfl : c' = c := by rw [hci] at hc'; cases hc'; rfl
    obtain ⟨L, hL⟩ : ∃ L, packF c'.fields p.val = L := ⟨_, rfl⟩
    have HV := Lib.hid ((HPR.out.at.2.2.2.1 p (List.mem_of_getElem? hp)).below HB1.out)
    have HPACK : Hid (∀ W', Below w1.heap.size w1 W' → Calls Tryz.prog 92 #[.slice fa fl fc, .slice p.va p.vl p.vc] W' fun e w' => e = .returned (.string ⟨L.toArray⟩) ∧ Below W'.heap.size W' w') := Lib.hid (fun W' hW => by
      rw [← hL]
      have hz := HB1.out.size
      have hz2 := hW.size
      exact pack05_any c'.fields fa fl fc p.va p.vl p.vc p.val W' ((hF.below (hW.mono hz)).mono (by omega)) ((HV.out.below (hW.mono hz)).mono (by omega)) hfit)
    have HFIND : Hid (∀ W', Below w1.heap.size w1 W' → Calls Tryz.prog 66 #[.agg #[.int .i64 ver, .slice (some ⟨b, off, none⟩) cl cc], .int .i64 id] W' fun e w' => e = .returned (.int .i64 (i : Int)) ∧ Below W'.heap.size W' w') := Lib.hid (fun W' hW => by
      rw [← hix']
      have hz := HB1.out.size
      exact find07_any ver id cs _ cl cc W' ((HCS.out.below (HB1.out.trans (hW.mono hz))).mono (HB1.out.trans (hW.mono hz)).size))
    have HCEL : Hid (∀ W', Below w1.heap.size w1 W' → W'.cell? ⟨w.heap.size, 0, none⟩ = some (.int .i64 ver) ∧ W'.cell? ⟨w.heap.size, 1, none⟩ = some (.slice (some ⟨b, off, none⟩) cl cc) ∧ W'.cell? ⟨b, off + i * 3 + 2, none⟩ = some (.slice fa fl fc)) := Lib.hid (fun W' hW =>
      ⟨by rw [cell_at (keep hW HU1.out)]; rfl, by rw [cell_at (keep hW HU1.out)]; rfl, (hW.cell (p := ⟨b, _, none⟩) (by have := HB1.out.size; show b < _; omega)).trans hfc⟩)
    have HK := Lib.hid (And.intro hk (And.intro hix (And.intro hp (And.intro hf hL))))
    obtain ⟨pcomp, va, vl, vc, val⟩ := p
    dsimp only at HPACK HV
    have i1 : (0 : Int) ≤ (i : Int) := by omega
    have i2 : (i : Int) < (cl : Int) := by omega
    clear hk hix hp hf hfit hci hc' hF hfc hL hix'
    go_wp2_with fail
    refine wp_region_frame (by kernel_rfl) (by kernel_rfl) (by kernel_rfl) (byList (bytes_list w.heap.size b off cl cc i ver id fa fl fc va vl vc L)) (lasts_list (bytes_list_lasts w.heap.size b off cl cc i ver id fa fl fc va vl vc L)) ?_ ?_
    · intro vs w' iq o A F hb ho hd
      have m3 : A.tmps[3]?.getD undef = (.pointer (some ⟨w.heap.size, 0, none⟩)) := F.m (by kernel_rfl) rfl
      have m2 : A.tmps[2]?.getD undef = (.int .i64 id) := F.m (by kernel_rfl) rfl
      have m8 : A.tmps[8]?.getD undef = (.slice va vl vc) := F.m (by kernel_rfl) rfl
      have G := F.light (n := 32) (by kernel_rfl)
      clear F
      obtain ⟨z0, z1, z2⟩ := HCEL.out w' hb
      have hfind := HFIND.out w' hb
      have hpack := HPACK.out w' hb
      clear hb
      revert ho hd
      match iq with
      | 0 =>
        intro ho hd
        obtain rfl := (Option.some.inj ho).symm
        clear hd ho
        refine step_open rfl ?_
        clear G
        exact step_run (v := (.pointer (some ⟨w.heap.size, 0, none⟩))) (by go_simp) rfl
      | 1 =>
        intro ho hd
        obtain rfl := (Option.some.inj ho).symm
        have d0 : vs 0 = (.pointer (some ⟨w.heap.size, 0, none⟩)) := hd ⟨0, .data⟩ (by simp) rfl
        clear hd ho
        have h20 := G.h (j := 0) (d := 20) rfl (by decide) d0
        refine step_open rfl ?_
        clear G
        exact step_run (v := (.pointer (some ⟨w.heap.size, 1, none⟩))) (by go_simp) rfl
      | 2 =>
        intro ho hd
        obtain rfl := (Option.some.inj ho).symm
        have d1 : vs 1 = (.pointer (some ⟨w.heap.size, 1, none⟩)) := hd ⟨1, .data⟩ (by simp) rfl
        clear hd ho
        have h21 := G.h (j := 1) (d := 21) rfl (by decide) d1
        refine step_open rfl ?_
        clear G
        exact step_run (v := (.slice (some ⟨b, off, none⟩) cl cc)) (by go_simp) rfl
      | 3 =>
        intro ho hd
        obtain rfl := (Option.some.inj ho).symm
        clear hd ho
        refine step_open rfl ?_
        clear G
        exact step_run (v := (.pointer (some ⟨w.heap.size, 0, none⟩))) (by go_simp) rfl
      | 4 =>
        intro ho hd
        obtain rfl := (Option.some.inj ho).symm
        have d3 : vs 3 = (.pointer (some ⟨w.heap.size, 0, none⟩)) := hd ⟨3, .data⟩ (by simp) rfl
        clear hd ho
        have h23 := G.h (j := 3) (d := 23) rfl (by decide) d3
        refine step_open rfl ?_
        clear G
        exact step_run (v := (.agg #[.int .i64 ver, .slice (some ⟨b, off, none⟩) cl cc])) (by go_simp) rfl
      | 5 =>
        intro ho hd
        obtain rfl := (Option.some.inj ho).symm
        clear hd ho
        refine step_open rfl ?_
        clear G
        exact step_run (v := (.int .i64 id)) (by go_simp) rfl
      | 6 =>
        intro ho hd
        obtain rfl := (Option.some.inj ho).symm
        have d4 : vs 4 = (.agg #[.int .i64 ver, .slice (some ⟨b, off, none⟩) cl cc]) := hd ⟨4, .data⟩ (by simp) rfl
        have d5 : vs 5 = (.int .i64 id) := hd ⟨5, .data⟩ (by simp) rfl
        clear hd ho
        have h24 := G.h (j := 4) (d := 24) rfl (by decide) d4
        have h25 := G.h (j := 5) (d := 25) rfl (by decide) d5
        refine step_open rfl ?_
        clear G
        go_simp
        refine hfind.mono ?_
        rintro e w2 ⟨rfl, hb2⟩
        exact ⟨_, rfl, rfl, hb2⟩
      | 7 =>
        intro ho hd
        obtain rfl := (Option.some.inj ho).symm
        have d2 : vs 2 = (.slice (some ⟨b, off, none⟩) cl cc) := hd ⟨2, .data⟩ (by simp) rfl
        have d6 : vs 6 = (.int .i64 (i : Int)) := hd ⟨6, .data⟩ (by simp) rfl
        clear hd ho
        have h22 := G.h (j := 2) (d := 22) rfl (by decide) d2
        have h26 := G.h (j := 6) (d := 26) rfl (by decide) d6
        refine step_open rfl ?_
        clear G
        exact step_run (v := (.pointer (some ⟨b, off + i * 3, none⟩))) (by go_simp) rfl
      | 8 =>
        intro ho hd
        obtain rfl := (Option.some.inj ho).symm
        have d7 : vs 7 = (.pointer (some ⟨b, off + i * 3, none⟩)) := hd ⟨7, .data⟩ (by simp) rfl
        clear hd ho
        have h27 := G.h (j := 7) (d := 27) rfl (by decide) d7
        refine step_open rfl ?_
        clear G
        exact step_run (v := (.pointer (some ⟨b, off + i * 3 + 2, none⟩))) (by go_simp) rfl
      | 9 =>
        intro ho hd
        obtain rfl := (Option.some.inj ho).symm
        have d8 : vs 8 = (.pointer (some ⟨b, off + i * 3 + 2, none⟩)) := hd ⟨8, .data⟩ (by simp) rfl
        clear hd ho
        have h28 := G.h (j := 8) (d := 28) rfl (by decide) d8
        refine step_open rfl ?_
        clear G
        exact step_run (v := (.slice fa fl fc)) (by go_simp) rfl
      | 10 =>
        intro ho hd
        obtain rfl := (Option.some.inj ho).symm
        clear hd ho
        refine step_open rfl ?_
        clear G
        exact step_run (v := (.slice va vl vc)) (by go_simp) rfl
      | 11 =>
        intro ho hd
        obtain rfl := (Option.some.inj ho).symm
        have d9 : vs 9 = (.slice fa fl fc) := hd ⟨9, .data⟩ (by simp) rfl
        have d10 : vs 10 = (.slice va vl vc) := hd ⟨10, .data⟩ (by simp) rfl
        clear hd ho
        have h29 := G.h (j := 9) (d := 29) rfl (by decide) d9
        have h30 := G.h (j := 10) (d := 30) rfl (by decide) d10
        refine step_open rfl ?_
        clear G
        go_simp
        refine hpack.mono ?_
        rintro e w2 ⟨rfl, hb2⟩
        exact ⟨_, rfl, rfl, hb2⟩
      | 12 =>
        intro ho hd
        obtain rfl := (Option.some.inj ho).symm
        have d11 : vs 11 = (.string ⟨L.toArray⟩) := hd ⟨11, .data⟩ (by simp) rfl
        clear hd ho
        have h31 := G.h (j := 11) (d := 31) rfl (by decide) d11
        refine step_open rfl ?_
        clear G
        exact step_run (v := (.string ⟨L.toArray⟩)) (by go_simp) rfl
      | 13 =>
        intro ho hd
        obtain rfl := (Option.some.inj ho).symm
        clear hd ho
        refine step_open rfl ?_
        clear G
        exact step_run (v := (.int .i64 0)) (by go_simp) rfl
      | n + 14 =>
        intro ho hd
        simp at ho
    intro vs w6 hb hR
    have hv12 : vs 12 = .string ⟨L.toArray⟩ := hR 12 (by simp)
    have hv13 : vs 13 = .int .i64 0 := hR 13 (by simp)
    have HB6 := Lib.hid (HB1.out.trans (hb.mono HB1.out.size))
    simp only [putAll, Act.put, List.setIfInBounds_toArray, List.set_cons_succ, List.set_cons_zero]
    rw [hv12, hv13]
    clear hR hb hv12 hv13
    go_wp2_with fail
    go_ret2
    exact ⟨HB6.out, .inr ⟨k, _, c', HK.out.1, HK.out.2.1, HK.out.2.2.1, HK.out.2.2.2.1, by rw [HK.out.2.2.2.2]; rfl⟩⟩
end
end Go.Proofs.YtoadihebdaooaaaGreat
