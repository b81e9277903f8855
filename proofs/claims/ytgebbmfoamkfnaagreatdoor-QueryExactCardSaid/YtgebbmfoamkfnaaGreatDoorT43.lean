/- retrofitref10.Text. · The queries' laws: great schemas. · awake of the queries' laws is true. · Plain: the document's reading of a set's text, as a machine: what it takes, and that it takes all that are texts. -/
import Derived.Test.YtgebbmfoamkfnaaGreatDoorT42
import Derived.Test.YtgebbmfoamkfnaaGreatDoorT26
import Derived.Test.YtgebbmfoamkfnaaGreatDoorT25
import Derived.Test.YtgebbmfoamkfnaaGreatDoorT39
import Derived.Laws.StructEq
namespace Go.Proofs.YtgebbmfoamkfnaaGreatDoor
open Go.RowKit
open Go.Lib (decDigits join)
set_option linter.unusedVariables false
def dL (l : List Int) : List (List UInt8) := l.map fun i => decDigits i.toNat
theorem join_snoc (s : UInt8) (x : List UInt8) : ∀ l : List (List UInt8), l ≠ [] → join (l ++ [x]) [s] = join l [s] ++ (s :: x)
  | [], h => absurd rfl h
  | [y], _ => by
    rw [show [y] ++ [x] = [y, x] from rfl, join_step, Lib.join_one]
    simp [Lib.join_one]
  | y :: z :: r, _ => by
    have ih := join_snoc s x (z :: r) (by simp)
    rw [List.cons_append, join_step, join_step]
    show y ++ (s :: join ((z :: r) ++ [x]) [s]) = (y ++ (s :: join (z :: r) [s])) ++ (s :: x)
    rw [ih]
    simp
theorem djoin_len : ∀ l : List Int, (∀ i ∈ l, 1 ≤ i ∧ i ≤ 24) → (join (dL l) [43]).length ≤ 3 * l.length
  | [], _ => by simp [dL, join]
  | [x], h => by
    have hx := h x (by simp)
    have := dd_len2 x.toNat (by omega)
    show (join [decDigits x.toNat] [43]).length ≤ 3
    rw [Lib.join_one]
    omega
  | x :: y :: r, h => by
    have hx := h x (by simp)
    have h1 := dd_len2 x.toNat (by omega)
    have ih := djoin_len (y :: r) (fun i hi => h i (List.mem_cons_of_mem _ hi))
    show (join (decDigits x.toNat :: dL (y :: r)) [43]).length ≤ _
    rw [join_step]
    show (decDigits x.toNat ++ (43 :: join (dL (y :: r)) [43])).length ≤ _
    simp only [List.length_append, List.length_cons] at ih ⊢
    omega
theorem ba_app (a b : List UInt8) : ((⟨a.toArray⟩ : ByteArray) ++ (⟨b.toArray⟩ : ByteArray)) = ⟨(a ++ b).toArray⟩ := by
  apply ByteArray.ext
  simp
theorem dL_take {l : List Int} {k : Nat} {y : Int} (h : l[k]? = some y) (hk : k ≠ 0) : join (dL (l.take (k + 1))) [43] = join (dL (l.take k)) [43] ++ (43 :: decDigits y.toNat) := by
  rw [take_snoc h]
  unfold dL
  rw [List.map_append]
  have hne : (l.take k).map (fun i => decDigits i.toNat) ≠ [] := by
    intro e
    have e3 := congrArg List.length (List.map_eq_nil_iff.1 e)
    rw [List.length_take] at e3
    have hl := (List.getElem?_eq_some_iff.1 h).1
    simp only [List.length_nil] at e3
    omega
  exact join_snoc 43 _ _ hne
theorem dL_first {l : List Int} {y : Int} (h : l[0]? = some y) : join (dL (l.take 1)) [43] = decDigits y.toNat := by
  rw [show (1 : Nat) = 0 + 1 from rfl, take_snoc h]
  show join [decDigits y.toNat] [43] = _
  rw [Lib.join_one]
set_option maxRecDepth 100000 in
set_option maxHeartbeats 1000000 in
theorem text10_any (n : Int) (w : World) (h0 : 0 ≤ n) (h1 : n ≤ 4294967295) : Calls Tryz.prog 15 #[.int .u32 n] w fun e w' => e = .returned (.string ⟨(textS n).toArray⟩) ∧ Below w.heap.size w w' := by
  have hid := ids10_any n w h0 h1
  have hids : ∀ i ∈ ids10 n 24, 1 ≤ i ∧ i ≤ 24 := fun i hi => by
    rw [← ids_same16 h0 h1] at hi
    exact ids_pos hi
  have hl24 := ids10_len n 24
  obtain ⟨T, hT⟩ : ∃ T, textS n = T := ⟨_, rfl⟩
  rw [hT]
  unfold textS at hT
  rw [ids_same16 h0 h1] at hT
  unfold IsIds10 at hid
  generalize ids10 n 24 = l at *
  have HID := Lib.hid hid
  have HIDS := Lib.hid hids
  have HT := Lib.hid hT
  clear hid hids h0 h1 hT
  go_enter Tryz.func15, Tryz.ntmps15
  go_wp2_with fail
  refine HID.out.mono ?_
  rintro e w1 ⟨va, m, vc, rfl, hm, ho, hb1⟩
  have HO := Lib.hid ho
  have HB1 := Lib.hid hb1
  have HM := Lib.hid hm
  have hm24 : m ≤ 24 := by omega
  clear ho hb1 hm hl24 HID
  by_cases hm0 : m = 0
  · subst hm0
    have HE : Hid (T = [45]) := Lib.hid (by
      have : l = [] := List.eq_nil_of_length_eq_zero HM.out.symm
      rw [← HT.out, this]; rfl)
    go_wp2_with fail
    go_returns
    exact ⟨by rw [HE.out]; rfl, HB1.out⟩
  · have hmm : ((m : Int) == 0) = false := by simp; omega
    have HE : Hid (T = join (dL l) [43]) := Lib.hid (by
      rw [← HT.out, if_neg]
      · rfl
      · intro h
        rw [List.isEmpty_iff.1 h] at HM
        exact hm0 HM.out)
    clear hm0
    go_wp2_with fail
    go_loopw [4, 5] (fun s i wr => ∃ (k : Nat) (t : List UInt8), s = .string ⟨t.toArray⟩ ∧ t = join (dL (l.take k)) [43] ∧ i = .int .i64 (k : Int) ∧ k ≤ m ∧ Below w1.heap.size w1 wr) (fun _ i _ => m - (intOf i).toNat)
    case atStart => exact ⟨0, [], rfl, rfl, rfl, Nat.zero_le _, Below.refl _ _⟩
    case round =>
      obtain ⟨k, t, rfl, ht, rfl, hk, hb⟩ := hrel
      have HB := Lib.hid hb
      have HTT := Lib.hid ht
      have htl : t.length ≤ 100 := by
        rw [ht]
        have := djoin_len (l.take k) (fun i hi => HIDS.out i (List.mem_of_mem_take hi))
        rw [List.length_take] at this
        omega
      clear hb ht
      by_cases hlt : k < m
      · obtain ⟨q, rfl, _, hql, hqc⟩ := row_block (ownsRow_below HO.out HB.out) (by omega)
        obtain ⟨y, hy⟩ : ∃ y, l[k]? = some y := ⟨_, List.getElem?_eq_getElem (by have := HM.out; omega)⟩
        have y0 := hqc k (.int .i64 y) (by rw [List.getElem?_map, hy]; rfl)
        obtain ⟨hy1, hy2⟩ := HIDS.out y (List.mem_of_getElem? hy)
        have hdg := fun W => digits_any y W ⟨by omega, by omega⟩
        have hit : Lib.itoa y = decDigits y.toNat := by unfold Lib.itoa; rw [if_neg (by omega)]
        rw [hit] at hdg
        obtain ⟨D, hD⟩ : ∃ D, decDigits y.toNat = D := ⟨_, rfl⟩
        have hDl : D.length ≤ 2 := by rw [← hD]; exact dd_len2 _ (by omega)
        simp only [hD] at hdg
        have HDG := Lib.hid hdg
        have HY := Lib.hid hy
        have HDD := Lib.hid hD
        have g0 : (0 : Int) ≤ (k : Int) := by omega
        have g1 : (k : Int) < (m : Int) := by omega
        have s1 : t.length + 1 ≤ 9223372036854775807 := by omega
        have s2 : t.length + D.length ≤ 9223372036854775807 := by omega
        have s3 : t.length + 1 + D.length ≤ 9223372036854775807 := by omega
        clear hqc hy hdg hit hD
        by_cases hk0 : k = 0
        · subst hk0
          go_wp2_with fail
          refine (HDG.out _).mono ?_
          rintro e w5 ⟨rfl, hb5⟩
          have HB5 := Lib.hid (HB.out.trans (hb5.mono HB.out.size))
          clear hb5
          go_wp2_with fail
          go_roundw
          case rel => exact ⟨1, t ++ D, by rw [ba_app], by rw [HTT.out, dL_first HY.out, HDD.out]; rfl, by go_num, by omega, HB5.out⟩
          case measure => simp [intOf]; omega
        · have hkk : (0 : Int) < (k : Int) := by omega
          have hkn : 0 < k := by omega
          have HK0 := Lib.hid hk0
          clear hk0
          go_wp2_with fail
          refine (HDG.out _).mono ?_
          rintro e w5 ⟨rfl, hb5⟩
          have HB5 := Lib.hid (HB.out.trans (hb5.mono HB.out.size))
          clear hb5
          go_wp2_with fail
          go_roundw
          case rel => exact ⟨k + 1, t ++ (43 :: D), by rw [show (⟨#[43]⟩ : ByteArray) = ⟨([43] : List UInt8).toArray⟩ from rfl, ba_app, ba_app]; simp, by rw [HTT.out, dL_take HY.out HK0.out, HDD.out], by go_num, by omega, HB5.out⟩
          case measure => simp [intOf]; omega
      · obtain rfl : k = m := by omega
        have HF : Hid (T = t) := Lib.hid (by
          rw [HE.out, HTT.out, List.take_of_length_le (by have := HM.out; omega)])
        go_wp2_with fail
        go_returns
        exact ⟨by rw [HF.out]; rfl, HB1.out.trans (HB.out.mono HB1.out.size)⟩
end Go.Proofs.YtgebbmfoamkfnaaGreatDoor
namespace Go.Proofs.YtgebbmfoamkfnaaGreatDoor
open Go.RowKit
set_option linter.unusedVariables false
def great20B (cs : List Cmp) : Bool := decide (30 < cs.length) || cs.any fun c => decide (12 < c.fields.length)
set_option maxRecDepth 100000 in
theorem great20_any (ver : Int) (cs : List Cmp) (a : Option Addr) (len cap : Nat) (w : World) (hcs : CompsAt w.heap.size w a len cs) : Calls Tryz.prog 7 #[.agg #[.int .i64 ver, .slice a len cap]] w fun e w' => e = .returned (.bool (great20B cs)) ∧ Below w.heap.size w w' := by
  have hmx : len ≤ maxLen := hcs.2.1
  have hll := hcs.1
  unfold maxLen at hmx
  have HLL := Lib.hid hll
  clear hll
  have hbel0 : Below w.heap.size w (w.alloc (.cells #[.int .i64 ver, .slice a len cap] 24)) := by go_grown
  by_cases h30 : 30 < len
  · have HT : Hid (great20B cs = true) := Lib.hid (by simp [great20B, HLL.out]; omega)
    go_enter Tryz.func7, Tryz.ntmps7
    go_wp2_with fail
    go_returns
    exact ⟨ret_bool HT.out.symm, hbel0⟩
  · go_enter Tryz.func7, Tryz.ntmps7
    go_wp2_with fail
    go_loopw [3] (fun i wr => ∃ k : Nat, k ≤ len ∧ i = .int .i64 k ∧ great20B cs = ((cs.drop k).any fun c => decide (12 < c.fields.length)) ∧ w.alloc (.cells #[.int .i64 ver, .slice a len cap] 24) = wr) (fun i _ => len - (intOf i).toNat)
    case atStart => exact ⟨0, Nat.zero_le _, rfl, by simp [great20B, HLL.out]; omega, rfl⟩
    case round =>
      obtain ⟨k, hk, rfl, hgo, rfl⟩ := hrel
      have HGO := Lib.hid hgo
      clear hgo
      by_cases hlt : k < len
      · obtain ⟨b, off, c, rfl, hB, hc, c0, c1, fa, fl, fc, c2, hF, hnil⟩ := hcs.get hbel0 hlt
        have hstep := Lib.hid (HGO.out.trans (by rw [drop_get hc]))
        have hfl := hF.1
        have hfm := hF.2.1
        unfold maxLen at hfm
        have HFL := Lib.hid hfl
        clear hF hfl
        by_cases h12 : 12 < fl
        · have HT : Hid (great20B cs = true) := Lib.hid (by rw [hstep.out, List.any_cons, HFL.out]; simp [h12])
          go_wp2_with fail
          go_returns
          exact ⟨ret_bool HT.out.symm, hbel0⟩
        · have HT := Lib.hid (hstep.out.trans (show _ = ((cs.drop (k + 1)).any fun c => decide (12 < c.fields.length)) by rw [List.any_cons, HFL.out]; simp [h12]))
          go_wp2_with fail
          go_roundw
          case rel => exact ⟨k + 1, by omega, by go_num, HT.out, by trivial⟩
          case measure => simp [intOf]; omega
      · obtain rfl : k = len := by omega
        have HT : Hid (great20B cs = false) := Lib.hid (by rw [HGO.out, List.drop_eq_nil_of_le (by rw [HLL.out]; exact Nat.le_refl _)]; rfl)
        go_wp2_with fail
        go_returns
        exact ⟨ret_bool HT.out.symm, hbel0⟩
end Go.Proofs.YtgebbmfoamkfnaaGreatDoor
namespace Go.Proofs.YtgebbmfoamkfnaaGreatDoor
open Go.RowKit
set_option linter.unusedVariables false
theorem qwf24 : QWf (2, 4) := ⟨⟨by decide, by decide⟩, by decide, by decide⟩
theorem qwf22 : QWf (2, 2) := ⟨⟨by decide, by decide⟩, by decide, by decide⟩
theorem sets1_ok : setsOk [2, 6, 10] := by intro s hs; simp at hs; omega
theorem sets2_ok : setsOk [2, 6, 10, 18] := by intro s hs; simp at hs; omega
theorem row_lit {w : World} {cur : Array Value} {e : TypeId} {n : Nat} (hs : cur.size = n) (hm : n ≤ maxLen) : (w.alloc (.cells cur e)).ownsRow 0 e 1 (.slice (some ⟨w.heap.size, 0, none⟩) n n) n cur.toList :=
  ⟨by simp [hs], .inr ⟨w.heap.size, n, cur, rfl, Nat.zero_le _, heap_alloc_new w _, Nat.le_refl _, hm, by omega, by subst hs; simp [List.take_of_length_le]⟩⟩
theorem QV.out {w w' : World} {F : Nat → Prop} (h : QV w) (ho : Out F w w') (hF : ∀ x, F x → 2 < x) : QV w' := by
  obtain ⟨⟨m, hm⟩, ⟨e1, h1, k1⟩, ⟨e2, h2, k2⟩, hs⟩ := h
  have hc : ∀ b, b ≤ 2 → w'.cell? ⟨b, 0, none⟩ = w.cell? ⟨b, 0, none⟩ := fun b hb => World.cell?_of_block (a := ⟨b, 0, none⟩) (ho.block b (by show b < w.heap.size; omega) (fun hf => by have := hF b hf; omega))
  exact ⟨⟨m, (hc 0 (by omega)).trans hm⟩, ⟨e1, (hc 1 (by omega)).trans h1, k1⟩, ⟨e2, (hc 2 (by omega)).trans h2, k2⟩, Nat.lt_of_lt_of_le hs ho.size⟩
/-- What awake has before it makes its world. -/
structure AwP (w0 : World) (cb kb q3 q4 : Nat) (w : World) : Prop where
  q1 : w.heap[w0.heap.size]? = some (.cells #[.int .u32 2, .int .u32 4] 30 (0, 0))
  cache : CacheAt w cb kb K2q
  r3 : w.cell? ⟨q3, 0, none⟩ = some (.int .i64 0) ∧ w.cell? ⟨q3, 1, none⟩ = some (.int .i64 2) ∧ q3 < w.heap.size
  r4 : w.cell? ⟨q4, 2, none⟩ = some (.int .i64 3) ∧ q4 < w.heap.size
  qv : QV w
  bel : Below w0.heap.size w0 w
theorem AwP.below {w0 w w' : World} {cb kb q3 q4 : Nat} (h : AwP w0 cb kb q3 q4 w) (hb : Below w.heap.size w w') : AwP w0 cb kb q3 q4 w' :=
  ⟨keep hb h.q1, h.cache.below hb, ⟨(hb.cell (p := ⟨q3, 0, none⟩) h.r3.2.2).trans h.r3.1, (hb.cell (p := ⟨q3, 1, none⟩) h.r3.2.2).trans h.r3.2.1, Nat.lt_of_lt_of_le h.r3.2.2 hb.size⟩, ⟨(hb.cell (p := ⟨q4, 2, none⟩) h.r4.2).trans h.r4.1, Nat.lt_of_lt_of_le h.r4.2 hb.size⟩, h.qv.below hb, h.bel.trans (hb.mono h.bel.size)⟩
/-- The schema of three, in memory. -/
structure AwS (f q s : Nat) (w : World) : Prop where
  hf : w.heap[f]? = some (.cells fieldC 79 (0, 0))
  hq : w.heap[q]? = some (.cells (compC20 f) 82 (0, 0))
  hs : w.heap[s]? = some (.cells #[.int .i64 1, .slice (some ⟨q, 0, none⟩) 3 3] 24 (0, 0))
theorem AwS.below {f q s : Nat} {w w' : World} (h : AwS f q s w) (hb : Below w.heap.size w w') : AwS f q s w' := ⟨keep hb h.hf, keep hb h.hq, keep hb h.hs⟩
theorem AwS.comps {f q s : Nat} {w : World} (h : AwS f q s w) : CompsAt w.heap.size w (some ⟨q, 0, none⟩) 3 cs20 := comps20 h.hf h.hq (lt_some h.hf) (lt_some h.hq)
theorem aws_new (w : World) : AwS (w.heap.size + 1) (w.heap.size + 1 + 1) (w.heap.size + 1 + 1 + 1) ((((w.alloc (.cells #[.int .u32 0, .int .u32 0] 30)).alloc (.cells fieldC 79)).alloc (.cells (compC20 (w.heap.size + 1)) 82)).alloc (.cells #[.int .i64 1, .slice (some ⟨w.heap.size + 1 + 1, 0, none⟩) 3 3] 24)) := by
  have h1 := heap_alloc_new (w.alloc (.cells #[.int .u32 0, .int .u32 0] 30)) (.cells fieldC 79)
  have h2 := heap_alloc_new ((w.alloc (.cells #[.int .u32 0, .int .u32 0] 30)).alloc (.cells fieldC 79)) (.cells (compC20 (w.heap.size + 1)) 82)
  have h3 := heap_alloc_new (((w.alloc (.cells #[.int .u32 0, .int .u32 0] 30)).alloc (.cells fieldC 79)).alloc (.cells (compC20 (w.heap.size + 1)) 82)) (.cells #[.int .i64 1, .slice (some ⟨w.heap.size + 1 + 1, 0, none⟩) 3 3] 24)
  simp only [World.size_alloc] at h1 h2 h3
  exact ⟨keepA _ (keepA _ h1), keepA _ h2, h3⟩
set_option maxRecDepth 100000 in
set_option maxHeartbeats 4000000 in
theorem awake20_any (w : World) (hv : QV w) : Calls Tryz.prog 6 #[] w fun e w' => e = .returned (.bool true) ∧ Below w.heap.size w w' := by
  have hq0 := heap_alloc_new w (.cells #[.int .u32 2, .int .u32 4] 30)
  have hb0 : Below w.heap.size w (w.alloc (.cells #[.int .u32 2, .int .u32 4] 30)) := by go_grown
  have HVS := Lib.hid hv.size
  have HV := Lib.hid (hv.below hb0)
  have HQ0 := Lib.hid hq0
  have HB0 := Lib.hid hb0
  clear hv hq0 hb0
  go_enter Tryz.func6, Tryz.ntmps6
  go_wp2_with fail
  generalize w.alloc (.cells #[.int .u32 2, .int .u32 4] 30) = w1 at *
  refine (cacheNew_any w1).mono ?_
  rintro e w2 ⟨cb, kb, rfl, hC2, hb2, hcb, hkb⟩
  have hqb := HQ0.out
  have hs1 := lt_some hqb
  have hq2 := keep hb2 hqb
  have HQ2 := Lib.hid hq2
  have HB2 := Lib.hid (HB0.out.trans (hb2.mono HB0.out.size))
  have HV2 := Lib.hid (HV.out.below hb2)
  have HC2 := Lib.hid hC2
  have HNE : Hid (w.heap.size ≠ cb ∧ w.heap.size ≠ kb ∧ w.heap.size < cb ∧ w.heap.size < kb) := Lib.hid (by omega)
  have z0 := cell_at hq2 0
  have z1 := cell_at hq2 1
  simp at z0 z1
  clear hC2 hb2 hcb hkb hqb hs1 hq2 HV HQ0 HB0
  go_wp2_with fail
  have hrow : (w2.alloc (.cells #[.int .u32 2, .int .u32 6, .int .u32 10] 28)).ownsRow 0 28 1 (.slice (some ⟨w2.heap.size, 0, none⟩) 3 3) 3 (([2, 6, 10] : List Int).map (.int .u32)) := row_lit rfl (by decide)
  have hba : Below w2.heap.size w2 (w2.alloc (.cells #[.int .u32 2, .int .u32 6, .int .u32 10] 28)) := by go_grown
  have hT := tables_any (HC2.out.below hba) 2 4 qwf24 [2, 6, 10] _ 3 3 hrow sets1_ok (by decide) (by decide) (by decide) (by decide)
  rw [k_tabs1] at hT
  have HQ2' := Lib.hid (keep hba HQ2.out)
  have HB2' := Lib.hid (HB2.out.trans (hba.mono HB2.out.size))
  have HV2' := Lib.hid (HV2.out.below hba)
  have HT := Lib.hid hT
  have HCL := Lib.hid (lt_some HC2.out.blk)
  have HKL : Hid (kb < w2.heap.size) := Lib.hid (by
    obtain ⟨f, hf, _⟩ := HC2.out.map
    obtain ⟨es, c, ho⟩ := hf.obj
    exact lt_some ho)
  have HSA : Hid (w2.heap.size < (w2.alloc (.cells #[.int .u32 2, .int .u32 6, .int .u32 10] 28)).heap.size) := Lib.hid (by simp)
  clear hrow hba hT HC2 HQ2 HB2 HV2 z0 z1
  generalize w2.alloc (.cells #[.int .u32 2, .int .u32 6, .int .u32 10] 28) = w3 at *
  refine HT.out.mono ?_
  rintro e w4 ⟨va, m, vc, rfl, ho4, hC4, hO4⟩
  have hm : m = 2 := by have := ho4.1; simp at this; omega
  subst hm
  obtain ⟨q3, rfl, hq3, hq3l, hc3⟩ := row_block ho4 (by decide)
  have HR3 : Hid (w4.cell? ⟨q3, 0, none⟩ = some (.int .i64 0) ∧ w4.cell? ⟨q3, 1, none⟩ = some (.int .i64 2)) := Lib.hid ⟨hc3 0 _ rfl, hc3 1 _ rfl⟩
  have hq4 := hO4.keep HQ2'.out (fun h => by rcases h with h | h; exact HNE.out.1 h; exact HNE.out.2.1 h)
  have HQ4 := Lib.hid hq4
  have HV4 : Hid (QV w4) := Lib.hid (HV2'.out.out hO4 (fun z hz => by have := HNE.out; have := HVS.out; rcases hz with rfl | rfl <;> omega))
  have HB4 := Lib.hid (HB2'.out.trans (hO4.below (fun z hz => by rcases hz with rfl | rfl; exact Nat.le_of_lt HNE.out.2.2.1; exact Nat.le_of_lt HNE.out.2.2.2) HB2'.out.size))
  have HC4 : Hid (CacheAt w4 cb kb K1q) := Lib.hid hC4
  have z0 := cell_at hq4 0
  have z1 := cell_at hq4 1
  simp at z0 z1
  have HQ34 : Hid (w3.heap.size ≤ q3 ∧ q3 < w4.heap.size ∧ w3.heap.size ≤ w4.heap.size) := Lib.hid ⟨hq3, hq3l, hO4.size⟩
  clear ho4 hC4 hO4 hc3 hq4 HT HV2' HQ2' HB2' hq3 hq3l
  go_wp2_with fail
  have hrow : (w4.alloc (.cells #[.int .u32 2, .int .u32 6, .int .u32 10, .int .u32 18] 28)).ownsRow 0 28 1 (.slice (some ⟨w4.heap.size, 0, none⟩) 4 4) 4 (([2, 6, 10, 18] : List Int).map (.int .u32)) := row_lit rfl (by decide)
  have hba : Below w4.heap.size w4 (w4.alloc (.cells #[.int .u32 2, .int .u32 6, .int .u32 10, .int .u32 18] 28)) := by go_grown
  have hT := tables_any (HC4.out.below hba) 2 4 qwf24 [2, 6, 10, 18] _ 4 4 hrow sets2_ok (by decide) (by rw [k_look1]; decide) (by rw [k_look1]; decide) (by rw [k_cnt1]; decide)
  rw [k_tabs2] at hT
  have HQ4' := Lib.hid (keep hba HQ4.out)
  have HB4' := Lib.hid (HB4.out.trans (hba.mono HB4.out.size))
  have HV4' := Lib.hid (HV4.out.below hba)
  have HR3' : Hid ((w4.alloc (.cells #[.int .u32 2, .int .u32 6, .int .u32 10, .int .u32 18] 28)).cell? ⟨q3, 0, none⟩ = some (.int .i64 0) ∧ (w4.alloc (.cells #[.int .u32 2, .int .u32 6, .int .u32 10, .int .u32 18] 28)).cell? ⟨q3, 1, none⟩ = some (.int .i64 2)) := Lib.hid ⟨(hba.cell (p := ⟨q3, 0, none⟩) HQ34.out.2.1).trans HR3.out.1, (hba.cell (p := ⟨q3, 1, none⟩) HQ34.out.2.1).trans HR3.out.2⟩
  have HT := Lib.hid hT
  have HS5 : Hid (w4.heap.size < (w4.alloc (.cells #[.int .u32 2, .int .u32 6, .int .u32 10, .int .u32 18] 28)).heap.size) := Lib.hid (by simp)
  clear hrow hba hT HC4 HQ4 HB4 HV4 HR3 z0 z1
  generalize w4.alloc (.cells #[.int .u32 2, .int .u32 6, .int .u32 10, .int .u32 18] 28) = w5 at *
  refine HT.out.mono ?_
  rintro e w6 ⟨va, m, vc4, rfl, ho6, hC6, hO6⟩
  have hm : m = 3 := by have := ho6.1; simp at this; omega
  subst hm
  obtain ⟨q4, rfl, hq4, hq4l, hc4⟩ := row_block ho6 (by decide)
  have hnf : ∀ z, (z = cb ∨ z = kb) → z < w3.heap.size ∧ 2 < z ∧ w.heap.size < z := fun z hz => by
    have := HNE.out; have := HVS.out; have := HCL.out; have := HKL.out; have := HSA.out
    rcases hz with rfl | rfl <;> omega
  have hP : AwP w cb kb q3 q4 w6 := by
    have hk : ∀ o, w6.cell? ⟨q3, o, none⟩ = w5.cell? ⟨q3, o, none⟩ := fun o => World.cell?_of_block (a := ⟨q3, o, none⟩) (hO6.block q3 (by have := HQ34.out; have := HS5.out; omega) (fun hf => by have := hnf q3 hf; have := HQ34.out; omega))
    refine ⟨hO6.keep HQ4'.out (fun h => by have := hnf _ h; omega), hC6, ⟨(hk 0).trans HR3'.out.1, (hk 1).trans HR3'.out.2, by have := HQ34.out; have := HS5.out; have := hO6.size; omega⟩, ⟨hc4 2 _ rfl, hq4l⟩, HV4'.out.out hO6 (fun z hz => (hnf z hz).2.1), HB4'.out.trans (hO6.below (fun z hz => Nat.le_of_lt (hnf z hz).2.2) HB4'.out.size)⟩
  have HP := Lib.hid hP
  clear ho6 hC6 hO6 hc4 hnf hP HT HV4' HQ4' HB4' HR3' hq4 hq4l
  go_wp2_with fail
  have hp1 := fun W (hq : QV W) => qParse_any txt1 W (by decide) hq
  have hp2 := fun W (hq : QV W) => qParse_any txt2 W (by decide) hq
  rw [t_parse1, t_err1] at hp1
  rw [t_parse2, t_err2] at hp2
  unfold txt1 at hp1
  unfold txt2 at hp2
  refine (hp1 _ HP.out.qv).mono ?_
  rintro e w7 ⟨rfl, hb7⟩
  have HP7 := Lib.hid (HP.out.below hb7)
  clear hb7 HP
  go_wp2_with fail
  have hb8 : Below w7.heap.size w7 (w7.alloc (.cells #[.int .u32 2, .int .u32 4] 30)) := by go_grown
  have HB5 := Lib.hid (heap_alloc_new w7 (.cells #[.int .u32 2, .int .u32 4] 30))
  have HP8 := Lib.hid (HP7.out.below hb8)
  obtain ⟨b5, hb5⟩ : ∃ b5, w7.heap.size = b5 := ⟨_, rfl⟩
  rw [hb5] at HB5 ⊢
  clear hb8 HP7 hb5
  generalize w7.alloc (.cells #[.int .u32 2, .int .u32 4] 30) = w8 at *
  refine (hp2 _ HP8.out.qv).mono ?_
  rintro e w9 ⟨rfl, hb9⟩
  have HP9 := Lib.hid (HP8.out.below hb9)
  have HB59 := Lib.hid (keep hb9 HB5.out)
  clear hb9 HP8 HB5 hp1 hp2
  have hs10 := aws_new w9
  have hb10 : Below w9.heap.size w9 ((((w9.alloc (.cells #[.int .u32 0, .int .u32 0] 30)).alloc (.cells fieldC 79)).alloc (.cells (compC20 (w9.heap.size + 1)) 82)).alloc (.cells #[.int .i64 1, .slice (some ⟨w9.heap.size + 1 + 1, 0, none⟩) 3 3] 24)) := by go_grown
  have HP10 := Lib.hid (HP9.out.below hb10)
  have HB10 := Lib.hid (keep hb10 HB59.out)
  unfold fieldC compC20 at hs10 HP10 HB10
  clear hb10 HP9 HB59
  go_wp2_with fail
  generalize (((w9.alloc (.cells #[.int .u32 0, .int .u32 0] 30)).alloc _).alloc _).alloc _ = w10 at *
  obtain ⟨f, hf⟩ : ∃ f, w9.heap.size + 1 = f := ⟨_, rfl⟩
  rw [hf] at hs10 ⊢
  obtain ⟨q, hq⟩ : ∃ q, f + 1 = q := ⟨_, rfl⟩
  rw [hq] at hs10 ⊢
  obtain ⟨b9, hb9⟩ : ∃ b9, q + 1 = b9 := ⟨_, rfl⟩
  rw [hb9] at hs10 ⊢
  have HS10 := Lib.hid hs10
  have HN := Lib.hid (aw20_new hs10.comps)
  clear hf hq hb9 hs10
  refine HN.out.mono ?_
  rintro e w11 ⟨WB, rfl, hD⟩
  have HD := Lib.hid hD
  clear hD HN
  go_wp2_with fail
  refine (wof_pos 5 _ (by omega) (by omega)).mono ?_
  rintro e w12 ⟨rfl, hb12⟩
  have hd12 := HD.out.below hb12
  have h1 := keepA (.cells (partC20 w12.heap.size) 85) (heap_alloc_new w12 (.cells #[.bool false, .int .u64 0, .int .u64 5] 87))
  have h2 := heap_alloc_new (w12.alloc (.cells #[.bool false, .int .u64 0, .int .u64 5] 87)) (.cells (partC20 w12.heap.size) 85)
  rw [World.size_alloc] at h2
  have hb13 : Below w12.heap.size w12 ((w12.alloc (.cells #[.bool false, .int .u64 0, .int .u64 5] 87)).alloc (.cells (partC20 w12.heap.size) 85)) := by go_grown
  have HSP := Lib.hid (aw20_spawn (hd12.below hb13) h2 h1)
  unfold partC20 at HSP
  clear hd12 h1 h2 hb13 hb12 HD
  unfold WI.v
  go_wp2_with fail
  refine HSP.out.mono ?_
  rintro e w14 ⟨⟨v14, rfl⟩, hd14⟩
  have HD := Lib.hid hd14
  have y0 := cell_at (HP10.out.below hd14.bel).q1 0
  have y1 := cell_at (HP10.out.below hd14.bel).q1 1
  simp at y0 y1
  have HRW := Lib.hid (aw20_rows hd14)
  clear hd14 HSP
  go_wp2_with fail
  refine HRW.out.mono ?_
  rintro e w15 ⟨br, cr, en, pa, pc, rfl, r0, r1, hbr, hd15⟩
  have HD15 := Lib.hid hd15
  have hp15 := HP10.out.below hd15.bel
  have HP15 := Lib.hid hp15
  have hs15 := HS10.out.below hd15.bel
  have HS15 := Lib.hid hs15
  have hb515 := keep hd15.bel HB10.out
  have y0 := cell_at hp15.q1 0
  have y1 := cell_at hp15.q1 1
  have x0 := cell_at hb515 0
  have x1 := cell_at hb515 1
  have s0 := cell_at hs15.hs 0
  have s1 := cell_at hs15.hs 1
  simp at y0 y1 x0 x1 s0 s1
  obtain ⟨t0, t1, t2⟩ := hp15.r3
  obtain ⟨u0, u1⟩ := hp15.r4
  clear hd15 hp15 hs15 hb515 HD HRW
  go_wp2_with fail
  have hlk := cacheLooked_any HP15.out.cache
  rw [k_look] at hlk
  refine hlk.mono ?_
  clear hlk
  rintro e w16 ⟨rfl, rfl⟩
  go_wp2_with fail
  have hln := cacheLen_any HP15.out.cache
  rw [k_cnt] at hln
  refine hln.mono ?_
  clear hln
  rintro e w16 ⟨rfl, rfl⟩
  have htx := fun W => qText_any 2 4 W qwf24
  rw [t_text] at htx
  go_wp2_with fail
  refine (htx _).mono ?_
  clear htx
  rintro e w16 ⟨rfl, hb16⟩
  have HS16 := Lib.hid (HS15.out.below hb16)
  have HF16 := Lib.hid (HP15.out.below hb16).bel
  have s0 := cell_at HS16.out.hs 0
  have s1 := cell_at HS16.out.hs 1
  simp at s0 s1
  have r1 := (hb16.cell (p := ⟨br, 1, none⟩) hbr).trans r1
  have hbr : br < w16.heap.size := Nat.lt_of_lt_of_le hbr hb16.size
  have HCK := qCheck_any 1 cs20 (some ⟨q, 0, none⟩) 3 3 2 2 w16 HS16.out.comps cs20_wf (by decide) qwf22
  rw [q_check2] at HCK
  have HCK := Lib.hid HCK
  clear hb16 x0 x1 y0 y1 r0
  go_wp2_with fail
  refine HCK.out.mono ?_
  rintro e w17 ⟨rfl, hb17⟩
  have HFIN := Lib.hid (HF16.out.trans (hb17.mono HF16.out.size))
  clear hb17
  go_wp2_with fail
  go_returns
  exact ⟨rfl, HFIN.out⟩
end Go.Proofs.YtgebbmfoamkfnaaGreatDoor
namespace Go.Proofs.YtgebbmfoamkfnaaGreatDoor
open Go.RowKit
open Go.Lib (decDigits join)
set_option linter.unusedVariables false
def bad10 (n : Int) (ids : List Int) : Bool := decide (n < 1) || decide (24 < n) || (match ids.getLast? with | none => false | some z => decide (n ≤ z))
def bad10d (n : Int) (c : Nat) : Bool := decide (c < 48) || decide (57 < c) || decide (n = 0) || decide (99 < n) || (decide (n < 0) && decide (c = 48))
def p10 : List UInt8 → List Int → Int → Option (List Int)
  | [], ids, n => if bad10 n ids = true then none else some (ids ++ [n])
  | c :: r, ids, n => if c.toNat = 43 then (if bad10 n ids = true then none else p10 r (ids ++ [n]) (-1)) else if bad10d n c.toNat = true then none else p10 r ids ((if n < 0 then 0 else n) * 10 + ((c.toNat : Int) - 48))
/-- Ids that rise, each one's. -/
def Ris (l : List Int) : Prop := l.Pairwise (· < ·) ∧ ∀ i ∈ l, 1 ≤ i ∧ i ≤ 24
theorem ofN_toNat {k : Nat} (h : k < 256) : (UInt8.ofNat k).toNat = k := by simp; omega
theorem toNat_ofN (c : UInt8) : UInt8.ofNat c.toNat = c := by simp
theorem Ris.ok {ids r : List Int} {x : Int} (h : Ris (ids ++ x :: r)) : bad10 x ids = false := by
  have hx := h.2 x (by simp)
  unfold bad10
  rw [decide_eq_false (by omega), decide_eq_false (by omega)]
  cases hg : ids.getLast? with
  | none => rfl
  | some z =>
    have hz : z ∈ ids := List.mem_of_getLast? hg
    have := (List.pairwise_append.1 h.1).2.2 z hz x (by simp)
    simp
    omega
theorem bad10_of {ids : List Int} {n : Int} (hr : Ris ids) (h : bad10 n ids = false) : Ris (ids ++ [n]) := by
  unfold bad10 at h
  simp only [Bool.or_eq_false_iff, decide_eq_false_iff_not] at h
  obtain ⟨⟨h1, h2⟩, h3⟩ := h
  refine ⟨List.pairwise_append.2 ⟨hr.1, List.pairwise_singleton _ _, fun a ha b hb => ?_⟩, fun i hi => ?_⟩
  · rw [List.mem_singleton.1 hb]
    cases hg : ids.getLast? with
    | none =>
      rw [List.getLast?_eq_none_iff] at hg
      rw [hg] at ha
      cases ha
    | some z =>
      rw [hg] at h3
      have h4 : ¬ n ≤ z := by simpa using h3
      obtain ⟨p, hp⟩ := List.getLast?_eq_some_iff.1 hg
      rw [hp] at ha hr
      rcases List.mem_append.1 ha with ha | ha
      · have := (List.pairwise_append.1 hr.1).2.2 a ha z (by simp)
        omega
      · rw [List.mem_singleton.1 ha]; omega
  · rcases List.mem_append.1 hi with hi | hi
    · exact hr.2 i hi
    · rw [List.mem_singleton.1 hi]; omega
theorem p10_num (k : Nat) (h1 : 1 ≤ k) (h2 : k ≤ 24) (r : List UInt8) (ids : List Int) : p10 (decDigits k ++ r) ids (-1) = p10 r ids (k : Int) := by
  by_cases h : k < 10
  · rw [Lib.decDigits_one h, List.singleton_append]
    have hc : (UInt8.ofNat (48 + k)).toNat = 48 + k := ofN_toNat (by omega)
    conv => lhs; unfold p10
    rw [hc, if_neg (by omega), if_neg (by unfold bad10d; simp; omega)]
    congr 1
    simp
    omega
  · rw [Lib.decDigits_two h (by omega)]
    have hc : (UInt8.ofNat (48 + k / 10)).toNat = 48 + k / 10 := ofN_toNat (by omega)
    have hd : (UInt8.ofNat (48 + k % 10)).toNat = 48 + k % 10 := ofN_toNat (by omega)
    show p10 (UInt8.ofNat (48 + k / 10) :: (UInt8.ofNat (48 + k % 10) :: r)) ids (-1) = _
    conv => lhs; unfold p10
    rw [hc, if_neg (by omega), if_neg (by unfold bad10d; simp; omega)]
    conv => lhs; unfold p10
    rw [hd, if_neg (by omega), if_neg (by unfold bad10d; simp; omega)]
    congr 1
    simp
    omega
/-- Each text of ids that rise is taken. -/
theorem p10_all : ∀ (t : List Int) (x : Int) (ids : List Int), Ris (ids ++ x :: t) → p10 (join (dL (x :: t)) [43]) ids (-1) = some (ids ++ x :: t)
  | [], x, ids, h => by
    have hx := h.2 x (by simp)
    show p10 (join [decDigits x.toNat] [43]) ids (-1) = _
    rw [Lib.join_one]
    have := p10_num x.toNat (by omega) (by omega) [] ids
    rw [List.append_nil] at this
    rw [this, show ((x.toNat : Nat) : Int) = x by omega]
    unfold p10
    rw [h.ok]
    simp
  | y :: t, x, ids, h => by
    have hx := h.2 x (by simp)
    show p10 (join (decDigits x.toNat :: dL (y :: t)) [43]) ids (-1) = _
    rw [join_step]
    show p10 (decDigits x.toNat ++ (43 :: join (dL (y :: t)) [43])) ids (-1) = _
    rw [p10_num x.toNat (by omega) (by omega), show ((x.toNat : Nat) : Int) = x by omega]
    conv => lhs; unfold p10
    rw [if_pos (by decide), h.ok, if_neg (by simp)]
    have e : ids ++ x :: y :: t = (ids ++ [x]) ++ y :: t := by simp
    rw [p10_all t y (ids ++ [x]) (by rw [← e]; exact h), ← e]
def pre10 (n : Int) : List UInt8 := if n < 0 then [] else decDigits n.toNat
theorem join_cons {x : List UInt8} {l : List (List UInt8)} (h : l ≠ []) : join (x :: l) [43] = x ++ (43 :: join l [43]) := by
  rw [join_step]
  cases l with
  | nil => exact absurd rfl h
  | cons y r => rfl
/-- What is taken is the text of ids that rise. -/
theorem p10_is : ∀ (s : List UInt8) (ids : List Int) (n : Int) (L : List Int), Ris ids → (n = -1 ∨ 1 ≤ n) → p10 s ids n = some L → ∃ T, T ≠ [] ∧ L = ids ++ T ∧ Ris L ∧ join (dL T) [43] = pre10 n ++ s
  | [], ids, n, L, hr, hn, h => by
    unfold p10 at h
    cases hb : bad10 n ids with
    | true => rw [hb] at h; simp at h
    | false =>
      rw [hb, if_neg (by simp)] at h
      cases h
      have hr2 := bad10_of hr hb
      have h1 := (hr2.2 n (by simp)).1
      refine ⟨[n], by simp, rfl, hr2, ?_⟩
      show join [decDigits n.toNat] [43] = _
      rw [Lib.join_one]
      unfold pre10
      rw [if_neg (by omega), List.append_nil]
  | c :: r, ids, n, L, hr, hn, h => by
    unfold p10 at h
    by_cases hc : c.toNat = 43
    · rw [if_pos hc] at h
      cases hb : bad10 n ids with
      | true => rw [hb] at h; simp at h
      | false =>
        rw [hb, if_neg (by simp)] at h
        have hr2 := bad10_of hr hb
        have h1 := (hr2.2 n (by simp)).1
        obtain ⟨T, t1, t2, t3, t4⟩ := p10_is r (ids ++ [n]) (-1) L hr2 (.inl rfl) h
        refine ⟨n :: T, by simp, by rw [t2]; simp, t3, ?_⟩
        show join (decDigits n.toNat :: dL T) [43] = _
        rw [join_cons (by unfold dL; simpa using t1), t4]
        have hcc : c = 43 := by
          apply UInt8.toNat_inj.1
          rw [hc]; rfl
        unfold pre10
        rw [if_pos (by omega), if_neg (by omega), hcc]
        rfl
    · rw [if_neg hc] at h
      cases hb : bad10d n c.toNat with
      | true => rw [hb] at h; simp at h
      | false =>
        rw [hb, if_neg (by simp)] at h
        unfold bad10d at hb
        simp only [Bool.or_eq_false_iff, decide_eq_false_iff_not, Bool.and_eq_false_iff] at hb
        obtain ⟨⟨⟨⟨b1, b2⟩, b3⟩, b4⟩, b5⟩ := hb
        obtain ⟨d, hd⟩ : ∃ d : Nat, c.toNat = 48 + d := ⟨c.toNat - 48, by omega⟩
        have hcd : c = UInt8.ofNat (48 + d) := by rw [← hd, toNat_ofN]
        rcases hn with rfl | hn
        · have hd1 : 1 ≤ d := by
            rcases b5 with b5 | b5
            · exact absurd (by decide) b5
            · omega
          rw [if_pos (by decide), hd] at h
          have e : (0 : Int) * 10 + (((48 + d : Nat) : Int) - 48) = (d : Int) := by omega
          rw [e] at h
          obtain ⟨T, t1, t2, t3, t4⟩ := p10_is r ids (d : Int) L hr (.inr (by omega)) h
          refine ⟨T, t1, t2, t3, ?_⟩
          rw [t4]
          unfold pre10
          rw [if_neg (by omega), if_pos (by decide), Int.toNat_natCast, Lib.decDigits_one (by omega), hcd]
          rfl
        · obtain ⟨k, rfl⟩ : ∃ k : Nat, n = (k : Int) := ⟨n.toNat, by omega⟩
          rw [if_neg (by omega), hd] at h
          have e : (k : Int) * 10 + (((48 + d : Nat) : Int) - 48) = ((k * 10 + d : Nat) : Int) := by omega
          rw [e] at h
          obtain ⟨T, t1, t2, t3, t4⟩ := p10_is r ids ((k * 10 + d : Nat) : Int) L hr (.inr (by omega)) h
          refine ⟨T, t1, t2, t3, ?_⟩
          rw [t4]
          unfold pre10
          rw [if_neg (by omega), if_neg (by omega), Int.toNat_natCast, Int.toNat_natCast, dd_ge (by omega), hcd]
          have e1 : (k * 10 + d) / 10 = k := by omega
          have e2 : (k * 10 + d) % 10 = d := by omega
          rw [e1, e2]
          simp
end Go.Proofs.YtgebbmfoamkfnaaGreatDoor
