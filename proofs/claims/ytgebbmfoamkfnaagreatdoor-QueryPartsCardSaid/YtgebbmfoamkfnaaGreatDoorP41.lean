/- The queries' laws: great schemas. · awake of the queries' laws is true. -/
import Derived.Test.YtgebbmfoamkfnaaGreatDoorP40
import Derived.Laws.StructEq
namespace Go.Proofs.YtgebbmfoamkfnaaGreatDoor
open Go.RowKit
set_option linter.unusedVariables false
def great20B (cs : List Cmp) : Bool := decide (30 < cs.length) || cs.any fun c => decide (12 < c.fields.length)
set_option maxRecDepth 100000 in
theorem great20_any (ver : Int) (cs : List Cmp) (a : Option Addr) (len cap : Nat) (w : World) (hcs : CompsAt w.heap.size w a len cs) : Calls Tryz.prog 7 #[.agg #[.int .i64 ver, .slice a len cap]] w fun e w' => e = .returned (.bool (great20B cs)) ∧ Below w.heap.size w w' := by
  have hmx : len ≤ maxLen := hcs.2.1
  have hll := hcs.1
  unfold maxLen at hmx
  have HLL := Lib.hid hll
  clear hll
  have hbel0 : Below w.heap.size w (w.alloc (.cells #[.int .i64 ver, .slice a len cap] 24)) := by go_grown
  by_cases h30 : 30 < len
  · have HT : Hid (great20B cs = true) := Lib.hid (by simp [great20B, HLL.out]; omega)
    go_enter Tryz.func7, Tryz.ntmps7
    go_wp2_with fail
    go_returns
    exact ⟨ret_bool HT.out.symm, hbel0⟩
  · go_enter Tryz.func7, Tryz.ntmps7
    go_wp2_with fail
    go_loopw [3] (fun i wr => ∃ k : Nat, k ≤ len ∧ i = .int .i64 k ∧ great20B cs = ((cs.drop k).any fun c => decide (12 < c.fields.length)) ∧ w.alloc (.cells #[.int .i64 ver, .slice a len cap] 24) = wr) (fun i _ => len - (intOf i).toNat)
    case atStart => exact ⟨0, Nat.zero_le _, rfl, by simp [great20B, HLL.out]; omega, rfl⟩
    case round =>
      obtain ⟨k, hk, rfl, hgo, rfl⟩ := hrel
      have HGO := Lib.hid hgo
      clear hgo
      by_cases hlt : k < len
      · obtain ⟨b, off, c, rfl, hB, hc, c0, c1, fa, fl, fc, c2, hF, hnil⟩ := hcs.get hbel0 hlt
        have hstep := Lib.hid (HGO.out.trans (by rw [drop_get hc]))
        have hfl := hF.1
        have hfm := hF.2.1
        unfold maxLen at hfm
        have HFL := Lib.hid hfl
        clear hF hfl
        by_cases h12 : 12 < fl
        · have HT : Hid (great20B cs = true) := Lib.hid (by rw [hstep.out, List.any_cons, HFL.out]; simp [h12])
          go_wp2_with fail
          go_returns
          exact ⟨ret_bool HT.out.symm, hbel0⟩
        · have HT := Lib.hid (hstep.out.trans (show _ = ((cs.drop (k + 1)).any fun c => decide (12 < c.fields.length)) by rw [List.any_cons, HFL.out]; simp [h12]))
          go_wp2_with fail
          go_roundw
          case rel => exact ⟨k + 1, by omega, by go_num, HT.out, by trivial⟩
          case measure => simp [intOf]; omega
      · obtain rfl : k = len := by omega
        have HT : Hid (great20B cs = false) := Lib.hid (by rw [HGO.out, List.drop_eq_nil_of_le (by rw [HLL.out]; exact Nat.le_refl _)]; rfl)
        go_wp2_with fail
        go_returns
        exact ⟨ret_bool HT.out.symm, hbel0⟩
end Go.Proofs.YtgebbmfoamkfnaaGreatDoor
namespace Go.Proofs.YtgebbmfoamkfnaaGreatDoor
open Go.RowKit
set_option linter.unusedVariables false
theorem qwf24 : QWf (2, 4) := ⟨⟨by decide, by decide⟩, by decide, by decide⟩
theorem qwf22 : QWf (2, 2) := ⟨⟨by decide, by decide⟩, by decide, by decide⟩
theorem sets1_ok : setsOk [2, 6, 10] := by intro s hs; simp at hs; omega
theorem sets2_ok : setsOk [2, 6, 10, 18] := by intro s hs; simp at hs; omega
theorem row_lit {w : World} {cur : Array Value} {e : TypeId} {n : Nat} (hs : cur.size = n) (hm : n ≤ maxLen) : (w.alloc (.cells cur e)).ownsRow 0 e 1 (.slice (some ⟨w.heap.size, 0, none⟩) n n) n cur.toList :=
  ⟨by simp [hs], .inr ⟨w.heap.size, n, cur, rfl, Nat.zero_le _, heap_alloc_new w _, Nat.le_refl _, hm, by omega, by subst hs; simp [List.take_of_length_le]⟩⟩
theorem QV.out {w w' : World} {F : Nat → Prop} (h : QV w) (ho : Out F w w') (hF : ∀ x, F x → 2 < x) : QV w' := by
  obtain ⟨⟨m, hm⟩, ⟨e1, h1, k1⟩, ⟨e2, h2, k2⟩, hs⟩ := h
  have hc : ∀ b, b ≤ 2 → w'.cell? ⟨b, 0, none⟩ = w.cell? ⟨b, 0, none⟩ := fun b hb => World.cell?_of_block (a := ⟨b, 0, none⟩) (ho.block b (by show b < w.heap.size; omega) (fun hf => by have := hF b hf; omega))
  exact ⟨⟨m, (hc 0 (by omega)).trans hm⟩, ⟨e1, (hc 1 (by omega)).trans h1, k1⟩, ⟨e2, (hc 2 (by omega)).trans h2, k2⟩, Nat.lt_of_lt_of_le hs ho.size⟩
/-- What awake has before it makes its world. -/
structure AwP (w0 : World) (cb kb q3 q4 : Nat) (w : World) : Prop where
  q1 : w.heap[w0.heap.size]? = some (.cells #[.int .u32 2, .int .u32 4] 30 (0, 0))
  cache : CacheAt w cb kb K2q
  r3 : w.cell? ⟨q3, 0, none⟩ = some (.int .i64 0) ∧ w.cell? ⟨q3, 1, none⟩ = some (.int .i64 2) ∧ q3 < w.heap.size
  r4 : w.cell? ⟨q4, 2, none⟩ = some (.int .i64 3) ∧ q4 < w.heap.size
  qv : QV w
  bel : Below w0.heap.size w0 w
theorem AwP.below {w0 w w' : World} {cb kb q3 q4 : Nat} (h : AwP w0 cb kb q3 q4 w) (hb : Below w.heap.size w w') : AwP w0 cb kb q3 q4 w' :=
  ⟨keep hb h.q1, h.cache.below hb, ⟨(hb.cell (p := ⟨q3, 0, none⟩) h.r3.2.2).trans h.r3.1, (hb.cell (p := ⟨q3, 1, none⟩) h.r3.2.2).trans h.r3.2.1, Nat.lt_of_lt_of_le h.r3.2.2 hb.size⟩, ⟨(hb.cell (p := ⟨q4, 2, none⟩) h.r4.2).trans h.r4.1, Nat.lt_of_lt_of_le h.r4.2 hb.size⟩, h.qv.below hb, h.bel.trans (hb.mono h.bel.size)⟩
/-- The schema of three, in memory. -/
structure AwS (f q s : Nat) (w : World) : Prop where
  hf : w.heap[f]? = some (.cells fieldC 79 (0, 0))
  hq : w.heap[q]? = some (.cells (compC20 f) 82 (0, 0))
  hs : w.heap[s]? = some (.cells #[.int .i64 1, .slice (some ⟨q, 0, none⟩) 3 3] 24 (0, 0))
theorem AwS.below {f q s : Nat} {w w' : World} (h : AwS f q s w) (hb : Below w.heap.size w w') : AwS f q s w' := ⟨keep hb h.hf, keep hb h.hq, keep hb h.hs⟩
theorem AwS.comps {f q s : Nat} {w : World} (h : AwS f q s w) : CompsAt w.heap.size w (some ⟨q, 0, none⟩) 3 cs20 := comps20 h.hf h.hq (lt_some h.hf) (lt_some h.hq)
theorem aws_new (w : World) : AwS (w.heap.size + 1) (w.heap.size + 1 + 1) (w.heap.size + 1 + 1 + 1) ((((w.alloc (.cells #[.int .u32 0, .int .u32 0] 30)).alloc (.cells fieldC 79)).alloc (.cells (compC20 (w.heap.size + 1)) 82)).alloc (.cells #[.int .i64 1, .slice (some ⟨w.heap.size + 1 + 1, 0, none⟩) 3 3] 24)) := by
  have h1 := heap_alloc_new (w.alloc (.cells #[.int .u32 0, .int .u32 0] 30)) (.cells fieldC 79)
  have h2 := heap_alloc_new ((w.alloc (.cells #[.int .u32 0, .int .u32 0] 30)).alloc (.cells fieldC 79)) (.cells (compC20 (w.heap.size + 1)) 82)
  have h3 := heap_alloc_new (((w.alloc (.cells #[.int .u32 0, .int .u32 0] 30)).alloc (.cells fieldC 79)).alloc (.cells (compC20 (w.heap.size + 1)) 82)) (.cells #[.int .i64 1, .slice (some ⟨w.heap.size + 1 + 1, 0, none⟩) 3 3] 24)
  simp only [World.size_alloc] at h1 h2 h3
  exact ⟨keepA _ (keepA _ h1), keepA _ h2, h3⟩
set_option maxRecDepth 100000 in
set_option maxHeartbeats 4000000 in
theorem awake20_any (w : World) (hv : QV w) : Calls Tryz.prog 6 #[] w fun e w' => e = .returned (.bool true) ∧ Below w.heap.size w w' := by
  have hq0 := heap_alloc_new w (.cells #[.int .u32 2, .int .u32 4] 30)
  have hb0 : Below w.heap.size w (w.alloc (.cells #[.int .u32 2, .int .u32 4] 30)) := by go_grown
  have HVS := Lib.hid hv.size
  have HV := Lib.hid (hv.below hb0)
  have HQ0 := Lib.hid hq0
  have HB0 := Lib.hid hb0
  clear hv hq0 hb0
  go_enter Tryz.func6, Tryz.ntmps6
  go_wp2_with fail
  generalize w.alloc (.cells #[.int .u32 2, .int .u32 4] 30) = w1 at *
  refine (cacheNew_any w1).mono ?_
  rintro e w2 ⟨cb, kb, rfl, hC2, hb2, hcb, hkb⟩
  have hqb := HQ0.out
  have hs1 := lt_some hqb
  have hq2 := keep hb2 hqb
  have HQ2 := Lib.hid hq2
  have HB2 := Lib.hid (HB0.out.trans (hb2.mono HB0.out.size))
  have HV2 := Lib.hid (HV.out.below hb2)
  have HC2 := Lib.hid hC2
  have HNE : Hid (w.heap.size ≠ cb ∧ w.heap.size ≠ kb ∧ w.heap.size < cb ∧ w.heap.size < kb) := Lib.hid (by omega)
  have z0 := cell_at hq2 0
  have z1 := cell_at hq2 1
  simp at z0 z1
  clear hC2 hb2 hcb hkb hqb hs1 hq2 HV HQ0 HB0
  go_wp2_with fail
  have hrow : (w2.alloc (.cells #[.int .u32 2, .int .u32 6, .int .u32 10] 28)).ownsRow 0 28 1 (.slice (some ⟨w2.heap.size, 0, none⟩) 3 3) 3 (([2, 6, 10] : List Int).map (.int .u32)) := row_lit rfl (by decide)
  have hba : Below w2.heap.size w2 (w2.alloc (.cells #[.int .u32 2, .int .u32 6, .int .u32 10] 28)) := by go_grown
  have hT := tables_any (HC2.out.below hba) 2 4 qwf24 [2, 6, 10] _ 3 3 hrow sets1_ok (by decide) (by decide) (by decide) (by decide)
  rw [k_tabs1] at hT
  have HQ2' := Lib.hid (keep hba HQ2.out)
  have HB2' := Lib.hid (HB2.out.trans (hba.mono HB2.out.size))
  have HV2' := Lib.hid (HV2.out.below hba)
  have HT := Lib.hid hT
  have HCL := Lib.hid (lt_some HC2.out.blk)
  have HKL : Hid (kb < w2.heap.size) := Lib.hid (by
    obtain ⟨f, hf, _⟩ := HC2.out.map
    obtain ⟨es, c, ho⟩ := hf.obj
    exact lt_some ho)
  have HSA : Hid (w2.heap.size < (w2.alloc (.cells #[.int .u32 2, .int .u32 6, .int .u32 10] 28)).heap.size) := Lib.hid (by simp)
  clear hrow hba hT HC2 HQ2 HB2 HV2 z0 z1
  generalize w2.alloc (.cells #[.int .u32 2, .int .u32 6, .int .u32 10] 28) = w3 at *
  refine HT.out.mono ?_
  rintro e w4 ⟨va, m, vc, rfl, ho4, hC4, hO4⟩
  have hm : m = 2 := by have := ho4.1; simp at this; omega
  subst hm
  obtain ⟨q3, rfl, hq3, hq3l, hc3⟩ := row_block ho4 (by decide)
  have HR3 : Hid (w4.cell? ⟨q3, 0, none⟩ = some (.int .i64 0) ∧ w4.cell? ⟨q3, 1, none⟩ = some (.int .i64 2)) := Lib.hid ⟨hc3 0 _ rfl, hc3 1 _ rfl⟩
  have hq4 := hO4.keep HQ2'.out (fun h => by rcases h with h | h; exact HNE.out.1 h; exact HNE.out.2.1 h)
  have HQ4 := Lib.hid hq4
  have HV4 : Hid (QV w4) := Lib.hid (HV2'.out.out hO4 (fun z hz => by have := HNE.out; have := HVS.out; rcases hz with rfl | rfl <;> omega))
  have HB4 := Lib.hid (HB2'.out.trans (hO4.below (fun z hz => by rcases hz with rfl | rfl; exact Nat.le_of_lt HNE.out.2.2.1; exact Nat.le_of_lt HNE.out.2.2.2) HB2'.out.size))
  have HC4 : Hid (CacheAt w4 cb kb K1q) := Lib.hid hC4
  have z0 := cell_at hq4 0
  have z1 := cell_at hq4 1
  simp at z0 z1
  have HQ34 : Hid (w3.heap.size ≤ q3 ∧ q3 < w4.heap.size ∧ w3.heap.size ≤ w4.heap.size) := Lib.hid ⟨hq3, hq3l, hO4.size⟩
  clear ho4 hC4 hO4 hc3 hq4 HT HV2' HQ2' HB2' hq3 hq3l
  go_wp2_with fail
  have hrow : (w4.alloc (.cells #[.int .u32 2, .int .u32 6, .int .u32 10, .int .u32 18] 28)).ownsRow 0 28 1 (.slice (some ⟨w4.heap.size, 0, none⟩) 4 4) 4 (([2, 6, 10, 18] : List Int).map (.int .u32)) := row_lit rfl (by decide)
  have hba : Below w4.heap.size w4 (w4.alloc (.cells #[.int .u32 2, .int .u32 6, .int .u32 10, .int .u32 18] 28)) := by go_grown
  have hT := tables_any (HC4.out.below hba) 2 4 qwf24 [2, 6, 10, 18] _ 4 4 hrow sets2_ok (by decide) (by rw [k_look1]; decide) (by rw [k_look1]; decide) (by rw [k_cnt1]; decide)
  rw [k_tabs2] at hT
  have HQ4' := Lib.hid (keep hba HQ4.out)
  have HB4' := Lib.hid (HB4.out.trans (hba.mono HB4.out.size))
  have HV4' := Lib.hid (HV4.out.below hba)
  have HR3' : Hid ((w4.alloc (.cells #[.int .u32 2, .int .u32 6, .int .u32 10, .int .u32 18] 28)).cell? ⟨q3, 0, none⟩ = some (.int .i64 0) ∧ (w4.alloc (.cells #[.int .u32 2, .int .u32 6, .int .u32 10, .int .u32 18] 28)).cell? ⟨q3, 1, none⟩ = some (.int .i64 2)) := Lib.hid ⟨(hba.cell (p := ⟨q3, 0, none⟩) HQ34.out.2.1).trans HR3.out.1, (hba.cell (p := ⟨q3, 1, none⟩) HQ34.out.2.1).trans HR3.out.2⟩
  have HT := Lib.hid hT
  have HS5 : Hid (w4.heap.size < (w4.alloc (.cells #[.int .u32 2, .int .u32 6, .int .u32 10, .int .u32 18] 28)).heap.size) := Lib.hid (by simp)
  clear hrow hba hT HC4 HQ4 HB4 HV4 HR3 z0 z1
  generalize w4.alloc (.cells #[.int .u32 2, .int .u32 6, .int .u32 10, .int .u32 18] 28) = w5 at *
  refine HT.out.mono ?_
  rintro e w6 ⟨va, m, vc4, rfl, ho6, hC6, hO6⟩
  have hm : m = 3 := by have := ho6.1; simp at this; omega
  subst hm
  obtain ⟨q4, rfl, hq4, hq4l, hc4⟩ := row_block ho6 (by decide)
  have hnf : ∀ z, (z = cb ∨ z = kb) → z < w3.heap.size ∧ 2 < z ∧ w.heap.size < z := fun z hz => by
    have := HNE.out; have := HVS.out; have := HCL.out; have := HKL.out; have := HSA.out
    rcases hz with rfl | rfl <;> omega
  have hP : AwP w cb kb q3 q4 w6 := by
    have hk : ∀ o, w6.cell? ⟨q3, o, none⟩ = w5.cell? ⟨q3, o, none⟩ := fun o => World.cell?_of_block (a := ⟨q3, o, none⟩) (hO6.block q3 (by have := HQ34.out; have := HS5.out; omega) (fun hf => by have := hnf q3 hf; have := HQ34.out; omega))
    refine ⟨hO6.keep HQ4'.out (fun h => by have := hnf _ h; omega), hC6, ⟨(hk 0).trans HR3'.out.1, (hk 1).trans HR3'.out.2, by have := HQ34.out; have := HS5.out; have := hO6.size; omega⟩, ⟨hc4 2 _ rfl, hq4l⟩, HV4'.out.out hO6 (fun z hz => (hnf z hz).2.1), HB4'.out.trans (hO6.below (fun z hz => Nat.le_of_lt (hnf z hz).2.2) HB4'.out.size)⟩
  have HP := Lib.hid hP
  clear ho6 hC6 hO6 hc4 hnf hP HT HV4' HQ4' HB4' HR3' hq4 hq4l
  go_wp2_with fail
  have hp1 := fun W (hq : QV W) => qParse_any txt1 W (by decide) hq
  have hp2 := fun W (hq : QV W) => qParse_any txt2 W (by decide) hq
  rw [t_parse1, t_err1] at hp1
  rw [t_parse2, t_err2] at hp2
  unfold txt1 at hp1
  unfold txt2 at hp2
  refine (hp1 _ HP.out.qv).mono ?_
  rintro e w7 ⟨rfl, hb7⟩
  have HP7 := Lib.hid (HP.out.below hb7)
  clear hb7 HP
  go_wp2_with fail
  have hb8 : Below w7.heap.size w7 (w7.alloc (.cells #[.int .u32 2, .int .u32 4] 30)) := by go_grown
  have HB5 := Lib.hid (heap_alloc_new w7 (.cells #[.int .u32 2, .int .u32 4] 30))
  have HP8 := Lib.hid (HP7.out.below hb8)
  obtain ⟨b5, hb5⟩ : ∃ b5, w7.heap.size = b5 := ⟨_, rfl⟩
  rw [hb5] at HB5 ⊢
  clear hb8 HP7 hb5
  generalize w7.alloc (.cells #[.int .u32 2, .int .u32 4] 30) = w8 at *
  refine (hp2 _ HP8.out.qv).mono ?_
  rintro e w9 ⟨rfl, hb9⟩
  have HP9 := Lib.hid (HP8.out.below hb9)
  have HB59 := Lib.hid (keep hb9 HB5.out)
  clear hb9 HP8 HB5 hp1 hp2
  have hs10 := aws_new w9
  have hb10 : Below w9.heap.size w9 ((((w9.alloc (.cells #[.int .u32 0, .int .u32 0] 30)).alloc (.cells fieldC 79)).alloc (.cells (compC20 (w9.heap.size + 1)) 82)).alloc (.cells #[.int .i64 1, .slice (some ⟨w9.heap.size + 1 + 1, 0, none⟩) 3 3] 24)) := by go_grown
  have HP10 := Lib.hid (HP9.out.below hb10)
  have HB10 := Lib.hid (keep hb10 HB59.out)
  unfold fieldC compC20 at hs10 HP10 HB10
  clear hb10 HP9 HB59
  go_wp2_with fail
  generalize (((w9.alloc (.cells #[.int .u32 0, .int .u32 0] 30)).alloc _).alloc _).alloc _ = w10 at *
  obtain ⟨f, hf⟩ : ∃ f, w9.heap.size + 1 = f := ⟨_, rfl⟩
  rw [hf] at hs10 ⊢
  obtain ⟨q, hq⟩ : ∃ q, f + 1 = q := ⟨_, rfl⟩
  rw [hq] at hs10 ⊢
  obtain ⟨b9, hb9⟩ : ∃ b9, q + 1 = b9 := ⟨_, rfl⟩
  rw [hb9] at hs10 ⊢
  have HS10 := Lib.hid hs10
  have HN := Lib.hid (aw20_new hs10.comps)
  clear hf hq hb9 hs10
  refine HN.out.mono ?_
  rintro e w11 ⟨WB, rfl, hD⟩
  have HD := Lib.hid hD
  clear hD HN
  go_wp2_with fail
  refine (wof_pos 5 _ (by omega) (by omega)).mono ?_
  rintro e w12 ⟨rfl, hb12⟩
  have hd12 := HD.out.below hb12
  have h1 := keepA (.cells (partC20 w12.heap.size) 85) (heap_alloc_new w12 (.cells #[.bool false, .int .u64 0, .int .u64 5] 87))
  have h2 := heap_alloc_new (w12.alloc (.cells #[.bool false, .int .u64 0, .int .u64 5] 87)) (.cells (partC20 w12.heap.size) 85)
  rw [World.size_alloc] at h2
  have hb13 : Below w12.heap.size w12 ((w12.alloc (.cells #[.bool false, .int .u64 0, .int .u64 5] 87)).alloc (.cells (partC20 w12.heap.size) 85)) := by go_grown
  have HSP := Lib.hid (aw20_spawn (hd12.below hb13) h2 h1)
  unfold partC20 at HSP
  clear hd12 h1 h2 hb13 hb12 HD
  unfold WI.v
  go_wp2_with fail
  refine HSP.out.mono ?_
  rintro e w14 ⟨⟨v14, rfl⟩, hd14⟩
  have HD := Lib.hid hd14
  have y0 := cell_at (HP10.out.below hd14.bel).q1 0
  have y1 := cell_at (HP10.out.below hd14.bel).q1 1
  simp at y0 y1
  have HRW := Lib.hid (aw20_rows hd14)
  clear hd14 HSP
  go_wp2_with fail
  refine HRW.out.mono ?_
  rintro e w15 ⟨br, cr, en, pa, pc, rfl, r0, r1, hbr, hd15⟩
  have HD15 := Lib.hid hd15
  have hp15 := HP10.out.below hd15.bel
  have HP15 := Lib.hid hp15
  have hs15 := HS10.out.below hd15.bel
  have HS15 := Lib.hid hs15
  have hb515 := keep hd15.bel HB10.out
  have y0 := cell_at hp15.q1 0
  have y1 := cell_at hp15.q1 1
  have x0 := cell_at hb515 0
  have x1 := cell_at hb515 1
  have s0 := cell_at hs15.hs 0
  have s1 := cell_at hs15.hs 1
  simp at y0 y1 x0 x1 s0 s1
  obtain ⟨t0, t1, t2⟩ := hp15.r3
  obtain ⟨u0, u1⟩ := hp15.r4
  clear hd15 hp15 hs15 hb515 HD HRW
  go_wp2_with fail
  have hlk := cacheLooked_any HP15.out.cache
  rw [k_look] at hlk
  refine hlk.mono ?_
  clear hlk
  rintro e w16 ⟨rfl, rfl⟩
  go_wp2_with fail
  have hln := cacheLen_any HP15.out.cache
  rw [k_cnt] at hln
  refine hln.mono ?_
  clear hln
  rintro e w16 ⟨rfl, rfl⟩
  have htx := fun W => qText_any 2 4 W qwf24
  rw [t_text] at htx
  go_wp2_with fail
  refine (htx _).mono ?_
  clear htx
  rintro e w16 ⟨rfl, hb16⟩
  have HS16 := Lib.hid (HS15.out.below hb16)
  have HF16 := Lib.hid (HP15.out.below hb16).bel
  have s0 := cell_at HS16.out.hs 0
  have s1 := cell_at HS16.out.hs 1
  simp at s0 s1
  have r1 := (hb16.cell (p := ⟨br, 1, none⟩) hbr).trans r1
  have hbr : br < w16.heap.size := Nat.lt_of_lt_of_le hbr hb16.size
  have HCK := qCheck_any 1 cs20 (some ⟨q, 0, none⟩) 3 3 2 2 w16 HS16.out.comps cs20_wf (by decide) qwf22
  rw [q_check2] at HCK
  have HCK := Lib.hid HCK
  clear hb16 x0 x1 y0 y1 r0
  go_wp2_with fail
  refine HCK.out.mono ?_
  rintro e w17 ⟨rfl, hb17⟩
  have HFIN := Lib.hid (HF16.out.trans (hb17.mono HF16.out.size))
  clear hb17
  go_wp2_with fail
  go_returns
  exact ⟨rfl, HFIN.out⟩
end Go.Proofs.YtgebbmfoamkfnaaGreatDoor
