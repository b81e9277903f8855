/- Mint's systems. · Mint's bundle. · Mint's bundle of any version; draws. · Frames: all stays but a set of blocks; rows. · Mint's parts of ops: wide.Of, a handle, a component 1, an op that spawns. · Mint's ops: wait, begin, last, spawn. -/
import Derived.Test.YtgnilkjdpfbjgaaGreatQ13
import Derived.Test.YtgnilkjdpfbjgaaGreatQ1
namespace Go.Proofs.YtgnilkjdpfbjgaaGreat
open Go.RowKit
set_option linter.unusedVariables false
set_option maxRecDepth 100000 in
theorem mSchema_no (v : Int) (w : World) (h : verB v = false) : Calls Tryz.prog 8 #[.int .i64 v] w fun e w' => e = .returned (.agg #[.int .i64 0, .slice none 0 0]) ∧ Below w.heap.size w w' := by
  go_enter Tryz.func8, Tryz.ntmps8
  go_wp2_with fail
  refine (mIsVer_any v _).mono ?_
  rintro e w1 ⟨rfl, rfl⟩
  rw [h]
  go_wp2_with fail
  refine bodyPost_ret (v := .agg #[.int .i64 0, .slice none 0 0]) (by simp [results, Tryz.results8, go_sem]; try rfl) rfl ?_
  exact ⟨rfl, by go_grown⟩
set_option maxRecDepth 100000 in
theorem sigOf_one (c : Int) (q k : Nat) (w : World) (hc : c = 1 ∨ c = 2) (h : w.cell? ⟨q, 0, none⟩ = some (.int .i64 c)) : Calls Tryz.prog 42 #[.slice (some ⟨q, 0, none⟩) 1 k] w fun e w' => e = .returned (.tuple #[.int .u32 (sWith 0 c), .int .i64 0]) ∧ w = w' := by
  have hid : idB c = true := by rcases hc with rfl | rfl <;> decide +kernel
  go_enter Tryz.func42, Tryz.ntmps42
  go_wp2_with fail
  go_loopw [4, 9] (fun s i wr => wr = w ∧ (i = .int .i64 0 ∧ s = .int .u32 0 ∨ i = .int .i64 1 ∧ s = .int .u32 (sWith 0 c))) (fun _ i _ => 1 - (intOf i).toNat)
  case atStart => exact ⟨rfl, .inl ⟨rfl, rfl⟩⟩
  case round =>
    obtain ⟨rfl, ⟨rfl, rfl⟩ | ⟨rfl, rfl⟩⟩ := hrel
    · go_wp2_with fail
      refine (isId_any c _).mono ?_
      rintro e w1 ⟨rfl, rfl⟩
      rw [hid]
      go_wp2_with fail
      refine (with_any 0 c _ (by decide) (by decide)).mono ?_
      rintro e w1 ⟨rfl, rfl⟩
      go_wp2
      go_roundw
      case rel => exact ⟨trivial, .inr ⟨by go_num, rfl⟩⟩
      case measure => simp [intOf]
    · go_wp2
      go_returns
      exact ⟨rfl, rfl⟩
theorem at_block {w : World} {q n : Nat} {xs : List Value} {t : TypeId} {T : Nat → TypeId → Prop} (h : w.heap[q]? = some (.cells xs.toArray t (0, 0))) (hT : T q t) (hn : n ≤ maxLen) : At w T (.r n (xs.map .v)) (.slice (some ⟨q, 0, none⟩) n n) := by
  unfold At
  refine ⟨_, _, rfl, Nat.le_refl _, hn, .inr ⟨q, 0, _, t, _, rfl, h, hT, AtL.mk fun i d hd => ?_⟩⟩
  rw [List.getElem?_map] at hd
  rw [Nat.zero_add, cell_at h]
  cases hx : xs[i]? with
  | none => rw [hx] at hd; cases hd
  | some x =>
    rw [hx] at hd
    cases hd
    exact ⟨x, by simpa using hx, by unfold At; rfl⟩
set_option maxRecDepth 100000 in
set_option maxHeartbeats 1000000 in
theorem mSum_any (nm : ByteArray) (c : Int) (x : OpT) (w : World) (hc : c = 1 ∨ c = 2) : Calls Tryz.prog 24 #[.string nm, .int .i64 c, opV x] w fun e w' => ∃ u, e = .returned (.agg #[.string nm, .int .i64 0, .slice none 0 0, .int .u32 (sWith 0 c), .int .u32 0, u]) ∧ At w' TQ (opsD [⟨2, c, 0, 0, 0⟩, x, ⟨4, 0, 0, 0, 0⟩, ⟨3, c, 0, 0, 0⟩]) u ∧ Below w.heap.size w w' := by
  unfold opV
  go_enter Tryz.func24, Tryz.ntmps24
  go_wp2_with fail
  refine (sigOf_one c _ _ _ hc (cell_at (at_new (by simp)) 0)).mono ?_
  rintro e w1 ⟨rfl, rfl⟩
  go_wp2_with fail
  refine bodyPost_ret (v := .agg #[.string nm, .int .i64 0, .slice none 0 0, .int .u32 (sWith 0 c), .int .u32 0, .slice (some ⟨w.heap.size + 1 + 1 + 1, 0, none⟩) 4 4]) (by simp [results, Tryz.results24, go_sem]; try rfl) rfl ?_
  refine ⟨_, rfl, ?_, by go_grown⟩
  rw [ops_vals]
  exact at_block (xs := [.int .i64 2, .int .i64 c, .int .i64 0, .int .i64 0, .int .i64 0, .int .i64 x.code, .int .i64 x.a, .int .i64 x.b, .int .i64 x.c, .int .i64 x.k, .int .i64 4, .int .i64 0, .int .i64 0, .int .i64 0, .int .i64 0, .int .i64 3, .int .i64 c, .int .i64 0, .int .i64 0, .int .i64 0]) (at_new (by simp)) (.inr rfl) (by unfold maxLen; simp)
/-- Two systems in a block. -/
theorem syss_two {W : World} {q : Nat} {s1 s2 : SysT} {a1 c1 a2 c2 : Value} (h : W.heap[q]? = some (.cells #[.string s1.name, .int .i64 s1.stage, a1, .int .u32 s1.al, .int .u32 s1.no, c1, .string s2.name, .int .i64 s2.stage, a2, .int .u32 s2.al, .int .u32 s2.no, c2] 78 (0, 0)))
    (h1 : At W TQ (strsD s1.after) a1) (h2 : At W TQ (opsD s1.code) c1) (h3 : At W TQ (strsD s2.after) a2) (h4 : At W TQ (opsD s2.code) c2) : At W TS (syssD [s1, s2]) (.slice (some ⟨q, 0, none⟩) 2 2) := by
  have ty : ∀ {d : Dat} {u : Value}, At W TQ d u → At W TS d u := fun h => h.types fun _ _ _ _ _ h => .inr h
  unfold syssD At
  refine ⟨_, _, rfl, Nat.le_refl _, by unfold maxLen; simp, .inr ⟨q, 0, _, _, _, rfl, h, .inl rfl, AtL.mk fun i d hd => ?_⟩⟩
  have hi : i < 12 := (List.getElem?_eq_some_iff.1 hd).1
  rw [Nat.zero_add, cell_at h]
  rcases (by omega : i = 0 ∨ i = 1 ∨ i = 2 ∨ i = 3 ∨ i = 4 ∨ i = 5 ∨ i = 6 ∨ i = 7 ∨ i = 8 ∨ i = 9 ∨ i = 10 ∨ i = 11) with rfl | rfl | rfl | rfl | rfl | rfl | rfl | rfl | rfl | rfl | rfl | rfl <;> cases hd
  · exact ⟨_, rfl, by unfold At; rfl⟩
  · exact ⟨_, rfl, by unfold At; rfl⟩
  · exact ⟨_, rfl, ty h1⟩
  · exact ⟨_, rfl, by unfold At; rfl⟩
  · exact ⟨_, rfl, by unfold At; rfl⟩
  · exact ⟨_, rfl, ty h2⟩
  · exact ⟨_, rfl, by unfold At; rfl⟩
  · exact ⟨_, rfl, by unfold At; rfl⟩
  · exact ⟨_, rfl, ty h3⟩
  · exact ⟨_, rfl, by unfold At; rfl⟩
  · exact ⟨_, rfl, by unfold At; rfl⟩
  · exact ⟨_, rfl, ty h4⟩
set_option maxRecDepth 100000 in
theorem mSystems_no (v : Int) (w : World) (h : verB v = false) : Calls Tryz.prog 11 #[.int .i64 v] w fun e w' => e = .returned (.slice none 0 0) ∧ Below w.heap.size w w' := by
  go_enter Tryz.func11, Tryz.ntmps11
  go_wp2_with fail
  refine (mIsVer_any v _).mono ?_
  rintro e w1 ⟨rfl, rfl⟩
  rw [h]
  go_wp2_with fail
  go_ret
  exact ⟨rfl, Below.refl _ _⟩
set_option maxRecDepth 100000 in
set_option maxHeartbeats 1000000 in
theorem mSystems_yes (v : Int) (w : World) (h : verB v = true) : Calls Tryz.prog 11 #[.int .i64 v] w fun e w' => ∃ u, e = .returned u ∧ At w' TS (syssD (mintS v)) u ∧ Below w.heap.size w w' := by
  have hv : 1 ≤ v ∧ v ≤ 1073741824 := by
    unfold verB at h
    simpa using h
  have e7 : v.tmod 7 = v % 7 := Int.tmod_eq_emod_of_nonneg (by omega)
  have h7 : 0 ≤ v % 7 ∧ v % 7 < 7 := by omega
  have w1 : sWith 0 1 = 2 := by decide +kernel
  have w2 : sWith 0 2 = 4 := by decide +kernel
  generalize hm : v % 7 = m at *
  have HM := Lib.hid hm
  clear hm
  go_enter Tryz.func11, Tryz.ntmps11
  go_wp2_with fail
  refine (mIsVer_any v _).mono ?_
  rintro e w1 ⟨rfl, rfl⟩
  rw [h]
  go_wp2_with fail
  refine (mSum_any sAge 1 ⟨1, 0, 0, 0, m⟩ _ (.inl rfl)).mono ?_
  rintro e wA ⟨u, rfl, hA, hbA⟩
  obtain ⟨a1, n1, c1, rfl⟩ : ∃ a n c, u = .slice a n c := by
    obtain ⟨a, c, h, _⟩ := hA.row
    exact ⟨_, _, _, h⟩
  rw [w1]
  have HA := Lib.hid hA
  have HBA := Lib.hid hbA
  clear hA hbA
  go_wp2_with fail
  refine (mSum_any sMove 2 ⟨2, 2, 1, 0, 0⟩ _ (.inr rfl)).mono ?_
  rintro e wB ⟨u, rfl, hB, hbB⟩
  obtain ⟨a2, n2, c2, rfl⟩ : ∃ a n c, u = .slice a n c := by
    obtain ⟨a, c, h, _⟩ := hB.row
    exact ⟨_, _, _, h⟩
  rw [w2]
  have hq := keep hbB (heap_alloc_new wA _)
  have z0 := cell_at hq 0
  have z1 := cell_at hq 1
  have z2 := cell_at hq 2
  have z3 := cell_at hq 3
  have z4 := cell_at hq 4
  have z5 := cell_at hq 5
  simp at z0 z1 z2 z3 z4 z5
  have hlq := lt_some hq
  have HB := Lib.hid hB
  have HBB := Lib.hid hbB
  clear hB hbB hq
  have hbF : ∀ o1 o2 o3, Below wB.heap.size wB (((wB.alloc o1).alloc o2).alloc o3) := fun o1 o2 o3 => by go_grown
  have hzA : wA.heap.size < wB.heap.size := hlq
  go_wp2_with fail
  go_ret
  refine ⟨_, rfl, ?_, ?_⟩
  · have hS : mintS v = [⟨sAge, 0, [], 2, 0, [⟨2, 1, 0, 0, 0⟩, ⟨1, 0, 0, 0, m⟩, ⟨4, 0, 0, 0, 0⟩, ⟨3, 1, 0, 0, 0⟩]⟩, ⟨sMove, 0, [sAge], 4, 0, [⟨2, 2, 0, 0, 0⟩, ⟨2, 2, 1, 0, 0⟩, ⟨4, 0, 0, 0, 0⟩, ⟨3, 2, 0, 0, 0⟩]⟩] := by
      unfold mintS sysAge sysMove
      rw [HM.out]
    rw [hS]
    refine syss_two (at_new (by simp)) ?_ ?_ ?_ ?_
    · unfold strsD At
      exact ⟨none, 0, rfl, Nat.le_refl _, Nat.zero_le _, .inl rfl⟩
    · exact (HA.out.below (((Below.refl wA.heap.size wA).alloc (Nat.le_refl _) _).trans (HBB.out.mono (by simp)))).below (hbF _ _ _)
    · rw [strs_vals]
      exact at_block (xs := [.string sAge]) (keepA _ (at_new (by simp))) (.inl rfl) (by unfold maxLen; simp)
    · exact HB.out.below (hbF _ _ _)
  · exact (HBA.out.trans (((Below.refl wA.heap.size wA).alloc (Nat.le_refl _) _).trans (HBB.out.mono (by simp)) |>.mono HBA.out.size)).trans ((hbF _ _ _).mono (by have := HBA.out.size; omega))
end Go.Proofs.YtgnilkjdpfbjgaaGreat
namespace Go.Proofs.YtgnilkjdpfbjgaaGreat
open Go.RowKit
set_option linter.unusedVariables false
theorem cmp_len (c : Cmp) : (cmpBytes c).length = 1 + (c.name.size + 1) + 1 + (c.fields.flatMap fldBytes).length := by
  unfold cmpBytes
  simp only [List.length_append, leB_len, nameB_len]
theorem fld_len (f : Fld) : (fldBytes f).length = f.name.size + 3 := by
  unfold fldBytes
  simp only [List.length_append, leB_len, nameB_len]
theorem sc_len (ver v : Int) : (scBytes ver (mintC v)).length ≤ 100 := by
  unfold scBytes mintC
  rw [List.length_append, List.length_append, List.length_append, leB_len, leB_len]
  split <;> simp only [List.flatMap_cons, List.flatMap_nil, List.length_append, cmp_len, fld_len, cHp, cPos, cTag, List.length_nil, List.length_cons] <;> decide +kernel
theorem pr_len (a b v : Int) : (prBytes a b (mintR v)).length ≤ 100 := by
  unfold prBytes mintR
  rw [List.length_append, List.length_append, List.length_append, List.length_append, leB_len, leB_len, leB_len]
  split <;> simp only [List.flatMap_cons, List.flatMap_nil, List.length_append, ruBytes_len, List.length_nil, List.length_cons] <;> decide +kernel
theorem sys_len (s : SysT) : (sysBytes s).length = 1 + (s.name.size + 1) + 1 + 1 + (s.after.flatMap nameB).length + 4 + 4 + 1 + s.code.length * 12 := by
  unfold sysBytes
  have : ∀ l : List OpT, (l.flatMap opBytes).length = l.length * 12 := fun l => by
    induction l with
    | nil => rfl
    | cons x r ih => rw [List.flatMap_cons, List.length_append, opBytes_len, ih, List.length_cons]; omega
  simp only [List.length_append, leB_len, nameB_len, this, List.length_cons, List.length_nil]
theorem ss_len (v : Int) : ((mintS v).flatMap fun s => partB (sysBytes s)).length ≤ 200 := by
  unfold mintS
  simp only [List.flatMap_cons, List.flatMap_nil, List.length_append, partB_len, sys_len, sysAge, sysMove, nameB_len, List.length_nil, List.length_cons]
  decide +kernel
theorem mint_len (v : Int) : (stampB (bodyB (v + 1) v (v + 1) (mintC (v + 1)) (mintR v) (mintS (v + 1)))).length ≤ 16384 := by
  rw [stampB_len]
  unfold bodyB
  have h1 := sc_len (v + 1) (v + 1)
  have h2 := pr_len v (v + 1) v
  have h3 := ss_len (v + 1)
  simp only [List.length_append, leB_len, partB_len, List.length_cons, List.length_nil]
  omega
theorem mintC_f (v : Int) : ∀ c ∈ mintC v, c.fields.length ≤ 100000 := by
  intro c hc
  unfold mintC at hc
  split at hc
  · simp at hc
    rcases hc with rfl | rfl | rfl <;> simp [cHp, cPos, cTag]
  · simp at hc
    rcases hc with rfl | rfl <;> simp [cHp, cPos]
theorem mintS_l (v : Int) : ∀ s ∈ mintS v, s.after.length ≤ 1000 ∧ s.code.length ≤ 1000 := by
  intro s hs
  simp [mintS] at hs
  rcases hs with rfl | rfl <;> simp [sysAge, sysMove]
theorem mintR_l (v : Int) : (mintR v).length ≤ 24 := by
  unfold mintR
  split <;> simp
/-- The types of a bundle's rows. -/
def TB : Nat → TypeId → Prop := fun q t => TP q t ∨ TS q t
theorem TB_no : ∀ q t, TB q t → t ≠ 133 ∧ t ≠ 5 := by
  rintro q t ((rfl | rfl | rfl) | (rfl | rfl | rfl)) <;> constructor <;> decide
set_option maxRecDepth 100000 in
set_option maxHeartbeats 1000000 in
theorem mBundle_yes (v : Int) (w : World) (h : verB v = true) (h' : verB (v + 1) = true) : Calls Tryz.prog 13 #[.int .i64 v] w fun e w' => e = .returned (.string ⟨(stampB (bodyB (v + 1) v (v + 1) (mintC (v + 1)) (mintR v) (mintS (v + 1)))).toArray⟩) ∧ Below w.heap.size w w' := by
  have hv : 1 ≤ v ∧ v ≤ 1073741824 := by
    unfold verB at h
    simpa using h
  have hv' : v + 1 ≤ 1073741824 := by
    unfold verB at h'
    simp at h'
    omega
  obtain ⟨v0, v1⟩ := hv
  have HL := Lib.hid (mint_len v)
  go_enter Tryz.func13, Tryz.ntmps13
  go_wp2_with fail
  refine (mIsVer_any v _).mono ?_
  rintro e w1 ⟨rfl, rfl⟩
  rw [h]
  go_wp2_with fail
  refine (mIsVer_any (v + 1) _).mono ?_
  rintro e w1 ⟨rfl, rfl⟩
  rw [h']
  go_wp2_with fail
  refine (mSchema_yes v _ h).mono ?_
  rintro e w1 ⟨q1, k1, rfl, hc1, _, hb1⟩
  have H1 := Lib.hid (And.intro hc1 hb1)
  clear hc1 hb1
  go_wp2_with fail
  refine (mSchema_yes (v + 1) _ h').mono ?_
  rintro e w2 ⟨q2, k2, rfl, hc2, _, hb2⟩
  have H2 := Lib.hid (And.intro hc2 hb2)
  clear hc2 hb2
  go_wp2_with fail
  refine (mSystems_yes (v + 1) _ h').mono ?_
  rintro e w3 ⟨u3, rfl, hs3, hb3⟩
  have H3 := Lib.hid (And.intro hs3 hb3)
  clear hs3 hb3
  have hB2 := H1.out.2.trans (H2.out.2.mono H1.out.2.size)
  have hB3 := hB2.trans (H3.out.2.mono hB2.size)
  have hB23 := H2.out.2.trans (H3.out.2.mono H2.out.2.size)
  go_wp2_with fail
  refine (bPlain_any v (v + 1) (mintC v) (mintC (v + 1)) (mintS (v + 1)) (some ⟨q1, 0, none⟩) (some ⟨q2, 0, none⟩) k1 k2 u3 w3 TS ((H1.out.1.below hB23).mono hB23.size) ((H2.out.1.below H3.out.2).mono H3.out.2.size) (plainOk_mint v) (mintC_f v) (mintC_f (v + 1)) (fun h => by cases h) H3.out.1 (by simp [mintS]) (mintS_l (v + 1))).mono ?_
  rintro e w4 ⟨ca, cc, ur, us, rfl, hc4, hr4, hs4, hb4⟩
  rw [plainR_mint] at hr4
  have hB4 := hB3.trans (hb4.mono hB3.size)
  have HB4 := Lib.hid hB4
  have H4 := Lib.hid (And.intro hc4 (And.intro hr4 hs4))
  clear hc4 hr4 hs4 hb4 hB4 hB3 hB2 hB23
  obtain ⟨ra, rn, rc, rfl⟩ : ∃ a n c, ur = .slice a n c := by
    obtain ⟨a, c, h, _⟩ := H4.out.2.1.row
    exact ⟨_, _, _, h⟩
  obtain ⟨sa, sn, sc, rfl⟩ : ∃ a n c, us = .slice a n c := by
    obtain ⟨a, c, h, _⟩ := H4.out.2.2.row
    exact ⟨_, _, _, h⟩
  go_wp2_with fail
  refine (bEnc_any (v + 1) v (v + 1) (mintC (v + 1)) (mintR v) (mintS (v + 1)) ca _ cc _ _ w4 TB H4.out.1 (schema_mint h') (scFit_mint _) (H4.out.2.1.types fun _ _ _ _ _ h => .inl h) (rusOk_mint v) (mintR_l v) (by omega) (by omega) (by omega) (by omega) (H4.out.2.2.types fun _ _ _ _ _ h => .inr h) (sysOk_mint h') (by simp [mintS]) TB_no HL.out).mono ?_
  rintro e w5 ⟨rfl, hb5⟩
  have hB5 := HB4.out.trans (hb5.mono HB4.out.size)
  clear hb5
  go_wp2
  go_ret
  exact ⟨rfl, hB5⟩
end Go.Proofs.YtgnilkjdpfbjgaaGreat
namespace Go.Proofs.YtgnilkjdpfbjgaaGreat
open Go.RowKit
set_option linter.unusedVariables false
set_option maxRecDepth 100000 in
theorem mBundle_no (v : Int) (w : World) (h : ¬ (verB v = true ∧ verB (v + 1) = true)) : Calls Tryz.prog 13 #[.int .i64 v] w fun e w' => e = .returned (.string ⟨#[]⟩) ∧ w = w' := by
  cases h1 : verB v with
  | false =>
    go_enter Tryz.func13, Tryz.ntmps13
    go_wp2_with fail
    refine (mIsVer_any v _).mono ?_
    rintro e w1 ⟨rfl, rfl⟩
    rw [h1]
    go_wp2_with fail
    go_ret
    exact ⟨rfl, rfl⟩
  | true =>
    have h2 : verB (v + 1) = false := by
      cases h3 : verB (v + 1) with
      | false => rfl
      | true => exact absurd ⟨h1, h3⟩ h
    have hv : 1 ≤ v ∧ v ≤ 1073741824 := by
      unfold verB at h1
      simpa using h1
    clear h
    go_enter Tryz.func13, Tryz.ntmps13
    go_wp2_with fail
    refine (mIsVer_any v _).mono ?_
    rintro e w1 ⟨rfl, rfl⟩
    rw [h1]
    go_wp2_with fail
    refine (mIsVer_any (v + 1) _).mono ?_
    rintro e w1 ⟨rfl, rfl⟩
    rw [h2]
    go_wp2_with fail
    go_ret
    exact ⟨rfl, rfl⟩
theorem mBundle_any (v : Int) (w : World) : Calls Tryz.prog 13 #[.int .i64 v] w fun e w' => e = .returned (.string ⟨(mintB v).toArray⟩) ∧ Below w.heap.size w w' := by
  unfold mintB
  by_cases h : verB v = true ∧ verB (v + 1) = true
  · rw [if_pos h]
    exact mBundle_yes v w h.1 h.2
  · rw [if_neg h]
    refine (mBundle_no v w h).mono ?_
    rintro e w1 ⟨rfl, rfl⟩
    exact ⟨rfl, Below.refl _ _⟩
/-- A stream of draws. -/
def StrM (w : World) (sb x : Nat) (v : Int) : Prop := w.heap[sb]? = some (.cells #[.int .u64 (x : Int), .int .i64 v] 70 (0, 0)) ∧ x < 18446744073709551616
theorem StrM.below {w w' : World} {sb x : Nat} {v : Int} (h : StrM w sb x v) (hb : Below w.heap.size w w') : StrM w' sb x v := ⟨keep hb h.1, h.2⟩
theorem drawN_lt (x n : Nat) (h : 0 < n) : drawN x n < n := Nat.mod_lt _ h
theorem draw_x (x : Nat) : IntKind.u64.wrap (IntKind.u64.wrap ((x : Int) * 6364136223846793005) + 1442695040888963407) = (drawX x : Nat) := by
  unfold drawX
  rw [IntKind.wrap_u64, IntKind.wrap_u64, Int.emod_add_emod]
  simp
theorem draw_n (x n : Nat) (h0 : 0 < n) : (wrap64 ((drawX x : Int) / 8589934592)).tmod (n : Int) = (drawN x n : Nat) := by
  have hx : drawX x < 18446744073709551616 := Nat.mod_lt _ (by decide)
  unfold drawN
  generalize drawX x = y at *
  have hy : (y : Int) / 8589934592 = ((y / 8589934592 : Nat) : Int) := by simp
  rw [hy]
  have hl : y / 8589934592 < 2147483648 := by omega
  generalize y / 8589934592 = z at *
  rw [w64_id (by omega) (by omega), Int.tmod_eq_emod_of_nonneg (by omega)]
  simp
set_option maxRecDepth 100000 in
theorem mDraw_any (sb x n : Nat) (v : Int) (w : World) (h : StrM w sb x v) (h0 : 0 < n) (h1 : n ≤ 1000) : Calls Tryz.prog 20 #[.pointer (some ⟨sb, 0, none⟩), .int .i64 (n : Int)] w fun e w' => e = .returned (.int .i64 (drawN x n : Nat)) ∧ StrM w' sb (drawX x) v ∧ Only sb w w' := by
  obtain ⟨hb, hx⟩ := h
  have c0 := cell_at hb 0
  have f0 := free_at hb 0
  simp at c0
  have hl := lt_some hb
  have HB := Lib.hid hb
  clear hb
  go_enter Tryz.func20, Tryz.ntmps20
  go_wp2_with fail
  have hs := hset w sb 0 (.int .u64 (drawX x : Nat)) _ _ _ HB.out
  have e1 := draw_x x
  have e2 := draw_n x n h0
  rw [e1]
  refine bodyPost_ret (v := .int .i64 (drawN x n : Nat)) (by simp [results, Tryz.results20, go_sem, e2]) rfl ?_
  exact ⟨rfl, ⟨hs, Nat.mod_lt _ (by decide)⟩, Only.at _ _ _ _⟩
end Go.Proofs.YtgnilkjdpfbjgaaGreat
namespace Go.Proofs.YtgnilkjdpfbjgaaGreat
open Go.RowKit
set_option linter.unusedVariables false
/-- All that was and isn't in F stays. -/
structure Out (F : Nat → Prop) (w w' : World) : Prop where
  os : w'.os = w.os
  tape : w'.tape = w.tape
  output : w'.output = w.output
  size : w.heap.size ≤ w'.heap.size
  block : ∀ k, k < w.heap.size → ¬ F k → w'.heap[k]? = w.heap[k]?
theorem Out.refl (F : Nat → Prop) (w : World) : Out F w w := ⟨rfl, rfl, rfl, Nat.le_refl _, fun _ _ _ => rfl⟩
theorem Out.trans {F G : Nat → Prop} {a b c : World} (h : Out F a b) (k : Out G b c) (hG : ∀ x, G x → F x ∨ a.heap.size ≤ x) : Out F a c :=
  ⟨k.os.trans h.os, k.tape.trans h.tape, k.output.trans h.output, Nat.le_trans h.size k.size, fun i hi hF => (k.block i (by have := h.size; omega) (fun hg => by exact (hG i hg).elim hF (by omega))).trans (h.block i hi hF)⟩
theorem Out.mono {F G : Nat → Prop} {a b : World} (h : Out F a b) (hG : ∀ x, F x → G x ∨ a.heap.size ≤ x) : Out G a b := ⟨h.os, h.tape, h.output, h.size, fun i hi hn => h.block i hi (fun hf => by exact (hG i hf).elim hn (by omega))⟩
theorem Out.of {F : Nat → Prop} {a b : World} (h : Below a.heap.size a b) : Out F a b := ⟨h.os, h.tape, h.output, h.size, fun i hi _ => h.block i hi⟩
theorem Out.below {F : Nat → Prop} {B : Nat} {a b : World} (h : Out F a b) (hF : ∀ x, F x → B ≤ x) (hB : B ≤ a.heap.size) : Below B a b := ⟨h.os, h.tape, h.output, h.size, fun i hi => h.block i (by omega) (fun hf => by have := hF i hf; omega)⟩
theorem Out.keep {F : Nat → Prop} {a b : World} (h : Out F a b) {k : Nat} {o : Obj} (hk : a.heap[k]? = some o) (hn : ¬ F k) : b.heap[k]? = some o := (h.block k (lt_some hk) hn).trans hk
theorem Out.only {b : Nat} {F : Nat → Prop} {w w' : World} (h : Only b w w') (hF : F b) : Out F w w' := ⟨h.os, h.tape, h.output, by rw [h.size]; exact Nat.le_refl _, fun k _ hk => h.block k (fun e => hk (e ▸ hF))⟩
theorem Out.drewN {F : Nat → Prop} {a b : World} (h : Out F a b) (n : Nat) : Out F a (b.drewN n) := ⟨h.os, h.tape, h.output, h.size, h.block⟩
end Go.Proofs.YtgnilkjdpfbjgaaGreat
namespace Go.Proofs.YtgnilkjdpfbjgaaGreat
open Go.RowKit
set_option linter.unusedVariables false
def numW (n : Int) : WI := if n < 0 then ⟨true, 0, -n⟩ else ⟨false, 0, n⟩
set_option maxRecDepth 100000 in
theorem wOf_any (n : Int) (w : World) (h0 : -1000 ≤ n) (h1 : n ≤ 1000) : Calls Tryz.prog 97 #[.int .i64 n] w fun e w' => e = .returned (numW n).v ∧ Below w.heap.size w w' := by
  unfold numW
  by_cases h : n < 0
  · rw [if_pos h]
    have hm : WI.made true 0 (-n) = ⟨true, 0, -n⟩ := by
      unfold WI.made
      simp
      omega
    have hne : IntKind.u64.wrap (-IntKind.u64.wrap n) = -n := by rw [IntKind.wrap_u64, IntKind.wrap_u64]; omega
    go_enter Tryz.func97, Tryz.ntmps97
    go_wp2_with fail
    refine (wmade_any true 0 (-n) _ (by decide) (by decide) (by omega) (by omega)).mono ?_
    rintro e w1 ⟨rfl, hb1⟩
    rw [hm]
    have hq := keep hb1 (heap_alloc_new w _)
    have z0 := cell_at hq 0
    have z1 := cell_at hq 1
    have z2 := cell_at hq 2
    have f0 := free_at hq 0
    have f1 := free_at hq 1
    have f2 := free_at hq 2
    simp at z0 z1 z2
    have hbel := ((Below.refl _ w).alloc (Nat.le_refl _) (.cells #[.bool false, .int .u64 0, .int .u64 0] 109)).trans (hb1.mono (by simp))
    clear hb1 hq
    unfold WI.v
    dsimp only
    go_wp2_with fail
    refine bodyPost_ret (v := .agg #[.bool true, .int .u64 0, .int .u64 (-n)]) (by simp [results, Tryz.results97, go_sem, z0, z1, z2]) rfl ?_
    exact ⟨rfl, ((hbel.setCell (by simp) _).setCell (by simp) _).setCell (by simp) _⟩
  · rw [if_neg h]
    go_enter Tryz.func97, Tryz.ntmps97
    go_wp2_with fail
    refine (wofword_any n _).mono ?_
    rintro e w1 ⟨rfl, hb1⟩
    have hq := keep hb1 (heap_alloc_new w _)
    have z0 := cell_at hq 0
    have z1 := cell_at hq 1
    have z2 := cell_at hq 2
    have f0 := free_at hq 0
    have f1 := free_at hq 1
    have f2 := free_at hq 2
    simp at z0 z1 z2
    have hbel := ((Below.refl _ w).alloc (Nat.le_refl _) (.cells #[.bool false, .int .u64 0, .int .u64 0] 109)).trans (hb1.mono (by simp))
    clear hb1 hq
    unfold WI.v
    dsimp only
    go_wp2_with fail
    refine bodyPost_ret (v := .agg #[.bool false, .int .u64 0, .int .u64 n]) (by simp [results, Tryz.results97, go_sem, z0, z1, z2]) rfl ?_
    exact ⟨rfl, ((hbel.setCell (by simp) _).setCell (by simp) _).setCell (by simp) _⟩
/-- A part of an op, as told data. -/
structure PartT where
  comp : Int
  vals : List WI
def wiD (x : WI) : List Dat := [.v (.bool x.neg), .v (.int .u64 x.hi), .v (.int .u64 x.lo)]
def partD (p : PartT) : List Dat := [.v (.int .i64 p.comp), .r p.vals.length (p.vals.flatMap wiD)]
def partsD (l : List PartT) : Dat := .r l.length (l.flatMap partD)
/-- The types of an op's rows. -/
def TO : Nat → TypeId → Prop := fun _ t => t = 113 ∨ t = 109
def TN : Nat → TypeId → Prop := fun _ t => t = 109
def SF (sb : Nat) (w w' : World) : Prop := Out (fun q => q = sb) w w'
theorem SF.refl (sb : Nat) (w : World) : SF sb w w := Out.refl _ _
theorem SF.trans {sb : Nat} {a b c : World} (h : SF sb a b) (k : SF sb b c) : SF sb a c := Out.trans h k fun _ h => .inl h
theorem SF.of {sb : Nat} {a b : World} (h : Below a.heap.size a b) : SF sb a b := Out.of h
theorem SF.only {sb : Nat} {a b : World} (h : Only sb a b) : SF sb a b := Out.only h rfl
theorem SF.keep {sb : Nat} {a b : World} (h : SF sb a b) {k : Nat} {o : Obj} (hk : a.heap[k]? = some o) (hn : k ≠ sb) : b.heap[k]? = some o := Out.keep h hk hn
theorem SF.size {sb : Nat} {a b : World} (h : SF sb a b) : a.heap.size ≤ b.heap.size := Out.size h
theorem At.sf {sb x : Nat} {v : Int} {w w' : World} {T : Nat → TypeId → Prop} {d : Dat} {u : Value} (h : At w T d u) (hf : SF sb w w') (hs : StrM w sb x v) (hT : ¬ T sb 70) : At w' T d u :=
  h.kept (fun _ _ _ _ _ h => h) fun q cur t fz hq ht => hf.keep hq fun e => by subst e; rw [hs.1] at hq; cases hq; exact hT ht
theorem TO_no (sb : Nat) : ¬ TO sb 70 := by rintro (h | h) <;> exact absurd h (by decide)
/-- A handle. -/
def entM (d : Nat) : Int := 4294967297 + d
set_option maxRecDepth 100000 in
theorem entOf_one (d : Nat) (w : World) (h : d < 6) : Calls Tryz.prog 96 #[.int .i64 (1 + (d : Int)), .int .i64 1] w fun e w' => e = .returned (.int .u64 (entM d)) ∧ w = w' := by
  rcases (by omega : d = 0 ∨ d = 1 ∨ d = 2 ∨ d = 3 ∨ d = 4 ∨ d = 5) with rfl | rfl | rfl | rfl | rfl | rfl <;>
  · go_enter Tryz.func96, Tryz.ntmps96
    go_wp2_with fail
    go_ret
    exact ⟨rfl, rfl⟩
set_option maxRecDepth 100000 in
theorem mEnt_any (sb x : Nat) (v : Int) (w : World) (h : StrM w sb x v) : Calls Tryz.prog 61 #[.pointer (some ⟨sb, 0, none⟩)] w fun e w' => e = .returned (.int .u64 (entM (drawN x 6))) ∧ StrM w' sb (drawX x) v ∧ SF sb w w' := by
  have hd := drawN_lt x 6 (by decide)
  have H := Lib.hid h
  clear h
  go_enter Tryz.func61, Tryz.ntmps61
  go_wp2_with fail
  refine (mDraw_any sb x 6 v _ H.out (by decide) (by decide)).mono ?_
  rintro e w1 ⟨rfl, h1, ho⟩
  have H1 := Lib.hid (And.intro h1 ho)
  clear h1 ho
  go_wp2_with fail
  refine (entOf_one _ _ hd).mono ?_
  rintro e w2 ⟨rfl, rfl⟩
  go_wp2
  go_ret
  exact ⟨rfl, H1.out.1, SF.only H1.out.2⟩
def hpM (d : Nat) : PartT := ⟨1, [numW d]⟩
theorem numW_nat (d : Nat) : numW (d : Int) = ⟨false, 0, d⟩ := by unfold numW; rw [if_neg (by omega)]
set_option maxRecDepth 100000 in
set_option maxHeartbeats 1000000 in
theorem mHp_any (sb x : Nat) (v : Int) (w : World) (h : StrM w sb x v) : Calls Tryz.prog 62 #[.pointer (some ⟨sb, 0, none⟩)] w fun e w' => ∃ q, e = .returned (.agg #[.int .i64 1, .slice (some ⟨q, 0, none⟩) 1 1]) ∧ At w' TN (.r 1 [.v (.bool false), .v (.int .u64 0), .v (.int .u64 (drawN x 200 : Nat))]) (.slice (some ⟨q, 0, none⟩) 1 1) ∧ StrM w' sb (drawX x) v ∧ SF sb w w' := by
  have hd := drawN_lt x 200 (by decide)
  have hl := lt_some h.1
  have hs0 := h.below ((Below.refl _ w).alloc (Nat.le_refl _) (.cells #[.int .i64 0, .slice none 0 0] 113))
  have hr0 := heap_alloc_new w (.cells #[.int .i64 0, .slice none 0 0] 113)
  have hf0 : SF sb w (w.alloc (.cells #[.int .i64 0, .slice none 0 0] 113)) := SF.of ((Below.refl _ w).alloc (Nat.le_refl _) _)
  have H := Lib.hid (And.intro hs0 (And.intro hr0 hf0))
  clear h hs0 hr0 hf0
  go_enter Tryz.func62, Tryz.ntmps62
  go_wp2_with fail
  refine (mDraw_any sb x 200 v _ H.out.1 (by decide) (by decide)).mono ?_
  rintro e w1 ⟨rfl, h1, ho⟩
  have hr1 := keepO ho H.out.2.1 (by omega)
  have H1 := Lib.hid (And.intro h1 (And.intro hr1 (H.out.2.2.trans (SF.only ho))))
  clear h1 ho hr1
  go_wp2_with fail
  refine (wOf_any _ _ (by omega) (by omega)).mono ?_
  rintro e w2 ⟨rfl, hb2⟩
  rw [numW_nat]
  have hr2 := keep hb2 H1.out.2.1
  have z0 := cell_at hr2 0
  have z1 := cell_at hr2 1
  have f0 := free_at hr2 0
  have f1 := free_at hr2 1
  simp at z0 z1
  have hl2 := lt_some hr2
  have H2 := Lib.hid (And.intro (H1.out.1.below hb2) (And.intro hr2 (H1.out.2.2.trans (SF.of hb2))))
  clear hb2 hr2
  unfold WI.v
  dsimp only
  go_wp2_with fail
  refine bodyPost_ret (v := .agg #[.int .i64 1, .slice (some ⟨w2.heap.size, 0, none⟩) 1 1]) (by simp [results, Tryz.results62, go_sem, z0, z1, hl2]; try rfl) rfl ?_
  have hne : w.heap.size ≠ sb := by omega
  have hs := H2.out.1
  refine ⟨_, rfl, ?_, ?_, ?_⟩
  · exact at_block (xs := [.bool false, .int .u64 0, .int .u64 (drawN x 200 : Nat)]) (at_new (by simp [World.setCell])) rfl (by unfold maxLen; simp)
  · refine StrM.below ⟨?_, hs.2⟩ ((Below.refl _ _).alloc (Nat.le_refl _) _)
    rw [hset_ne _ _ _ _ (show sb ≠ w.heap.size by omega), hset_ne _ _ _ _ (show sb ≠ w.heap.size by omega)]
    exact hs.1
  · refine ⟨H2.out.2.2.os, H2.out.2.2.tape, H2.out.2.2.output, by have := H2.out.2.2.size; simp [World.setCell]; omega, fun k hk hn => ?_⟩
    rw [halloc, if_neg (by have := H2.out.2.2.size; simp [World.setCell]; omega), hset_ne _ _ _ _ (show k ≠ w.heap.size by omega), hset_ne _ _ _ _ (show k ≠ w.heap.size by omega)]
    exact H2.out.2.2.block k hk hn
end Go.Proofs.YtgnilkjdpfbjgaaGreat
namespace Go.Proofs.YtgnilkjdpfbjgaaGreat
open Go.RowKit
set_option linter.unusedVariables false
/-- An op, told. -/
structure OpM where
  kind : Int
  ent : Int
  comp : Int
  parts : List PartT
  al : Int
  no : Int
  ck : Int
  ce : Int
  cc : Int
  cp : List PartT
  units : Int
  bytes : ByteArray
def opC (o : OpM) (u u' : Value) : Array Value := #[.int .i64 o.kind, .int .u64 o.ent, .int .i64 o.comp, u, .int .u32 o.al, .int .u32 o.no, .int .i64 o.ck, .int .u64 o.ce, .int .i64 o.cc, u', .int .i64 o.units, .string o.bytes]
def IsOp (o : OpM) (w : World) (e : Ending) : Prop := ∃ a n c a' n' c', e = .returned (.agg (opC o (.slice a n c) (.slice a' n' c'))) ∧ At w TO (partsD o.parts) (.slice a n c) ∧ At w TO (partsD o.cp) (.slice a' n' c')
theorem Tryz.infoRO : (Tryz.prog.info? 61).map (·.size) = some 12 := by kernel_rfl
theorem opC_one (o : OpM) (a : Option Addr) (n c : Nat) (a' : Option Addr) (n' c' : Nat) : (opC o (.slice a n c) (.slice a' n' c')).all (·.oneCell') = true := by simp [opC, Value.oneCell']
theorem parts_nil (w : World) : At w TO (partsD []) (.slice none 0 0) := by
  unfold partsD At
  exact ⟨none, 0, rfl, Nat.le_refl _, Nat.zero_le _, .inl rfl⟩
theorem parts_one {w : World} {q : Nat} {p : PartT} {u : Value} (h : w.heap[q]? = some (.cells #[.int .i64 p.comp, u] 113 (0, 0))) (hu : At w TO (.r p.vals.length (p.vals.flatMap wiD)) u) : At w TO (partsD [p]) (.slice (some ⟨q, 0, none⟩) 1 1) := by
  unfold partsD At
  refine ⟨_, _, rfl, Nat.le_refl _, by unfold maxLen; simp, .inr ⟨q, 0, _, _, _, rfl, h, .inl rfl, AtL.mk fun i d hd => ?_⟩⟩
  have hi : i < 2 := (List.getElem?_eq_some_iff.1 hd).1
  rw [Nat.zero_add, cell_at h]
  rcases (by omega : i = 0 ∨ i = 1) with rfl | rfl <;> cases hd
  · exact ⟨_, rfl, by unfold At; rfl⟩
  · exact ⟨_, rfl, hu⟩
theorem setRow_get (w : World) (r : Nat) (old cells : Array Value) (t : TypeId) (fz : Nat × Nat) (h : w.heap[r]? = some (.cells old t fz)) : (w.setRow r cells).heap[r]? = some (.cells cells t fz) := setRow_heap w r old cells t fz h
theorem setRow_only (w : World) (r : Nat) (cells : Array Value) : Only r w (w.setRow r cells) := ⟨rfl, rfl, rfl, by simp [World.setRow], fun k hk => by
  unfold World.setRow
  simp [Array.getElem?_modify, Ne.symm hk]⟩
/-- What is left where only the result has been stored. -/
theorem op_fin {sb x r : Nat} {v : Int} {w W WX : World} {cur : Array Value} (hw : r = w.heap.size) (hsb : sb < w.heap.size) (hr : W.heap[r]? = some (.cells cur 61 (0, 0))) (hs : StrM W sb x v) (hf : SF sb w W) (ho : Only r W WX) :
    StrM WX sb x v ∧ SF sb w WX ∧ (∀ d u, At W TO d u → At WX TO d u) := by
  refine ⟨⟨keepO ho hs.1 (by omega), hs.2⟩, ?_, fun d u h => h.only ho hr (by rintro (h | h) <;> exact absurd h (by decide))⟩
  exact Out.trans hf (Out.only (F := fun q => q = r) ho rfl) fun q hq => .inr (by omega)
def opZ : Array Value := #[.int .i64 0, .int .u64 0, .int .i64 0, .slice none 0 0, .int .u32 0, .int .u32 0, .int .i64 0, .int .u64 0, .int .i64 0, .slice none 0 0, .int .i64 0, .string ByteArray.empty]
set_option maxRecDepth 100000 in
set_option maxHeartbeats 2000000 in
theorem mWait_1 (sb x : Nat) (v : Int) (w : World) (h : StrM w sb x v) (hd : drawN x 2 = 1) : Calls Tryz.prog 63 #[.pointer (some ⟨sb, 0, none⟩)] w fun e w' => IsOp ⟨8, 0, 0, [], 0, 0, 4, entM (drawN (drawX x) 6), 0, [hpM (drawN (drawX (drawX x)) 200)], 0, ByteArray.empty⟩ w' e ∧ StrM w' sb (drawX (drawX (drawX x))) v ∧ SF sb w w' := by
  have hl := lt_some h.1
  have hs0 := h.below ((Below.refl _ w).alloc (Nat.le_refl _) (.cells opZ 61))
  have hr0 := heap_alloc_new w (.cells opZ 61)
  have hf0 : SF sb w (w.alloc (.cells opZ 61)) := SF.of ((Below.refl _ w).alloc (Nat.le_refl _) _)
  unfold opZ at hs0 hr0 hf0
  have H := Lib.hid (And.intro hs0 (And.intro hr0 hf0))
  clear h hs0 hr0 hf0
  go_enter Tryz.func63, Tryz.ntmps63
  go_wp2_with fail
  refine (mDraw_any sb x 2 v _ H.out.1 (by decide) (by decide)).mono ?_
  rintro e w1 ⟨rfl, h1, ho⟩
  rw [hd]
  have H1 := Lib.hid (And.intro h1 (And.intro (keepO ho H.out.2.1 (by omega)) (H.out.2.2.trans (SF.only ho))))
  clear h1 ho H
  go_wp2_with fail
  refine (mEnt_any sb _ v _ H1.out.1).mono ?_
  rintro e w2 ⟨rfl, h2, hf2⟩
  have H2 := Lib.hid (And.intro h2 (And.intro (hf2.keep H1.out.2.1 (by omega)) (H1.out.2.2.trans hf2)))
  clear h2 hf2 H1
  go_wp2_with fail
  refine (mHp_any sb _ v _ H2.out.1).mono ?_
  rintro e w3 ⟨q, rfl, hat, h3, hf3⟩
  have hr3 := hf3.keep H2.out.2.1 (by omega)
  have H3 := Lib.hid (And.intro h3 (And.intro hr3 (And.intro (H2.out.2.2.trans hf3) hat)))
  clear h3 hf3 hat H2
  have hl3 := lt_some hr3
  have hr4 := keepA (.cells #[.int .i64 1, .slice (some ⟨q, 0, none⟩) 1 1] 113) hr3
  have HR4 := Lib.hid hr4
  have HT := Lib.hid (setRow_get _ _ _ (opC ⟨8, 0, 0, [], 0, 0, 4, entM (drawN (drawX x) 6), 0, [hpM (drawN (drawX (drawX x)) 200)], 0, ByteArray.empty⟩ (.slice none 0 0) (.slice (some ⟨w3.heap.size, 0, none⟩) 1 1)) _ _ hr4)
  clear hr3 hr4
  go_wp2_with ((refine wpList_store_row rfl 61 (.tmp 2) (.tmp 14) rfl w.heap.size (opC ⟨8, 0, 0, [], 0, 0, 4, entM (drawN (drawX x) 6), 0, [hpM (drawN (drawX (drawX x)) 200)], 0, ByteArray.empty⟩ (.slice none 0 0) (.slice (some ⟨w3.heap.size, 0, none⟩) 1 1)) rfl rfl 61 _ HR4.out Tryz.infoRO rfl (opC_one _ _ _ _ _ _ _) ?_))
  refine bodyPost_ret (results_cell_row rfl _ _ w.heap.size 61 _ (0, 0) _ rfl HT.out Tryz.underlying61 rfl Tryz.infoRO) rfl ?_
  have hbA := (Below.refl w3.heap.size w3).alloc (Nat.le_refl _) (.cells #[.int .i64 1, .slice (some ⟨q, 0, none⟩) 1 1] 113)
  obtain ⟨e1, e2, e3⟩ := op_fin rfl hl HR4.out (H3.out.1.below hbA) (H3.out.2.2.1.trans (SF.of hbA)) (setRow_only _ _ _)
  refine ⟨⟨_, _, _, _, _, _, rfl, parts_nil _, e3 _ _ ?_⟩, e1, e2⟩
  exact parts_one (p := hpM _) (heap_alloc_new _ _) (by unfold hpM; rw [numW_nat]; exact (H3.out.2.2.2.below hbA).types fun _ _ _ _ _ h => .inr h)
end Go.Proofs.YtgnilkjdpfbjgaaGreat
