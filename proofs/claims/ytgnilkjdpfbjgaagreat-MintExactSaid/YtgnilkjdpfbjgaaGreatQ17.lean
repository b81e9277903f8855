/- The reference's draws, numbers and schema: 34 draw, num, Caps, Schema. · The reference's schema: 34 Schema. · The reference's systems: 34 Systems. · Contracts of retrofitref04.Bytes, retrofitref07.Name. -/
import Derived.Test.YtgnilkjdpfbjgaaGreatQ14
import Derived.Deep.QuietTactic
import Derived.BigQuiet
import Derived.Test.YtgnilkjdpfbjgaaGreatQ2
namespace Go.Proofs.YtgnilkjdpfbjgaaGreat
open Go.RowKit
set_option linter.unusedVariables false
theorem drawX_lt (x : Nat) : drawX x < 18446744073709551616 := Nat.mod_lt _ (by decide)
set_option maxRecDepth 100000 in
theorem draw34_v (x n y d : Nat) (w : World) (hx : x < 18446744073709551616) (h0 : 0 < n) (h1 : n ≤ 1000) (ey : drawX x = y) (ed : drawN x n = d) :
    Calls Tryz.prog 29 #[.int .u64 (x : Int), .int .i64 (n : Int)] w fun e w' => e = .returned (.tuple #[.int .u64 (y : Int), .int .i64 (d : Int)]) ∧ Below w.heap.size w w' := by
  have e1 := draw_x x
  have e4 : (y : Int) / 8589934592 % (n : Int) = (d : Int) := by
    rw [← ed]
    unfold drawN
    rw [ey]
    simp
  rw [ey] at e1
  have hy : y < 18446744073709551616 := ey ▸ drawX_lt x
  have e3 : IntKind.u64.wrap ((y : Int) / 8589934592) = (y : Int) / 8589934592 := by rw [IntKind.wrap_u64]; omega
  have hn0 : (n : Int) ≠ 0 := by omega
  have hb0 := Lib.hid (Below.refl w.heap.size w)
  have E4 := Lib.hid e4
  clear ey ed e4
  go_enter Tryz.func29, Tryz.ntmps29
  go_wp2_with fail
  clear e1
  generalize IntKind.u64.wrap ((x : Int) * 6364136223846793005) = zz
  go_quiet (fail)
  go_wp2_with fail
  go_returns
  exact ⟨by rw [← E4.out]; rfl, below_drewN hb0.out _⟩
set_option maxRecDepth 100000 in
theorem caps34_v (seed : Int) (x0 x1 x2 x3 x4 a b c d : Nat) (w : World) (hx0 : (seed % 18446744073709551616).toNat = x0) (e1 : drawX x0 = x1) (ea : drawN x0 8 = a) (e2 : drawX x1 = x2) (eb : drawN x1 4 = b) (e3 : drawX x2 = x3) (ec : drawN x2 100 = c) (e4 : drawX x3 = x4) (ed : drawN x3 3 = d) :
    Calls Tryz.prog 15 #[.int .i64 seed] w fun e w' => e = .returned (.agg #[.int .i64 (4 + (a : Int)), .int .i64 (3 + (b : Int)), .int .i64 6, .int .i64 4, .int .i64 (40 + (c : Int)), .int .i64 (1 + (d : Int))]) ∧ Below w.heap.size w w' := by
  have hx : x0 < 18446744073709551616 := by omega
  have hs : IntKind.u64.wrap seed = (x0 : Int) := by rw [IntKind.wrap_u64]; omega
  have hx1 : x1 < 18446744073709551616 := e1 ▸ drawX_lt x0
  have hx2 : x2 < 18446744073709551616 := e2 ▸ drawX_lt x1
  have hx3 : x3 < 18446744073709551616 := e3 ▸ drawX_lt x2
  have ha : a < 8 := ea ▸ drawN_lt x0 8 (by decide)
  have hb : b < 4 := eb ▸ drawN_lt x1 4 (by decide)
  have hc : c < 100 := ec ▸ drawN_lt x2 100 (by decide)
  have hd : d < 3 := ed ▸ drawN_lt x3 3 (by decide)
  have K1 := Lib.hid (fun W => draw34_v x0 8 x1 a W hx (by decide) (by decide) e1 ea)
  have K2 := Lib.hid (fun W => draw34_v x1 4 x2 b W hx1 (by decide) (by decide) e2 eb)
  have K3 := Lib.hid (fun W => draw34_v x2 100 x3 c W hx2 (by decide) (by decide) e3 ec)
  have K4 := Lib.hid (fun W => draw34_v x3 3 x4 d W hx3 (by decide) (by decide) e4 ed)
  have HB0 := Lib.hid ((Below.refl w.heap.size w).alloc (Nat.le_refl _) (.cells #[.int .i64 0, .int .i64 0, .int .i64 0, .int .i64 0, .int .i64 0, .int .i64 0] 28))
  have HQ0 := Lib.hid (heap_alloc_new w (.cells #[.int .i64 0, .int .i64 0, .int .i64 0, .int .i64 0, .int .i64 0, .int .i64 0] 28))
  clear e1 e2 e3 e4 ea eb ec ed hx0
  go_enter Tryz.func15, Tryz.ntmps15
  go_wp2_with fail
  refine (K1.out _).mono ?_
  rintro e w1 ⟨rfl, hb1⟩
  have HQ1 := Lib.hid (keep hb1 HQ0.out)
  have HB1 := Lib.hid (HB0.out.trans (hb1.mono HB0.out.size))
  clear hb1
  go_wp2_with fail
  refine (K2.out _).mono ?_
  rintro e w2 ⟨rfl, hb1⟩
  have HQ2 := Lib.hid (keep hb1 HQ1.out)
  have HB2 := Lib.hid (HB1.out.trans (hb1.mono HB1.out.size))
  clear hb1
  go_wp2_with fail
  refine (K3.out _).mono ?_
  rintro e w3 ⟨rfl, hb1⟩
  have HQ3 := Lib.hid (keep hb1 HQ2.out)
  have HB3 := Lib.hid (HB2.out.trans (hb1.mono HB2.out.size))
  clear hb1
  go_wp2_with fail
  refine (K4.out _).mono ?_
  rintro e w4 ⟨rfl, hb1⟩
  have HQ4 := Lib.hid (keep hb1 HQ3.out)
  have HB4 := Lib.hid (HB3.out.trans (hb1.mono HB3.out.size))
  clear hb1
  have z := fun o => cell_at HQ4.out o
  have z0 := z 0
  have z1 := z 1
  have z2 := z 2
  have z3 := z 3
  have z4 := z 4
  have z5 := z 5
  have y := fun o => free_at HQ4.out o
  have y0 := y 0
  have y1 := y 1
  have y2 := y 2
  have y3 := y 3
  have y4 := y 4
  have y5 := y 5
  simp at z0 z1 z2 z3 z4 z5
  have hl := lt_some HQ4.out
  clear z y
  go_wp2_with fail
  refine bodyPost_ret (v := .agg #[.int .i64 (4 + (a : Int)), .int .i64 (3 + (b : Int)), .int .i64 6, .int .i64 4, .int .i64 (40 + (c : Int)), .int .i64 (1 + (d : Int))]) (by simp [results, Tryz.results15, go_sem, z0, z1, z2, z3, z4, z5]; try rfl) rfl ?_
  exact ⟨rfl, (((((HB4.out.setCell (by simp) _).setCell (by simp) _).setCell (by simp) _).setCell (by simp) _).setCell (by simp) _).setCell (by simp) _⟩
end Go.Proofs.YtgnilkjdpfbjgaaGreat
namespace Go.Proofs.YtgnilkjdpfbjgaaGreat
open Go.RowKit
set_option linter.unusedVariables false
/-- The world ahead of the third component. -/
def sW (w : World) (kd : Int) : World := ((((w.alloc (.cells #[.int .i64 0, .slice none 0 0] 25)).alloc (.cells #[.string sN, .int .i64 kd, .int .i64 1] 64)).alloc (.cells #[.string sX, .int .i64 3, .int .i64 1, .string sY, .int .i64 3, .int .i64 1] 64)).alloc (.cells (mCells (w.heap.size + 1) (w.heap.size + 1 + 1)).toArray 67)).alloc (.cells tCells.toArray 67)
theorem s_row (w : World) (kd : Int) : (sW w kd).ownsRow w.heap.size 67 3 (.slice (some ⟨w.heap.size + 1 + 1 + 1, 0, none⟩) 2 2) 2 (mCells (w.heap.size + 1) (w.heap.size + 1 + 1)) :=
  ⟨rfl, .inr ⟨w.heap.size + 1 + 1 + 1, 2, _, rfl, by omega, keepA _ (at_new (by simp)), Nat.le_refl _, by unfold maxLen; omega, rfl, rfl⟩⟩
theorem s_new (w : World) (kd : Int) : ∀ j u, tCells[j]? = some u → (sW w kd).cell? ((⟨w.heap.size + 1 + 1 + 1 + 1, 0, none⟩ : Addr).add j) = some u :=
  World.news_of_block (cs := tCells.toArray) (t := 67) (fr := (0, 0)) (at_new (by simp))
theorem s_post (w w2 : World) (kd : Int) (v' : Value) (ho : w2.ownsRow w.heap.size 67 3 v' 3 (mCells (w.heap.size + 1) (w.heap.size + 1 + 1) ++ tCells)) (hg : (sW w kd).grownBy w2 (Value.slice (some ⟨w.heap.size + 1 + 1 + 1, 0, none⟩) 2 2).ownBlock) :
    ∃ g c, v' = .slice (some ⟨g, 0, none⟩) 3 c ∧ w2.heap[w.heap.size]? = some (.cells #[.int .i64 0, .slice none 0 0] 25 (0, 0)) ∧ Below w.heap.size w w2 ∧
      ∀ (x1 x2 : Value), CompsAt w2.heap.size ((w2.setCell ⟨w.heap.size, 0, none⟩ x1).setCell ⟨w.heap.size, 1, none⟩ x2) (some ⟨g, 0, none⟩) 3 [cHp kd, cPos, cTag] := by
  obtain ⟨va, vc, rfl⟩ := ownsRow_slice ho
  obtain ⟨g, rfl, _, hgl, hcell⟩ := row_block ho (by decide)
  obtain ⟨cur, hcur⟩ := row_type1 ho (q := g) rfl
  have ne : ∀ (b : Nat) (cur : Array Value) (t : TypeId), (sW w kd).heap[b]? = some (.cells cur t (0, 0)) → t ≠ 67 → some b ≠ (Value.slice (some ⟨w.heap.size + 1 + 1 + 1, 0, none⟩) 2 2).ownBlock := fun b cur t hb ht => ownsRow_ne_block3 (s_row w kd) hb (fun cur' he => by cases he; exact ht rfl)
  have k0 : (sW w kd).heap[w.heap.size]? = some (.cells #[.int .i64 0, .slice none 0 0] 25 (0, 0)) := keepA _ (keepA _ (keepA _ (keepA _ (at_new rfl))))
  have k2 : (sW w kd).heap[w.heap.size + 1]? = some (.cells #[.string sN, .int .i64 kd, .int .i64 1] 64 (0, 0)) := keepA _ (keepA _ (keepA _ (at_new (by simp))))
  have k3 : (sW w kd).heap[w.heap.size + 1 + 1]? = some (.cells #[.string sX, .int .i64 3, .int .i64 1, .string sY, .int .i64 3, .int .i64 1] 64 (0, 0)) := keepA _ (keepA _ (at_new (by simp)))
  have g0 := keepG hg k0 (ne _ _ _ k0 (by decide))
  have g2 := keepG hg k2 (ne _ _ _ k2 (by decide))
  have g3 := keepG hg k3 (ne _ _ _ k3 (by decide))
  refine ⟨g, vc, rfl, g0, ?_, fun x1 x2 => ?_⟩
  · have hb : Below w.heap.size w (sW w kd) := by unfold sW; go_grown
    exact hb.grown hg hb.size (fun x hx => by simp [Value.ownBlock] at hx; omega)
  · have s : ∀ (b : Nat) (cur : Array Value) (t : TypeId), w2.heap[b]? = some (.cells cur t (0, 0)) → t ≠ 25 → ((w2.setCell ⟨w.heap.size, 0, none⟩ x1).setCell ⟨w.heap.size, 1, none⟩ x2).heap[b]? = some (.cells cur t (0, 0)) := fun b cur t hb ht => by
      have n1 : b ≠ w.heap.size := fun e => by subst e; rw [g0] at hb; cases hb; exact ht rfl
      rw [hset_ne _ _ _ _ (show b ≠ w.heap.size from n1), hset_ne _ _ _ _ (show b ≠ w.heap.size from n1)]
      exact hb
    have sc := s g cur 67 hcur (by decide)
    have := mint_at (s _ _ _ g2 (by decide)) (s _ _ _ g3 (by decide)) true (g := g) (fun j u hu => by
      have := hcell j u hu
      rw [cell_at hcur] at this
      rw [cell_at sc]
      exact this) sc
    have hsz : ((w2.setCell ⟨w.heap.size, 0, none⟩ x1).setCell ⟨w.heap.size, 1, none⟩ x2).heap.size = w2.heap.size := by simp [World.setCell]
    rw [hsz] at this
    exact this.1
set_option maxRecDepth 100000 in
theorem schema34_no (v : Int) (w : World) (h : verB v = false) : Calls Tryz.prog 9 #[.int .i64 v] w fun e w' => e = .returned (.agg #[.int .i64 0, .slice none 0 0]) ∧ Below w.heap.size w w' := by
  rcases (by unfold verB at h; simp at h; omega : v < 1 ∨ (1 ≤ v ∧ 1073741824 < v)) with h | ⟨h, h1⟩
  all_goals
    go_enter Tryz.func9, Tryz.ntmps9
    go_wp2_with fail
    refine bodyPost_ret (v := .agg #[.int .i64 0, .slice none 0 0]) (by simp [results, Tryz.results9, go_sem]; try rfl) rfl ?_
    exact ⟨rfl, by go_grown⟩
set_option maxRecDepth 100000 in
set_option maxHeartbeats 1000000 in
theorem schema34_yes (v : Int) (w : World) (h : verB v = true) : Calls Tryz.prog 9 #[.int .i64 v] w fun e w' => ∃ q c, e = .returned (.agg #[.int .i64 v, .slice (some ⟨q, 0, none⟩) (mintC v).length c]) ∧ CompsAt w'.heap.size w' (some ⟨q, 0, none⟩) (mintC v).length (mintC v) ∧ Below w.heap.size w w' := by
  have hv : 1 ≤ v ∧ v ≤ 1073741824 := by
    unfold verB at h
    simpa using h
  obtain ⟨v0, v1⟩ := hv
  have h3 : v % 3 = 0 ∨ v % 3 = 1 ∨ v % 3 = 2 := by omega
  have hk0 : hpKind v = 3 ∧ v % 3 = 0 ∨ hpKind v = 6 ∧ v % 3 = 1 ∨ hpKind v = 4 ∧ v % 3 = 2 := by
    unfold hpKind
    rcases h3 with e | e | e <;> rw [e] <;> simp
  have e3 : v.tmod 3 = v % 3 := Int.tmod_eq_emod_of_nonneg (by omega)
  have e2 : v.tmod 2 = v % 2 := Int.tmod_eq_emod_of_nonneg (by omega)
  clear h
  rcases (by omega : v % 2 = 0 ∨ v % 2 = 1) with hr | hr
  · have hC : mintC v = [cHp (hpKind v), cPos, cTag] := by unfold mintC; rw [if_pos hr]
    obtain ⟨i0, hiI, hzA, hzB, hzC⟩ := info_parts Tryz.infoCm
    rw [hC]
    generalize hpKind v = kd at *
    clear hC h3
    rw [hr] at e2
    rcases hk0 with ⟨rfl, hm⟩ | ⟨rfl, hm⟩ | ⟨rfl, hm⟩
    all_goals
      rw [hm] at e3
      clear hm hr
      go_enter Tryz.func9, Tryz.ntmps9
      go_wp2_with (at_builtin; go_loud (refine wpList_append_own _ rfl (.tmp 30) (.tmp 32) 23 rfl w.heap.size 67 i0 _ 3 48 Tryz.underlying23 hiI hzA hzB hzC rfl (by decide) (.slice (some ⟨w.heap.size + 1 + 1 + 1, 0, none⟩) 2 2) 2 (mCells (w.heap.size + 1) (w.heap.size + 1 + 1)) rfl ?c0 ⟨w.heap.size + 1 + 1 + 1 + 1, 0, none⟩ 1 1 tCells rfl rfl ?c1 ?c2 ?c3 ?c4 ?c5 ?_))
      case c0 => exact s_row w _
      case c1 => exact s_new w _
      case c2 => intro u hu; simp [tCells] at hu; rcases hu with rfl | rfl | rfl <;> rfl
      case c3 => unfold maxLen; omega
      case c4 => omega
      case c5 => simp; omega
      intro v' w2 hown2 hg2 _
      obtain ⟨g, c', rfl, g0, hbel, hfin⟩ := s_post w w2 _ v' hown2 hg2
      have x0 := cell_at g0 0
      have x1 := cell_at g0 1
      have fx0 := free_at g0 0
      have fx1 := free_at g0 1
      simp at x0 x1
      have hl0 := lt_some g0
      have HF := Lib.hid hfin
      have HB := Lib.hid hbel
      clear hfin hbel hown2 hg2 g0
      go_wp2_with fail
      refine bodyPost_ret (v := .agg #[.int .i64 v, .slice (some ⟨g, 0, none⟩) 3 c']) (by simp [results, Tryz.results9, go_sem, x0, x1]; try rfl) rfl ?_
      have := HF.out (.int .i64 v) (.slice (some ⟨g, 0, none⟩) 3 c')
      exact ⟨_, _, rfl, this.mono (by simp [World.setCell]), (HB.out.setCell (by simp) _).setCell (by simp) _⟩
  · have hC : mintC v = [cHp (hpKind v), cPos] := by unfold mintC; rw [if_neg (by omega)]
    rw [hC]
    generalize hpKind v = kd at *
    clear hC h3
    rw [hr] at e2
    rcases hk0 with ⟨rfl, hm⟩ | ⟨rfl, hm⟩ | ⟨rfl, hm⟩
    all_goals
      rw [hm] at e3
      clear hm hr
      go_enter Tryz.func9, Tryz.ntmps9
      go_wp2_with fail
      refine bodyPost_ret (v := .agg #[.int .i64 v, .slice (some ⟨w.heap.size + 1 + 1 + 1, 0, none⟩) 2 2]) (by simp [results, Tryz.results9, go_sem]; try rfl) rfl ?_
      have hb : ∀ W : World, W.heap[w.heap.size + 1 + 1 + 1]? = some (.cells (mCells (w.heap.size + 1) (w.heap.size + 1 + 1)).toArray 67 (0, 0)) → ∀ j u, (mCells (w.heap.size + 1) (w.heap.size + 1 + 1) ++ if false then tCells else [])[j]? = some u → W.cell? ⟨w.heap.size + 1 + 1 + 1, j, none⟩ = some u := fun W h j u hu => by
        rw [cell_at h]
        simpa using hu
      refine ⟨_, _, rfl, ?_, by go_grown⟩
      exact (mint_at (q1 := w.heap.size + 1) (q2 := w.heap.size + 1 + 1) (keepA _ (keepA _ (at_new (by simp)))) (keepA _ (at_new (by simp))) false (hb _ (at_new (by simp))) (at_new (by simp))).1
end Go.Proofs.YtgnilkjdpfbjgaaGreat
namespace Go.Proofs.YtgnilkjdpfbjgaaGreat
open Go.RowKit
set_option linter.unusedVariables false
/-- The types of the reference's rows of systems. -/
def TRS : Nat → TypeId → Prop := fun _ t => t = 81 ∨ t = 9 ∨ t = 85
/-- Two systems of the reference in a block. -/
theorem rsyss_two {W : World} {q : Nat} {s1 s2 : SysT} {a1 c1 a2 c2 : Value} (h : W.heap[q]? = some (.cells #[.string s1.name, .int .i64 s1.stage, a1, .int .u32 s1.al, .int .u32 s1.no, c1, .string s2.name, .int .i64 s2.stage, a2, .int .u32 s2.al, .int .u32 s2.no, c2] 81 (0, 0)))
    (h1 : At W TRS (strsD s1.after) a1) (h2 : At W TRS (opsD s1.code) c1) (h3 : At W TRS (strsD s2.after) a2) (h4 : At W TRS (opsD s2.code) c2) : At W TRS (syssD [s1, s2]) (.slice (some ⟨q, 0, none⟩) 2 2) := by
  unfold syssD At
  refine ⟨_, _, rfl, Nat.le_refl _, by unfold maxLen; simp, .inr ⟨q, 0, _, _, _, rfl, h, .inl rfl, AtL.mk fun i d hd => ?_⟩⟩
  have hi : i < 12 := (List.getElem?_eq_some_iff.1 hd).1
  rw [Nat.zero_add, cell_at h]
  rcases (by omega : i = 0 ∨ i = 1 ∨ i = 2 ∨ i = 3 ∨ i = 4 ∨ i = 5 ∨ i = 6 ∨ i = 7 ∨ i = 8 ∨ i = 9 ∨ i = 10 ∨ i = 11) with rfl | rfl | rfl | rfl | rfl | rfl | rfl | rfl | rfl | rfl | rfl | rfl <;> cases hd
  · exact ⟨_, rfl, by unfold At; rfl⟩
  · exact ⟨_, rfl, by unfold At; rfl⟩
  · exact ⟨_, rfl, h1⟩
  · exact ⟨_, rfl, by unfold At; rfl⟩
  · exact ⟨_, rfl, by unfold At; rfl⟩
  · exact ⟨_, rfl, h2⟩
  · exact ⟨_, rfl, by unfold At; rfl⟩
  · exact ⟨_, rfl, by unfold At; rfl⟩
  · exact ⟨_, rfl, h3⟩
  · exact ⟨_, rfl, by unfold At; rfl⟩
  · exact ⟨_, rfl, by unfold At; rfl⟩
  · exact ⟨_, rfl, h4⟩
set_option maxRecDepth 100000 in
theorem systems34_no (v : Int) (w : World) (h : verB v = false) : Calls Tryz.prog 12 #[.int .i64 v] w fun e w' => e = .returned (.slice none 0 0) ∧ Below w.heap.size w w' := by
  rcases (by unfold verB at h; simp at h; omega : v < 1 ∨ (1 ≤ v ∧ 1073741824 < v)) with h | ⟨h, h1⟩
  all_goals
    go_enter Tryz.func12, Tryz.ntmps12
    go_wp2_with fail
    go_ret
    exact ⟨rfl, by go_grown⟩
set_option maxRecDepth 100000 in
set_option maxHeartbeats 1000000 in
theorem systems34_yes (v : Int) (w : World) (h : verB v = true) : Calls Tryz.prog 12 #[.int .i64 v] w fun e w' => ∃ u, e = .returned u ∧ At w' TRS (syssD (mintS v)) u ∧ Below w.heap.size w w' := by
  have hv : 1 ≤ v ∧ v ≤ 1073741824 := by
    unfold verB at h
    simpa using h
  obtain ⟨v0, v1⟩ := hv
  have e7 : v.tmod 7 = v % 7 := Int.tmod_eq_emod_of_nonneg (by omega)
  have h7 : 0 ≤ v % 7 ∧ v % 7 < 7 := by omega
  have hS0 : ∀ m, v % 7 = m → mintS v = [⟨sAge, 0, [], 2, 0, [⟨2, 1, 0, 0, 0⟩, ⟨1, 0, 0, 0, m⟩, ⟨4, 0, 0, 0, 0⟩, ⟨3, 1, 0, 0, 0⟩]⟩, ⟨sMove, 0, [sAge], 4, 0, [⟨2, 2, 0, 0, 0⟩, ⟨2, 2, 1, 0, 0⟩, ⟨4, 0, 0, 0, 0⟩, ⟨3, 2, 0, 0, 0⟩]⟩] := fun m hm => by
    unfold mintS sysAge sysMove
    rw [hm]
  have HS := Lib.hid (hS0 _ rfl)
  generalize v % 7 = m at *
  clear hS0 h
  go_enter Tryz.func12, Tryz.ntmps12
  go_wp2_with fail
  go_ret
  refine ⟨_, rfl, ?_, by go_grown⟩
  rw [HS.out]
  refine rsyss_two (at_new (by simp)) ?_ ?_ ?_ ?_
  · unfold strsD At
    exact ⟨none, 0, rfl, Nat.le_refl _, Nat.zero_le _, .inl rfl⟩
  · exact at_block (xs := [.int .i64 2, .int .i64 1, .int .i64 0, .int .i64 0, .int .i64 0, .int .i64 1, .int .i64 0, .int .i64 0, .int .i64 0, .int .i64 m, .int .i64 4, .int .i64 0, .int .i64 0, .int .i64 0, .int .i64 0, .int .i64 3, .int .i64 1, .int .i64 0, .int .i64 0, .int .i64 0]) (keepA _ (keepA _ (keepA _ (at_new rfl)))) (.inr (.inr rfl)) (by unfold maxLen; simp)
  · rw [strs_vals]
    exact at_block (xs := [.string sAge]) (keepA _ (keepA _ (at_new (by simp)))) (.inr (.inl rfl)) (by unfold maxLen; simp)
  · exact at_block (xs := [.int .i64 2, .int .i64 2, .int .i64 0, .int .i64 0, .int .i64 0, .int .i64 2, .int .i64 2, .int .i64 1, .int .i64 0, .int .i64 0, .int .i64 4, .int .i64 0, .int .i64 0, .int .i64 0, .int .i64 0, .int .i64 3, .int .i64 2, .int .i64 0, .int .i64 0, .int .i64 0]) (keepA _ (at_new (by simp))) (.inr (.inr rfl)) (by unfold maxLen; simp)
end Go.Proofs.YtgnilkjdpfbjgaaGreat
namespace Go.Proofs.YtgnilkjdpfbjgaaGreat
open Go.RowKit
set_option linter.unusedVariables false
def bytesA : Array Value := #[.int .i64 0, .int .i64 1, .int .i64 1, .int .i64 2, .int .i64 4, .int .i64 8, .int .i64 1, .int .i64 2, .int .i64 4, .int .i64 8, .int .i64 8]
theorem bytesA_get {k : Int} (h1 : 1 ≤ k) (h2 : k ≤ 10) : bytesA[k.toNat]? = some (.int .i64 (kSize k)) := by
  rcases (by omega : k = 1 ∨ k = 2 ∨ k = 3 ∨ k = 4 ∨ k = 5 ∨ k = 6 ∨ k = 7 ∨ k = 8 ∨ k = 9 ∨ k = 10) with rfl | rfl | rfl | rfl | rfl | rfl | rfl | rfl | rfl | rfl <;> rfl
set_option maxRecDepth 100000 in
theorem bytes04_any (k : Int) (w : World) : Calls Tryz.prog 113 #[.int .i64 k] w fun e w' => e = .returned (.int .i64 (kSize k)) ∧ Below w.heap.size w w' := by
  rcases (by omega : k < 1 ∨ (1 ≤ k ∧ 10 < k) ∨ (1 ≤ k ∧ k ≤ 10)) with h | ⟨h, h'⟩ | ⟨h, h'⟩
  · have H : Hid (kSize k = 0) := Lib.hid (kSize_zero (by omega))
    go_enter Tryz.func113, Tryz.ntmps113
    go_wp2
    go_ret
    exact ⟨by rw [H.out]; rfl, Below.refl _ _⟩
  · have H : Hid (kSize k = 0) := Lib.hid (kSize_zero (by omega))
    go_enter Tryz.func113, Tryz.ntmps113
    go_wp2
    go_ret
    exact ⟨by rw [H.out]; rfl, Below.refl _ _⟩
  · have hc : (w.alloc (.cells bytesA 233)).cell? ⟨w.heap.size, k.toNat, none⟩ = some (.int .i64 (kSize k)) := (cell_at (heap_alloc_new w _) _).trans (bytesA_get h h')
    have h0 : 0 ≤ k := by omega
    have h11 : k < 11 := by omega
    have HG : Hid (Below w.heap.size w (w.alloc (.cells bytesA 233))) := Lib.hid (by go_grown)
    unfold bytesA at hc
    generalize kSize k = q at *
    go_enter Tryz.func113, Tryz.ntmps113
    go_wp2
    go_ret
    exact ⟨rfl, HG.out⟩
set_option maxRecDepth 100000 in
set_option maxHeartbeats 1000000 in
theorem name07_any (s : ByteArray) (w : World) (hs : s.size ≤ maxLen) : Calls Tryz.prog 88 #[.string s] w fun e w' => e = .returned (.bool (isNameB s)) ∧ w = w' := by
  unfold maxLen at hs
  by_cases h0 : s.size = 0
  · have H := Lib.hid (isName_long (.inl h0))
    have t0 : (s.size : Int) < 1 := by omega
    clear h0
    go_enter Tryz.func88, Tryz.ntmps88
    go_wp2
    go_ret
    exact ⟨ret_bool H.out.symm, rfl⟩
  · by_cases h1 : 12 < s.size
    · have H := Lib.hid (isName_long (.inr h1))
      have t0 : ¬ (s.size : Int) < 1 := by omega
      have t1 : (12 : Int) < (s.size : Int) := by omega
      clear h0 h1
      go_enter Tryz.func88, Tryz.ntmps88
      go_wp2
      go_ret
      exact ⟨ret_bool H.out.symm, rfl⟩
    · have t0 : ¬ (s.size : Int) < 1 := by omega
      have t1 : ¬ (12 : Int) < (s.size : Int) := by omega
      have H0 := Lib.hid h0
      have H1 := Lib.hid h1
      clear h0 h1
      go_enter Tryz.func88, Tryz.ntmps88
      go_wp2_with fail
      go_loop [3] (fun i => ∃ k : Nat, k ≤ s.size ∧ i = .int .i64 k ∧ (s.data.toList.take k).all chB = true ∧ (0 < k → letB ((s.data.toList.getD 0 0).toNat) = true)) (fun i => s.size - (intOf i).toNat)
      case atStart => exact ⟨0, Nat.zero_le _, rfl, rfl, fun h => by omega⟩
      case round =>
        obtain ⟨k, hk, rfl, hall, hfst⟩ := hrel
        have HA := Lib.hid hall
        have HF := Lib.hid hfst
        clear hall hfst t0 t1
        by_cases hlt : k < s.size
        · have HT := Lib.hid (take_snoc (data_get? hlt))
          have hlt' : (k : Int) < (s.size : Int) := by omega
          have hb0 : (s[k].toNat : Int) ≤ 255 := by have := s[k].toNat_lt; omega
          have HD := Lib.hid (data_getD hlt)
          rcases (by omega : (s[k].toNat : Int) < 48 ∨ (48 ≤ (s[k].toNat : Int) ∧ (s[k].toNat : Int) ≤ 57) ∨ (57 < (s[k].toNat : Int) ∧ (s[k].toNat : Int) < 97) ∨ (97 ≤ (s[k].toNat : Int) ∧ (s[k].toNat : Int) ≤ 122) ∨ 122 < (s[k].toNat : Int)) with h | ⟨h, h'⟩ | ⟨h, h'⟩ | ⟨h, h'⟩ | h
          · have H := Lib.hid (isName_bad hlt (by unfold chB letB; simp; omega))
            have e1 : decide (97 ≤ (s[k].toNat : Int)) = false := by simp; omega
            have e2 : decide (48 ≤ (s[k].toNat : Int)) = false := by simp; omega
            go_wp2
            go_ret
            exact ⟨ret_bool H.out.symm, rfl⟩
          · have e1 : decide (97 ≤ (s[k].toNat : Int)) = false := by simp; omega
            have e2 : decide (48 ≤ (s[k].toNat : Int)) = true := by simp; omega
            have e3 : decide ((s[k].toNat : Int) ≤ 57) = true := by simp; omega
            by_cases hk0 : k = 0
            · have hb : letB (s[k].toNat) = false := by unfold letB; simp; omega
              have H : Hid (isNameB s = false) := Lib.hid (by subst hk0; exact isName_head hlt hb)
              have e4 : ((k : Int) == 0) = true := by simp; omega
              clear hb hk0
              go_wp2
              go_ret
              exact ⟨ret_bool H.out.symm, rfl⟩
            · have H := Lib.hid (show chB s[k] = true by unfold chB letB; simp; omega)
              have e4 : ((k : Int) == 0) = false := by simp; omega
              have HK := Lib.hid hk0
              clear hk0
              go_wp2
              go_round
              case rel => exact ⟨k + 1, by omega, by go_num, by rw [HT.out, List.all_append, HA.out]; simp [H.out], fun _ => HF.out (by have := HK.out; omega)⟩
              case measure => simp [intOf]; omega
          · have H := Lib.hid (isName_bad hlt (by unfold chB letB; simp; omega))
            have e1 : decide (97 ≤ (s[k].toNat : Int)) = false := by simp; omega
            have e2 : decide (48 ≤ (s[k].toNat : Int)) = true := by simp; omega
            have e3 : decide ((s[k].toNat : Int) ≤ 57) = false := by simp; omega
            go_wp2
            go_ret
            exact ⟨ret_bool H.out.symm, rfl⟩
          · have H := Lib.hid (show chB s[k] = true by unfold chB letB; simp; omega)
            have HL := Lib.hid (show letB (s[k].toNat) = true by unfold letB; simp; omega)
            have e1 : decide (97 ≤ (s[k].toNat : Int)) = true := by simp; omega
            have e2 : decide (48 ≤ (s[k].toNat : Int)) = true := by simp; omega
            have e3 : decide ((s[k].toNat : Int) ≤ 57) = false := by simp; omega
            have e5 : decide ((s[k].toNat : Int) ≤ 122) = true := by simp; omega
            go_wp2
            go_round
            case rel =>
              refine ⟨k + 1, by omega, by go_num, by rw [HT.out, List.all_append, HA.out]; simp [H.out], fun _ => ?_⟩
              rcases (by omega : k = 0 ∨ 0 < k) with hz | hz
              · have h1 := HL.out
                have h2 := HD.out
                subst hz
                rw [h2]; exact h1
              · exact HF.out hz
            case measure => simp [intOf]; omega
          · have H := Lib.hid (isName_bad hlt (by unfold chB letB; simp; omega))
            have e1 : decide (97 ≤ (s[k].toNat : Int)) = true := by simp; omega
            have e2 : decide (48 ≤ (s[k].toNat : Int)) = true := by simp; omega
            have e3 : decide ((s[k].toNat : Int) ≤ 57) = false := by simp; omega
            have e5 : decide ((s[k].toNat : Int) ≤ 122) = false := by simp; omega
            go_wp2
            go_ret
            exact ⟨ret_bool H.out.symm, rfl⟩
        · obtain rfl : k = s.size := by omega
          have h0 := H0.out
          have hp : 0 < s.size := by omega
          have H := Lib.hid (isName_good hp (by have := H1.out; omega) (by have := HF.out hp; rwa [data_getD hp] at this) (by have := HA.out; rwa [List.take_of_length_le (by simp)] at this))
          clear h0 hp
          go_wp2
          go_ret
          exact ⟨ret_bool H.out.symm, rfl⟩
end Go.Proofs.YtgnilkjdpfbjgaaGreat
