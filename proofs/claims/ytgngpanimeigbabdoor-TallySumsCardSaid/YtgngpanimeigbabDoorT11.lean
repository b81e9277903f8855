/- TallySums: the walk. -/
import Derived.Test.YtgngpanimeigbabDoorT8
import Derived.Test.YtgngpanimeigbabDoorT9
import Derived.Test.YtgngpanimeigbabDoorT10
import Derived.Test.YtgngpanimeigbabDoorT12
namespace Go.Proofs.YtgngpanimeigbabDoor
open Go.RowKit
set_option linter.unusedVariables false

theorem MarksAt.below {B B' : Nat} {w w' : World} {a : Option Addr} {n : Nat} {l : List Mk0} (h : MarksAt B w a n l) (hb : Below B w w') (hB : B ≤ B') : MarksAt B' w' a n l := by
  refine ⟨h.1, ?_⟩
  rcases h.2 with h0 | ⟨b, off, ha, hbB, hc⟩
  · exact .inl h0
  · refine .inr ⟨b, off, ha, by omega, fun i m hi => ?_⟩
    obtain ⟨c0, c1, c2, c3, c4, c5, c6⟩ := hc i m hi
    exact ⟨(hb.cell (p := ⟨b, _, none⟩) hbB).trans c0, (hb.cell (p := ⟨b, _, none⟩) hbB).trans c1, (hb.cell (p := ⟨b, _, none⟩) hbB).trans c2, (hb.cell (p := ⟨b, _, none⟩) hbB).trans c3, (hb.cell (p := ⟨b, _, none⟩) hbB).trans c4, (hb.cell (p := ⟨b, _, none⟩) hbB).trans c5, (hb.cell (p := ⟨b, _, none⟩) hbB).trans c6⟩
def sumsR (b off k c xb yb zb : Nat) (t1m t2m t3m : List Int) (L : List Mk) : List (Value → World → Prop) :=
  [ IsV (.int .i64 0),
    IsV (.bool true),
    IsV (.bool true),
    IsV (.int .i64 0),
    IsV (.bool true),
    IsV (.bool true),
    IsV (.bool true),
    IsV (.int .i64 0),
    IsV (.bool true),
    IsV (.bool true),
    IsV (.bool true),
    IsV (.agg (tv t1m)),
    IsV (.agg (tv t2m)),
    IsV (.agg (tv t3m)),
    IsV (.agg (tv t3m)),
    IsV (.bool true),
    IsV (.bool true),
    IsV (.bool true),
    IsV (.int .i64 (k : Int)),
    IsV (.slice (some ⟨b, off, none⟩) k c),
    IsV (.int .i64 (k : Int)),
    IsV (.bool true),
    IsV (.bool true),
    IsV (.bool true),
    IsV (.pointer (some ⟨zb, 12, none⟩)),
    IsV (.int .i64 (sumAt 12 L)),
    IsV (.pointer (some ⟨zb, 13, none⟩)),
    IsV (.int .i64 (sumAt 13 L)),
    IsV (.int .i64 (k : Int)),
    IsV (.int .i64 (k : Int)),
    IsV (.bool true),
    IsV (.bool true),
    IsV (.bool true),
    IsV (.pointer (some ⟨zb, 17, none⟩)),
    IsV (.int .i64 (sumAt 17 L)),
    IsV (.pointer (some ⟨zb, 18, none⟩)),
    IsV (.int .i64 (sumAt 18 L)),
    IsV (.int .i64 (sumAt 10 L)),
    IsV (.pointer (some ⟨zb, 0, none⟩)),
    IsV (.pointer (some ⟨zb, 10, none⟩)),
    IsV (.int .i64 (sumAt 10 L)),
    IsV (.bool true),
    IsV (.bool true),
    IsV (.bool true),
    IsV (.pointer (some ⟨zb, 19, none⟩)),
    IsV (.int .i64 (sumAt 19 L)),
    IsV (.pointer (some ⟨zb, 0, none⟩)),
    IsV (.pointer (some ⟨zb, 11, none⟩)),
    IsV (.int .i64 (sumAt 11 L)),
    IsV (.bool true),
    IsV (.bool true),
    IsV (.bool true) ]
theorem sumsR_lasts (b off k c xb yb zb : Nat) (t1m t2m t3m : List Int) (L : List Mk) : ∀ p ∈ sumsR b off k c xb yb zb t1m t2m t3m L, Lasts p := by
  simp only [sumsR, List.mem_cons, List.not_mem_nil, or_false]
  rintro p (rfl | rfl | rfl | rfl | rfl | rfl | rfl | rfl | rfl | rfl | rfl | rfl | rfl | rfl | rfl | rfl | rfl | rfl | rfl | rfl | rfl | rfl | rfl | rfl | rfl | rfl | rfl | rfl | rfl | rfl | rfl | rfl | rfl | rfl | rfl | rfl | rfl | rfl | rfl | rfl | rfl | rfl | rfl | rfl | rfl | rfl | rfl | rfl | rfl | rfl | rfl | rfl) <;> exact lasts_v _
theorem OpsAt.mono {B B' : Nat} {w : World} {a : Option Addr} {n : Nat} {l : List Int} (h : OpsAt B w a n l) (hB : B ≤ B') : OpsAt B' w a n l := by
  obtain ⟨h1, h2, h3⟩ := h
  exact ⟨h1, h2, h3.imp id (fun ⟨b, off, ha, hb, hc⟩ => ⟨b, off, ha, by omega, hc⟩)⟩
theorem RecsAt.mono {B B' : Nat} {w : World} {a : Option Addr} {n : Nat} {l : List Mk} (h : RecsAt B w a n l) (hB : B ≤ B') : RecsAt B' w a n l := by
  obtain ⟨h1, h2, h3⟩ := h
  exact ⟨h1, h2, h3.imp id (fun ⟨b, off, ha, hb, hc⟩ => ⟨b, off, ha, by omega, hc⟩)⟩
theorem OpsAt.part {B : Nat} {w : World} {b off : Nat} {n : Nat} {l : List Int} (h : OpsAt B w (some ⟨b, off, none⟩) n l) (k : Nat) (hk : k ≤ n) : OpsAt B w (some ⟨b, off, none⟩) k (l.take k) ∧ OpsAt B w (some ⟨b, off + k * 12, none⟩) (n - k) (l.drop k) := by
  obtain ⟨h1, h2, h3⟩ := h
  by_cases h0 : n = 0
  · exact ⟨⟨by rw [List.length_take]; omega, by omega, .inl (by omega)⟩, ⟨by rw [List.length_drop]; omega, by omega, .inl (by omega)⟩⟩
  · obtain ⟨b', off', ha, hB, hc⟩ := h3.resolve_left h0
    cases ha
    refine ⟨⟨by rw [List.length_take]; omega, by omega, .inr ⟨b, off, rfl, hB, fun i x hx => ?_⟩⟩, ⟨by rw [List.length_drop]; omega, by omega, .inr ⟨b, off + k * 12, rfl, hB, fun i x hx => ?_⟩⟩⟩
    · rw [List.getElem?_take] at hx
      split at hx
      · exact hc i x hx
      · cases hx
    · rw [List.getElem?_drop] at hx
      have := hc (k + i) x hx
      rw [show off + (k + i) * 12 = off + k * 12 + i * 12 by rw [Nat.add_mul]; omega] at this
      exact this
theorem RecsAt.part {B : Nat} {w : World} {b off : Nat} {n : Nat} {l : List Mk} (h : RecsAt B w (some ⟨b, off, none⟩) n l) (k : Nat) (hk : k ≤ n) : RecsAt B w (some ⟨b, off, none⟩) k (l.take k) ∧ RecsAt B w (some ⟨b, off + k * 13, none⟩) (n - k) (l.drop k) := by
  obtain ⟨h1, h2, h3⟩ := h
  by_cases h0 : n = 0
  · exact ⟨⟨by rw [List.length_take]; omega, by omega, .inl (by omega)⟩, ⟨by rw [List.length_drop]; omega, by omega, .inl (by omega)⟩⟩
  · obtain ⟨b', off', ha, hB, hc⟩ := h3.resolve_left h0
    cases ha
    refine ⟨⟨by rw [List.length_take]; omega, by omega, .inr ⟨b, off, rfl, hB, fun i x hx => ?_⟩⟩, ⟨by rw [List.length_drop]; omega, by omega, .inr ⟨b, off + k * 13, rfl, hB, fun i x hx => ?_⟩⟩⟩
    · rw [List.getElem?_take] at hx
      split at hx
      · exact hc i x hx
      · cases hx
    · rw [List.getElem?_drop] at hx
      have := hc (k + i) x hx
      rw [show off + (k + i) * 13 = off + k * 13 + i * 13 by rw [Nat.add_mul]; omega] at this
      exact this
theorem of_let (l : List Mk) (t : List Int) (ht : t = ofF l) (a a2 : Option Addr) (n c c2 : Nat) (w : World) (ho : OpsAt w.heap.size w a n (l.map (·.k))) (hr : RecsAt w.heap.size w a2 n l) :
    Calls Tryd.prog 7 #[.slice a n c, .slice a2 n c2] w fun e w' => e = .returned (.tuple #[.agg (tv t), .int .i64 0]) ∧ Below w.heap.size w w' := by
  subst ht; exact of_any l a a2 n c n c2 w ho hr rfl
theorem rows_parts {l : List Mk0} {n g1 g2 c1 c2 B : Nat} {rs : List (Mk × Option Addr × Nat)} {w : World} (hn : l.length = n) (h100 : n ≤ 1000) (hrs : rs.map (·.1) = l.map Mk0.mk') (h1 : w.ownsRow B 48 12 (.slice (some ⟨g1, 0, none⟩) n c1) n ((l.map (·.k)).flatMap opL)) (h2 : w.ownsRow B 70 13 (.slice (some ⟨g2, 0, none⟩) n c2) n (rs.flatMap recL)) :
    OpsAt w.heap.size w (some ⟨g1, 0, none⟩) n ((l.map Mk0.mk').map (·.k)) ∧ RecsAt w.heap.size w (some ⟨g2, 0, none⟩) n (l.map Mk0.mk') := by
  have hk : (l.map Mk0.mk').map (·.k) = l.map (·.k) := by simp [Mk0.mk', Function.comp_def]
  have hrl : rs.length = n := by have := congrArg List.length hrs; simpa [hn] using this
  refine ⟨?_, ?_⟩
  · rw [hk]; exact ops_of_row h1 (by simpa using hn) (by omega)
  · rw [← hrs]
    refine recs_of_row h2 hrl (by omega) (fun x hx => ?_)
    have : x.1 ∈ l.map Mk0.mk' := by rw [← hrs]; exact List.mem_map_of_mem hx
    obtain ⟨m, _, hm⟩ := List.mem_map.1 this
    rw [← hm]
    have := stN_lt m.st
    show stN m.st ≤ maxLen
    unfold maxLen
    omega
set_option maxRecDepth 100000 in
set_option maxHeartbeats 4000000 in
theorem sums_walk (l : List Mk0) (a : Option Addr) (n c : Nat) (at_ : Int) (w : World) (hm : MarksAt w.heap.size w a n l) (hT : Tab w) (hn : n ≤ maxLen) (hver : ∀ m ∈ l, I64 m.rows ∧ I64 m.ver) :
    Calls Tryd.prog 4 #[.slice a n c, .int .i64 at_] w fun e w' => e = .returned (.bool true) ∧ Below w.heap.size w w' := by
  have HT := Lib.hid hT
  have HV := Lib.hid hver
  clear hT hver
  unfold maxLen at hn
  go_enter Tryd.func4, Tryd.ntmps4
  go_wp2_with fail
  refine (awake_any _ HT.out).mono ?_
  rintro e w1 ⟨rfl, hb1⟩
  by_cases h100 : 100 < n
  · have t1 : decide ((100 : Int) < (n : Int)) = true := by simp; omega
    go_wp2_with fail
    go_returns
    exact ⟨rfl, hb1⟩
  · have t1 : decide ((100 : Int) < (n : Int)) = false := by simp; omega
    by_cases h0 : n = 0
    · subst h0
      go_wp2_with fail
      go_returns
      exact ⟨rfl, hb1⟩
    · have t2 : ((n : Int) == 0) = false := by simp; omega
      have HH0 := Lib.hid h0
      obtain ⟨b, off, m, rfl, hB, hml, m0, m1, m2, m3, m4, m5, m6⟩ := hm.get hb1 (i := n - 1) (by omega)
      have i1 : (0 : Int) ≤ (n : Int) - 1 := by omega
      have i2 : ((n : Int) - 1).toNat = n - 1 := by omega
      have i3 : (n : Int) - 1 < n := by omega
      by_cases hv : m.ver = 0
      · have t3 : (m.ver == 0) = true := by simp [hv]
        clear h0 hv
        go_wp2_with fail
        go_returns
        exact ⟨rfl, hb1⟩
      · have t3 : (m.ver == 0) = false := by simp [hv]
        have HVER := Lib.hid hv
        have HML := Lib.hid hml
        clear h0 hv hml
        go_wp2_with fail
        clear m0 m1 m2 m3 m4 m5 m6
        go_loop [5] (fun i => ∃ k : Nat, k ≤ n ∧ i = .int .i64 k) (fun i => n - (intOf i).toNat)
        case atStart => exact ⟨0, by omega, rfl⟩
        case round =>
          obtain ⟨k, hk, rfl⟩ := hrel
          by_cases hlt : k < n
          · obtain ⟨b', off', x, hbo, hB', hxl, x0, x1, x2, x3, x4, x5, x6⟩ := hm.get hb1 (i := k) hlt
            cases hbo
            have j1 : (0 : Int) ≤ (k : Int) := by omega
            have j2 : (k : Int) < (n : Int) := by omega
            clear hxl i1 i2 i3 t1 t2 t3
            rcases (by omega : x.done < 0 ∨ (0 ≤ x.done ∧ 1125899906842624 < x.done) ∨ (0 ≤ x.done ∧ x.done ≤ 1125899906842624 ∧ x.failed < 0) ∨ (0 ≤ x.done ∧ x.done ≤ 1125899906842624 ∧ 0 ≤ x.failed ∧ 1125899906842624 < x.failed) ∨ (0 ≤ x.done ∧ x.done ≤ 1125899906842624 ∧ 0 ≤ x.failed ∧ x.failed ≤ 1125899906842624)) with q | ⟨q, q1⟩ | ⟨q, q1, q2⟩ | ⟨q, q1, q2, q3⟩ | ⟨q, q1, q2, q3⟩
            · go_wp2_with fail
              go_returns
              exact ⟨rfl, hb1⟩
            · go_wp2_with fail
              go_returns
              exact ⟨rfl, hb1⟩
            · go_wp2_with fail
              go_returns
              exact ⟨rfl, hb1⟩
            · go_wp2_with fail
              go_returns
              exact ⟨rfl, hb1⟩
            · go_wp2_with fail
              go_round
              case rel => exact ⟨k + 1, by omega, by go_num⟩
              case measure => simp [intOf]; omega
          · obtain rfl : k = n := by omega
            clear i1 i2 i3 t3
            have hrows := rows_any l (some ⟨b, off, none⟩) k c w1 (hm.below hb1 hb1.size) (by omega)
            have HROWS := Lib.hid hrows
            clear hrows
            go_wp2_with fail
            refine HROWS.out.mono ?_
            clear HROWS
            rintro e w2 ⟨a1, a2, a3, c1, c2, c3, rs, rfl, hrs, ho1, ho2, ho3, hb2⟩
            have HO := Lib.hid (And.intro hrs (And.intro ho1 (And.intro ho2 hb2)))
            obtain ⟨g1, rfl, _, hg1, _⟩ := row_block ho1 (by have := HH0.out; omega)
            obtain ⟨g2, rfl, _, hg2, _⟩ := row_block ho2 (by have := HH0.out; omega)
            have hc1 : k ≤ c1 := by
              rcases ho1.2 with ⟨h, _⟩ | ⟨g, cap, cur, hv, _, _, hle, _⟩
              · cases h
              · cases hv; exact hle
            have hc2 : k ≤ c2 := by
              rcases ho2.2 with ⟨h, _⟩ | ⟨g, cap, cur, hv, _, _, hle, _⟩
              · cases h
              · cases hv; exact hle
            obtain ⟨hOps, hRecs⟩ := rows_parts hm.1 (by omega) hrs ho1 ho2
            have hbw2 : Below w.heap.size w w2 := hb1.trans (hb2.mono hb1.size)
            obtain ⟨kk, hkk⟩ : ∃ kk : Nat, wrap64 ((IntKind.u64.wrap at_).tmod k) = (kk : Int) ∧ kk < k := by
              have hpos : (0 : Int) < k := by have := HH0.out; omega
              have h1 : 0 ≤ IntKind.u64.wrap at_ := by rw [IntKind.wrap_u64]; omega
              rw [Int.tmod_eq_emod_of_nonneg h1]
              have h2 := Int.emod_nonneg (IntKind.u64.wrap at_) (show (k : Int) ≠ 0 by omega)
              have h3 := Int.emod_lt_of_pos (IntKind.u64.wrap at_) hpos
              refine ⟨((IntKind.u64.wrap at_) % k).toNat, ?_, by omega⟩
              rw [wrap64_id ⟨by omega, by omega⟩]
              omega
            obtain ⟨hkk, hkl⟩ := hkk
            obtain ⟨L, hL⟩ : ∃ L, L = l.map Mk0.mk' := ⟨_, rfl⟩
            rw [← hL] at hOps hRecs
            have hll : L.length = k := by rw [hL, List.length_map]; exact hm.1
            have HOT : Hid (∀ W', Below w2.heap.size w2 W' → OpsAt W'.heap.size W' (some ⟨g1, 0, none⟩) kk ((L.take kk).map (·.k)) ∧ RecsAt W'.heap.size W' (some ⟨g2, 0, none⟩) kk (L.take kk) ∧
                OpsAt W'.heap.size W' (some ⟨g1, kk * 12, none⟩) (k - kk) ((L.drop kk).map (·.k)) ∧ RecsAt W'.heap.size W' (some ⟨g2, kk * 13, none⟩) (k - kk) (L.drop kk) ∧
                OpsAt W'.heap.size W' (some ⟨g1, 0, none⟩) k (L.map (·.k)) ∧ RecsAt W'.heap.size W' (some ⟨g2, 0, none⟩) k L) := Lib.hid (by
              intro W' hb
              have e1 := (hOps.below hb).mono hb.size
              have e2 := (hRecs.below hb).mono hb.size
              have p1 := e1.part kk (by omega)
              have p2 := e2.part kk (by omega)
              rw [List.map_take, List.map_drop]
              rw [Nat.zero_add] at p1 p2
              exact ⟨p1.1, p2.1, p1.2, p2.2, e1, e2⟩)
            have HLL := Lib.hid (And.intro hL hll)
            have HBW := Lib.hid hbw2
            clear hrs ho1 ho2 ho3 hb2 hOps hRecs hL hll hbw2 hb1
            have q1 : (0 : Int) ≤ (kk : Int) := by omega
            have q2 : (kk : Int) < (k : Int) := by omega
            have q3 : (kk : Int) ≤ (c1 : Int) := by omega
            have q5 : (kk : Int) ≤ (k : Int) := by omega
            have q6 : ¬ (c1 = kk) := by omega
            have q7 : ¬ (c2 = kk) := by omega
            have q4 : (kk : Int) ≤ (c2 : Int) := by omega
            go_wp2_with fail
            obtain ⟨t1m, ht1⟩ : ∃ t, t = ofF (L.take kk) := ⟨_, rfl⟩
            have HT1 := Lib.hid ht1
            clear ht1
            have hszt : (tv t1m).size = 22 := by rw [HT1.out]; simp [tv, ofF_len]
            go_cut [10, 11] (fun s10 s11 wx => ∃ xb, s10 = .pointer (some ⟨xb, 0, none⟩) ∧ s11 = .int .i64 0 ∧ w2.heap.size ≤ xb ∧ wx.heap[xb]? = some (.cells (tv t1m) 25 (0, 0)) ∧ Below w2.heap.size w2 wx)
            case first =>
              go_region_with (go_at_call 7; refine (of_let (L.take kk) t1m HT1.out _ _ _ _ _ _ (HOT.out _ (by first | exact (Below.refl _ _).drew | exact ((Below.refl _ _).alloc (Nat.le_refl _) _).drew)).1 (HOT.out _ (by first | exact (Below.refl _ _).drew | exact ((Below.refl _ _).alloc (Nat.le_refl _) _).drew)).2.1).mono ?_; rintro e wf ⟨rfl, hbf⟩; have hst1 := run_storeCells_row (P := Tryd.prog) (heap_alloc_new wf (.cells (tv zeros) 25)) (show (tv zeros).size = (tv t1m).size from hszt.symm) (tv_one t1m); rw [World.setRow_alloc_new, ← zerosV] at hst1; first | (have hst2 : Sem.run Tryd.prog (storeCells ⟨w2.heap.size, 0, none⟩ (tv t1m).toList) wf = .ok () (wf.setRow w2.heap.size (tv t1m)) := run_storeCells_row (P := Tryd.prog) (keep hbf (heap_alloc_new w2.drew (.cells (tv zeros) 25))) (show (tv zeros).size = (tv t1m).size from hszt.symm) (tv_one t1m)) | skip)
              all_goals go_wp2_with fail
              all_goals go_meet
              all_goals first
                | exact ⟨wf.heap.size, rfl, rfl, (undrew hbf).size, heap_alloc_new _ _, (undrew hbf).alloc (undrew hbf).size _⟩
                | exact ⟨w2.heap.size, rfl, rfl, Nat.le_refl _, setRow_heap wf w2.heap.size (tv zeros) (tv t1m) 25 (0, 0) (show wf.heap[w2.heap.size]? = some (.cells (tv zeros) 25 (0, 0)) from keep hbf (heap_alloc_new w2.drew (.cells (tv zeros) 25))),
                    below_setRow (((Below.refl w2.heap.size w2).alloc (Nat.le_refl _) (.cells (tv zeros) 25)).trans ((undrew hbf).mono (by simp))) (Nat.le_refl _) _⟩
            case rest =>
              obtain ⟨xb, rfl, rfl, hxb, hX, hbc⟩ := hcut
              have HOT2 : Hid (∀ W', Below wc.heap.size wc W' → OpsAt W'.heap.size W' (some ⟨g1, kk * 12, none⟩) (k - kk) ((L.drop kk).map (·.k)) ∧ RecsAt W'.heap.size W' (some ⟨g2, kk * 13, none⟩) (k - kk) (L.drop kk) ∧
                  OpsAt W'.heap.size W' (some ⟨g1, 0, none⟩) k (L.map (·.k)) ∧ RecsAt W'.heap.size W' (some ⟨g2, 0, none⟩) k L) := Lib.hid (fun W' h => (HOT.out W' (hbc.trans (h.mono hbc.size))).2.2)
              have HX := Lib.hid (And.intro hX (HBW.out.trans (hbc.mono HBW.out.size)))
              clear hX hbc HOT HBW hszt hxb
              generalize wc = wd at *
              obtain ⟨t2m, ht2⟩ : ∃ t, t = ofF (L.drop kk) := ⟨_, rfl⟩
              have HT2 := Lib.hid ht2
              clear ht2
              have hszt : (tv t2m).size = 22 := by rw [HT2.out]; simp [tv, ofF_len]
              go_wp2_with fail
              go_cut [12, 13] (fun s10 s11 wx => ∃ xb, s10 = .pointer (some ⟨xb, 0, none⟩) ∧ s11 = .int .i64 0 ∧ wd.heap.size ≤ xb ∧ wx.heap[xb]? = some (.cells (tv t2m) 25 (0, 0)) ∧ Below wd.heap.size wd wx)
              case first =>
                go_region_with (go_at_call 7; refine (of_let (L.drop kk) t2m HT2.out _ _ _ _ _ _ (HOT2.out _ (by first | exact (Below.refl _ _).drew | exact ((Below.refl _ _).alloc (Nat.le_refl _) _).drew)).1 (HOT2.out _ (by first | exact (Below.refl _ _).drew | exact ((Below.refl _ _).alloc (Nat.le_refl _) _).drew)).2.1).mono ?_; rintro e wf ⟨rfl, hbf⟩; have hst1 := run_storeCells_row (P := Tryd.prog) (heap_alloc_new wf (.cells (tv zeros) 25)) (show (tv zeros).size = (tv t2m).size from hszt.symm) (tv_one t2m); rw [World.setRow_alloc_new, ← zerosV] at hst1; first | (have hst2 : Sem.run Tryd.prog (storeCells ⟨wd.heap.size, 0, none⟩ (tv t2m).toList) wf = .ok () (wf.setRow wd.heap.size (tv t2m)) := run_storeCells_row (P := Tryd.prog) (keep hbf (heap_alloc_new wd.drew (.cells (tv zeros) 25))) (show (tv zeros).size = (tv t2m).size from hszt.symm) (tv_one t2m)) | skip)
                all_goals go_wp2_with fail
                all_goals go_meet
                all_goals first
                  | exact ⟨wf.heap.size, rfl, rfl, (undrew hbf).size, heap_alloc_new _ _, (undrew hbf).alloc (undrew hbf).size _⟩
                  | exact ⟨wd.heap.size, rfl, rfl, Nat.le_refl _, setRow_heap wf wd.heap.size (tv zeros) (tv t2m) 25 (0, 0) (show wf.heap[wd.heap.size]? = some (.cells (tv zeros) 25 (0, 0)) from keep hbf (heap_alloc_new wd.drew (.cells (tv zeros) 25))),
                    below_setRow (((Below.refl wd.heap.size wd).alloc (Nat.le_refl _) (.cells (tv zeros) 25)).trans ((undrew hbf).mono (by simp))) (Nat.le_refl _) _⟩
              case rest =>
                obtain ⟨yb, rfl, rfl, hyb, hY, hbc⟩ := hcut
                obtain ⟨hX, hbw⟩ := HX.out
                have hX2 := keep hbc hX
                have hxl := lt_some hX
                have hbw3 : Below w.heap.size w wc := hbw.trans (hbc.mono hbw.size)
                have hop := HOT2.out wc hbc
                have HOP := Lib.hid hop.2.2
                have hne : xb ≠ yb := by omega
                have HX3 := Lib.hid (And.intro hX2 (And.intro hY hbw3))
                clear hX hbw hX2 hbw3 hop HOT2 HX hY hbc hszt hxl hyb
                generalize wc = we at *
                go_wp2_with fail
                obtain ⟨t3m, ht3⟩ : ∃ t, t = ofF L := ⟨_, rfl⟩
                have HT3 := Lib.hid ht3
                clear ht3
                refine (of_let L t3m HT3.out _ _ _ _ _ _ HOP.out.1 HOP.out.2).mono ?_
                rintro e wf ⟨rfl, hbf⟩
                obtain ⟨hX, hY, hbw⟩ := HX3.out
                have hZ1 := heap_alloc_new wf (.cells (tv zeros) 25)
                have hX4 := keepA (.cells (tv zeros) 25) (keep hbf hX)
                have hY4 := keepA (.cells (tv zeros) 25) (keep hbf hY)
                have hbw4 : Below w.heap.size w (wf.alloc (.cells (tv zeros) 25)) := (hbw.trans (hbf.mono hbw.size)).alloc (by have := hbf.size; have := hbw.size; omega) _
                have hxl := lt_some (keep hbf hX)
                have hyl := lt_some (keep hbf hY)
                have hX5 := (setRow_other (wf.alloc (.cells (tv zeros) 25)) wf.heap.size xb (tv t3m) (by omega)).trans hX4
                have hY5 := (setRow_other (wf.alloc (.cells (tv zeros) 25)) wf.heap.size yb (tv t3m) (by omega)).trans hY4
                have hZ5 := setRow_heap (wf.alloc (.cells (tv zeros) 25)) wf.heap.size (tv zeros) (tv t3m) _ _ hZ1
                have hbw5 : Below w.heap.size w ((wf.alloc (.cells (tv zeros) 25)).setRow wf.heap.size (tv t3m)) := below_setRow hbw4 (by have := hbf.size; have := hbw.size; omega) _
                have hs3 := size_of (t := t3m) (by rw [HT3.out, ofF_len])
                have hs4 : (tv zeros).size = (tv t3m).size := by rw [HT3.out]; simp [tv, ofF_len, zeros]
                have HS := Lib.hid (And.intro hZ1 (And.intro hs3 hs4))
                have HI := Lib.hid (And.intro hX5 (And.intro hY5 (And.intro hZ5 hbw5)))
                clear hX hY hbw hZ1 hX4 hY4 hbw4 hxl hyl hX5 hY5 hZ5 hbw5 hs3 hs4 hbf HX3 HOP
                go_wp2_with (first | (refine wpList_store_row rfl 25 (.tmp 14) (.tmp 111) rfl wf.heap.size (tv t3m) rfl rfl 25 (tv zeros) HS.out.1 HS.out.2.1 HS.out.2.2 (tv_one _) ?_))
                obtain ⟨hX, hY, hZ, hbw⟩ := HI.out
                rw [zerosV]
                generalize (wf.alloc (.cells (tv zeros) 25)).setRow wf.heap.size (tv t3m) = wg at hX hY hZ hbw ⊢
                generalize wf.heap.size = zb at *
                have HI2 := Lib.hid (And.intro hX (And.intro hY (And.intro hZ hbw)))
                have hzc : ∀ i, i < 20 → i ≠ 14 → i ≠ 15 → i ≠ 16 → wg.cell? ⟨zb, i, none⟩ = some (.int .i64 (sumAt i L)) := fun i h0 h1 h2 h3 => by
                  have := (cell_at hZ i).trans (tv_get (getD_some (t := t3m) (by rw [HT3.out, ofF_len]; omega)))
                  rw [HT3.out, ofF_sum L (by rw [HLL.out.2]; omega) i h0 h1 h2 h3] at this
                  exact this
                have HZC := Lib.hid hzc
                clear hX hY hZ hbw hzc HI HS
                go_loop [16, 17] (fun s i => ∃ j : Nat, j ≤ 12 ∧ i = .int .i64 j ∧ s = .int .i64 (psum L j)) (fun _ i => 12 - (intOf i).toNat)
                case atStart => exact ⟨0, by omega, rfl, rfl⟩
                case round =>
                  obtain ⟨j, hj, rfl, rfl⟩ := hrel
                  have hp := psum_bd L j hj
                  have hp1 := hp.1
                  have hp2 : psum L j ≤ 1200 := by have := hp.2; rw [HLL.out.2] at this; omega
                  clear hp
                  by_cases hlj : j < 12
                  · have c0 := HZC.out j (by omega) (by omega) (by omega) (by omega)
                    have hq := sumAt_bd L j (by omega) (by omega) (by omega) (by omega)
                    have hq1 := hq.1
                    have hq2 : sumAt j L ≤ 100 := by have := hq.2; rw [HLL.out.2] at this; omega
                    have j1 : (0 : Int) ≤ (j : Int) := by omega
                    have j2 : (j : Int) < 12 := by omega
                    clear hq
                    go_wp2_with fail
                    go_round
                    case rel => exact ⟨j + 1, by omega, by go_num, rfl⟩
                    case measure => simp [intOf]; omega
                  · obtain rfl : j = 12 := by omega
                    have hps : psum L 12 = k := by rw [psum_12, HLL.out.2]
                    rw [hps]
                    clear hps hp1 hp2
                    go_wp2_with fail
                    obtain ⟨hX, hY, hZ, hbw⟩ := HI2.out
                    have hlast : (L.drop kk).getLast? = some m.mk' := by
                      have h1 : L[k - 1]? = some m.mk' := by rw [HLL.out.1, List.getElem?_map, HML.out]; rfl
                      rw [List.getLast?_eq_getElem?, List.length_drop, List.getElem?_drop, HLL.out.2, show kk + (k - kk - 1) = k - 1 by omega]
                      exact h1
                    have hj : joinF t1m t2m = t3m := by
                      rw [HT1.out, HT2.out, HT3.out, join_parts _ _ m.mk' hlast HVER.out, List.take_append_drop]
                    have HJ := Lib.hid hj
                    have h64 : ∀ i, I64 (gt t3m i) := by
                      rw [HT3.out]
                      refine ofF_i64 L (fun x hx => ?_)
                      rw [HLL.out.1] at hx
                      obtain ⟨y, hy, rfl⟩ := List.mem_map.1 hx
                      exact HV.out y hy
                    have H64 := Lib.hid h64
                    have HSZ := Lib.hid (And.intro (size_of (t := t1m) (by rw [HT1.out, ofF_len])) (And.intro (size_of (t := t2m) (by rw [HT2.out, ofF_len])) (size_of (t := t3m) (by rw [HT3.out, ofF_len]))))
                    have hsl := sums_law L
                    rw [HLL.out.2] at hsl
                    have b12 := sumAt_bd L 12 (by omega) (by omega) (by omega) (by omega)
                    have b13 := sumAt_bd L 13 (by omega) (by omega) (by omega) (by omega)
                    have b17 := sumAt_bd L 17 (by omega) (by omega) (by omega) (by omega)
                    have b18 := sumAt_bd L 18 (by omega) (by omega) (by omega) (by omega)
                    rw [HLL.out.2] at b12 b13 b17 b18
                    have f1 : sumAt 12 L + sumAt 13 L = (k : Int) := hsl.1
                    have f2 : sumAt 17 L + sumAt 18 L = sumAt 10 L := hsl.2.1
                    have f3 : sumAt 19 L ≤ sumAt 11 L := hsl.2.2
                    have HF := Lib.hid (And.intro f1 (And.intro f2 f3))
                    have HBD := Lib.hid (And.intro b12 (And.intro b13 (And.intro b17 b18)))
                    have HXYZ := Lib.hid (And.intro hX (And.intro hY (And.intro hZ hbw)))
                    clear hlast hj h64 hsl b12 b13 b17 b18 f1 f2 f3 hX hY hZ hbw HI2
                    refine wp_region_grow (by kernel_rfl) (by kernel_rfl) (by kernel_rfl) (byList (sumsR b off k c xb yb zb t1m t2m t3m L)) (lasts_list (sumsR_lasts b off k c xb yb zb t1m t2m t3m L)) ?_ ?_
                    · intro vs w1' i o hb ho hd
                      simp only [putAll, Act.put, List.setIfInBounds_toArray, List.set_cons_succ, List.set_cons_zero]
                      have hX1 := keep hb HXYZ.out.1
                      have hY1 := keep hb HXYZ.out.2.1
                      have hZ1 := keep hb HXYZ.out.2.2.1
                      have hzc1 : ∀ i, i < 20 → i ≠ 14 → i ≠ 15 → i ≠ 16 → w1'.cell? ⟨zb, i, none⟩ = some (.int .i64 (sumAt i L)) := fun i h0 h1 h2 h3 => by
                        rw [hb.cell (p := ⟨zb, i, none⟩) (lt_some HXYZ.out.2.2.1)]; exact HZC.out i h0 h1 h2 h3
                      have z10 := hzc1 10 (by omega) (by omega) (by omega) (by omega)
                      have z11 := hzc1 11 (by omega) (by omega) (by omega) (by omega)
                      have z12 := hzc1 12 (by omega) (by omega) (by omega) (by omega)
                      have z13 := hzc1 13 (by omega) (by omega) (by omega) (by omega)
                      have z17 := hzc1 17 (by omega) (by omega) (by omega) (by omega)
                      have z18 := hzc1 18 (by omega) (by omega) (by omega) (by omega)
                      have z19 := hzc1 19 (by omega) (by omega) (by omega) (by omega)
                      have f1 := HF.out.1
                      have f2 := HF.out.2.1
                      have f3 := HF.out.2.2
                      have b12 := HBD.out.1.1
                      have b13 := HBD.out.2.1.1
                      have b17 := HBD.out.2.2.1.1
                      have b18 := HBD.out.2.2.2.1
                      have b17' := HBD.out.2.2.1.2
                      have b18' := HBD.out.2.2.2.2
                      clear hzc1 hb
                      revert ho hd
                      match i with
                      | 0 =>
                        intro ho hd
                        obtain rfl := (Option.some.inj ho).symm
                        clear hd ho
                        refine step_open rfl ?_
                        go_simp
                        exact ⟨rfl, Below.refl _ _⟩
                      | 1 =>
                        intro ho hd
                        obtain rfl := (Option.some.inj ho).symm
                        have d0 : vs 0 = (.int .i64 0) := hd ⟨0, .data⟩ (by simp) rfl
                        clear hd ho
                        rw [d0]
                        refine step_open rfl ?_
                        go_simp
                        exact ⟨rfl, Below.refl _ _⟩
                      | 2 =>
                        intro ho hd
                        obtain rfl := (Option.some.inj ho).symm
                        have d1 : vs 1 = (.bool true) := hd ⟨1, .data⟩ (by simp) rfl
                        clear hd ho
                        rw [d1]
                        refine step_open rfl ?_
                        go_simp
                        exact ⟨rfl, Below.refl _ _⟩
                      | 3 =>
                        intro ho hd
                        obtain rfl := (Option.some.inj ho).symm
                        have d2 : vs 2 = (.bool true) := hd ⟨2, .guard⟩ (by simp) rfl
                        clear hd ho
                        rw [d2]
                        refine step_openG (by rfl) ?_
                        go_simp
                        exact ⟨rfl, Below.refl _ _⟩
                      | 4 =>
                        intro ho hd
                        obtain rfl := (Option.some.inj ho).symm
                        have d3 : vs 3 = (.int .i64 0) := hd ⟨3, .data⟩ (by simp) rfl
                        have d2 : vs 2 = (.bool true) := hd ⟨2, .guard⟩ (by simp) rfl
                        clear hd ho
                        rw [d3, d2]
                        refine step_openG (by rfl) ?_
                        go_simp
                        exact ⟨rfl, Below.refl _ _⟩
                      | 5 =>
                        intro ho hd
                        obtain rfl := (Option.some.inj ho).symm
                        have d2 : vs 2 = (.bool true) := hd ⟨2, .data⟩ (by simp) rfl
                        have d4 : vs 4 = (.bool true) := hd ⟨4, .data⟩ (by simp) rfl
                        clear hd ho
                        rw [d2, d4]
                        refine step_open rfl ?_
                        go_simp
                        exact ⟨rfl, Below.refl _ _⟩
                      | 6 =>
                        intro ho hd
                        obtain rfl := (Option.some.inj ho).symm
                        have d5 : vs 5 = (.bool true) := hd ⟨5, .data⟩ (by simp) rfl
                        clear hd ho
                        rw [d5]
                        refine step_open rfl ?_
                        go_simp
                        exact ⟨rfl, Below.refl _ _⟩
                      | 7 =>
                        intro ho hd
                        obtain rfl := (Option.some.inj ho).symm
                        have d6 : vs 6 = (.bool true) := hd ⟨6, .guard⟩ (by simp) rfl
                        clear hd ho
                        rw [d6]
                        refine step_openG (by rfl) ?_
                        go_simp
                        exact ⟨rfl, Below.refl _ _⟩
                      | 8 =>
                        intro ho hd
                        obtain rfl := (Option.some.inj ho).symm
                        have d7 : vs 7 = (.int .i64 0) := hd ⟨7, .data⟩ (by simp) rfl
                        have d6 : vs 6 = (.bool true) := hd ⟨6, .guard⟩ (by simp) rfl
                        clear hd ho
                        rw [d7, d6]
                        refine step_openG (by rfl) ?_
                        go_simp
                        exact ⟨rfl, Below.refl _ _⟩
                      | 9 =>
                        intro ho hd
                        obtain rfl := (Option.some.inj ho).symm
                        have d6 : vs 6 = (.bool true) := hd ⟨6, .data⟩ (by simp) rfl
                        have d8 : vs 8 = (.bool true) := hd ⟨8, .data⟩ (by simp) rfl
                        clear hd ho
                        rw [d6, d8]
                        refine step_open rfl ?_
                        go_simp
                        exact ⟨rfl, Below.refl _ _⟩
                      | 10 =>
                        intro ho hd
                        obtain rfl := (Option.some.inj ho).symm
                        have d9 : vs 9 = (.bool true) := hd ⟨9, .data⟩ (by simp) rfl
                        clear hd ho
                        rw [d9]
                        refine step_open rfl ?_
                        go_simp
                        exact ⟨rfl, Below.refl _ _⟩
                      | 11 =>
                        intro ho hd
                        obtain rfl := (Option.some.inj ho).symm
                        have d10 : vs 10 = (.bool true) := hd ⟨10, .guard⟩ (by simp) rfl
                        clear hd ho
                        rw [d10]
                        exact step_openG (by rfl) (wp_load_row 25 (.tmp 10) rfl xb rfl 25 (tv t1m) (0, 0) _ hX1 Tryd.underlying25 rfl HSZ.out.1 ⟨_, rfl, rfl, Below.refl _ _⟩)
                      | 12 =>
                        intro ho hd
                        obtain rfl := (Option.some.inj ho).symm
                        have d10 : vs 10 = (.bool true) := hd ⟨10, .guard⟩ (by simp) rfl
                        clear hd ho
                        rw [d10]
                        exact step_openG (by rfl) (wp_load_row 25 (.tmp 12) rfl yb rfl 25 (tv t2m) (0, 0) _ hY1 Tryd.underlying25 rfl HSZ.out.2.1 ⟨_, rfl, rfl, Below.refl _ _⟩)
                      | 13 =>
                        intro ho hd
                        obtain rfl := (Option.some.inj ho).symm
                        have d11 : vs 11 = (.agg (tv t1m)) := hd ⟨11, .data⟩ (by simp) rfl
                        have d12 : vs 12 = (.agg (tv t2m)) := hd ⟨12, .data⟩ (by simp) rfl
                        have d10 : vs 10 = (.bool true) := hd ⟨10, .guard⟩ (by simp) rfl
                        clear hd ho
                        rw [d11, d12, d10]
                        refine step_openG (by rfl) ?_
                        go_simp
                        refine (join_any t1m t2m _ (by rw [HT1.out, ofF_len]) (by rw [HT2.out, ofF_len])).mono ?_
                        rintro e w2 ⟨rfl, hb2⟩
                        rw [HJ.out]
                        exact ⟨rfl, hb2⟩
                      | 14 =>
                        intro ho hd
                        obtain rfl := (Option.some.inj ho).symm
                        have d10 : vs 10 = (.bool true) := hd ⟨10, .guard⟩ (by simp) rfl
                        clear hd ho
                        rw [d10]
                        exact step_openG (by rfl) (wp_load_row 25 (.tmp 14) rfl zb rfl 25 (tv t3m) (0, 0) _ hZ1 Tryd.underlying25 rfl HSZ.out.2.2 ⟨_, rfl, rfl, Below.refl _ _⟩)
                      | 15 =>
                        intro ho hd
                        obtain rfl := (Option.some.inj ho).symm
                        have d13 : vs 13 = (.agg (tv t3m)) := hd ⟨13, .data⟩ (by simp) rfl
                        have d14 : vs 14 = (.agg (tv t3m)) := hd ⟨14, .data⟩ (by simp) rfl
                        have d10 : vs 10 = (.bool true) := hd ⟨10, .guard⟩ (by simp) rfl
                        clear hd ho
                        rw [d13, d14, d10]
                        refine step_openG (by rfl) ?_
                        unfold Oper.wp
                        rw [agg_eql t3m (by rw [HT3.out, ofF_len]) H64.out _ _ _ _ _ _ _ _ _ rfl rfl]
                        exact ⟨_, rfl, rfl, Below.refl _ _⟩
                      | 16 =>
                        intro ho hd
                        obtain rfl := (Option.some.inj ho).symm
                        have d10 : vs 10 = (.bool true) := hd ⟨10, .data⟩ (by simp) rfl
                        have d15 : vs 15 = (.bool true) := hd ⟨15, .data⟩ (by simp) rfl
                        clear hd ho
                        rw [d10, d15]
                        refine step_open rfl ?_
                        go_simp
                        exact ⟨rfl, Below.refl _ _⟩
                      | 17 =>
                        intro ho hd
                        obtain rfl := (Option.some.inj ho).symm
                        have d16 : vs 16 = (.bool true) := hd ⟨16, .data⟩ (by simp) rfl
                        clear hd ho
                        rw [d16]
                        refine step_open rfl ?_
                        go_simp
                        exact ⟨rfl, Below.refl _ _⟩
                      | 18 =>
                        intro ho hd
                        obtain rfl := (Option.some.inj ho).symm
                        have d17 : vs 17 = (.bool true) := hd ⟨17, .guard⟩ (by simp) rfl
                        clear hd ho
                        rw [d17]
                        refine step_openG (by rfl) ?_
                        go_simp
                        exact ⟨rfl, Below.refl _ _⟩
                      | 19 =>
                        intro ho hd
                        obtain rfl := (Option.some.inj ho).symm
                        have d17 : vs 17 = (.bool true) := hd ⟨17, .guard⟩ (by simp) rfl
                        clear hd ho
                        rw [d17]
                        refine step_openG (by rfl) ?_
                        go_simp
                        exact ⟨rfl, Below.refl _ _⟩
                      | 20 =>
                        intro ho hd
                        obtain rfl := (Option.some.inj ho).symm
                        have d19 : vs 19 = (.slice (some ⟨b, off, none⟩) k c) := hd ⟨19, .data⟩ (by simp) rfl
                        have d17 : vs 17 = (.bool true) := hd ⟨17, .guard⟩ (by simp) rfl
                        clear hd ho
                        rw [d19, d17]
                        refine step_openG (by rfl) ?_
                        go_simp
                        exact ⟨rfl, Below.refl _ _⟩
                      | 21 =>
                        intro ho hd
                        obtain rfl := (Option.some.inj ho).symm
                        have d18 : vs 18 = (.int .i64 (k : Int)) := hd ⟨18, .data⟩ (by simp) rfl
                        have d20 : vs 20 = (.int .i64 (k : Int)) := hd ⟨20, .data⟩ (by simp) rfl
                        have d17 : vs 17 = (.bool true) := hd ⟨17, .guard⟩ (by simp) rfl
                        clear hd ho
                        rw [d18, d20, d17]
                        refine step_openG (by rfl) ?_
                        go_simp
                        exact ⟨rfl, Below.refl _ _⟩
                      | 22 =>
                        intro ho hd
                        obtain rfl := (Option.some.inj ho).symm
                        have d17 : vs 17 = (.bool true) := hd ⟨17, .data⟩ (by simp) rfl
                        have d21 : vs 21 = (.bool true) := hd ⟨21, .data⟩ (by simp) rfl
                        clear hd ho
                        rw [d17, d21]
                        refine step_open rfl ?_
                        go_simp
                        exact ⟨rfl, Below.refl _ _⟩
                      | 23 =>
                        intro ho hd
                        obtain rfl := (Option.some.inj ho).symm
                        have d22 : vs 22 = (.bool true) := hd ⟨22, .data⟩ (by simp) rfl
                        clear hd ho
                        rw [d22]
                        refine step_open rfl ?_
                        go_simp
                        exact ⟨rfl, Below.refl _ _⟩
                      | 24 =>
                        intro ho hd
                        obtain rfl := (Option.some.inj ho).symm
                        have d23 : vs 23 = (.bool true) := hd ⟨23, .guard⟩ (by simp) rfl
                        clear hd ho
                        rw [d23]
                        refine step_openG (by rfl) ?_
                        go_simp
                        exact ⟨rfl, Below.refl _ _⟩
                      | 25 =>
                        intro ho hd
                        obtain rfl := (Option.some.inj ho).symm
                        have d24 : vs 24 = (.pointer (some ⟨zb, 12, none⟩)) := hd ⟨24, .data⟩ (by simp) rfl
                        have d23 : vs 23 = (.bool true) := hd ⟨23, .guard⟩ (by simp) rfl
                        clear hd ho
                        rw [d24, d23]
                        refine step_openG (by rfl) ?_
                        go_simp
                        exact ⟨rfl, Below.refl _ _⟩
                      | 26 =>
                        intro ho hd
                        obtain rfl := (Option.some.inj ho).symm
                        have d23 : vs 23 = (.bool true) := hd ⟨23, .guard⟩ (by simp) rfl
                        clear hd ho
                        rw [d23]
                        refine step_openG (by rfl) ?_
                        go_simp
                        exact ⟨rfl, Below.refl _ _⟩
                      | 27 =>
                        intro ho hd
                        obtain rfl := (Option.some.inj ho).symm
                        have d26 : vs 26 = (.pointer (some ⟨zb, 13, none⟩)) := hd ⟨26, .data⟩ (by simp) rfl
                        have d23 : vs 23 = (.bool true) := hd ⟨23, .guard⟩ (by simp) rfl
                        clear hd ho
                        rw [d26, d23]
                        refine step_openG (by rfl) ?_
                        go_simp
                        exact ⟨rfl, Below.refl _ _⟩
                      | 28 =>
                        intro ho hd
                        obtain rfl := (Option.some.inj ho).symm
                        have d25 : vs 25 = (.int .i64 (sumAt 12 L)) := hd ⟨25, .data⟩ (by simp) rfl
                        have d27 : vs 27 = (.int .i64 (sumAt 13 L)) := hd ⟨27, .data⟩ (by simp) rfl
                        have d23 : vs 23 = (.bool true) := hd ⟨23, .guard⟩ (by simp) rfl
                        clear hd ho
                        rw [d25, d27, d23]
                        refine step_openG (by rfl) ?_
                        go_simp
                        exact ⟨congrArg (Value.int .i64) (IntWalk.i64_in _ (by omega)), Below.refl _ _⟩
                      | 29 =>
                        intro ho hd
                        obtain rfl := (Option.some.inj ho).symm
                        have d23 : vs 23 = (.bool true) := hd ⟨23, .guard⟩ (by simp) rfl
                        clear hd ho
                        rw [d23]
                        refine step_openG (by rfl) ?_
                        go_simp
                        exact ⟨rfl, Below.refl _ _⟩
                      | 30 =>
                        intro ho hd
                        obtain rfl := (Option.some.inj ho).symm
                        have d28 : vs 28 = (.int .i64 (k : Int)) := hd ⟨28, .data⟩ (by simp) rfl
                        have d29 : vs 29 = (.int .i64 (k : Int)) := hd ⟨29, .data⟩ (by simp) rfl
                        have d23 : vs 23 = (.bool true) := hd ⟨23, .guard⟩ (by simp) rfl
                        clear hd ho
                        rw [d28, d29, d23]
                        refine step_openG (by rfl) ?_
                        go_simp
                        exact ⟨rfl, Below.refl _ _⟩
                      | 31 =>
                        intro ho hd
                        obtain rfl := (Option.some.inj ho).symm
                        have d23 : vs 23 = (.bool true) := hd ⟨23, .data⟩ (by simp) rfl
                        have d30 : vs 30 = (.bool true) := hd ⟨30, .data⟩ (by simp) rfl
                        clear hd ho
                        rw [d23, d30]
                        refine step_open rfl ?_
                        go_simp
                        exact ⟨rfl, Below.refl _ _⟩
                      | 32 =>
                        intro ho hd
                        obtain rfl := (Option.some.inj ho).symm
                        have d31 : vs 31 = (.bool true) := hd ⟨31, .data⟩ (by simp) rfl
                        clear hd ho
                        rw [d31]
                        refine step_open rfl ?_
                        go_simp
                        exact ⟨rfl, Below.refl _ _⟩
                      | 33 =>
                        intro ho hd
                        obtain rfl := (Option.some.inj ho).symm
                        have d32 : vs 32 = (.bool true) := hd ⟨32, .guard⟩ (by simp) rfl
                        clear hd ho
                        rw [d32]
                        refine step_openG (by rfl) ?_
                        go_simp
                        exact ⟨rfl, Below.refl _ _⟩
                      | 34 =>
                        intro ho hd
                        obtain rfl := (Option.some.inj ho).symm
                        have d33 : vs 33 = (.pointer (some ⟨zb, 17, none⟩)) := hd ⟨33, .data⟩ (by simp) rfl
                        have d32 : vs 32 = (.bool true) := hd ⟨32, .guard⟩ (by simp) rfl
                        clear hd ho
                        rw [d33, d32]
                        refine step_openG (by rfl) ?_
                        go_simp
                        exact ⟨rfl, Below.refl _ _⟩
                      | 35 =>
                        intro ho hd
                        obtain rfl := (Option.some.inj ho).symm
                        have d32 : vs 32 = (.bool true) := hd ⟨32, .guard⟩ (by simp) rfl
                        clear hd ho
                        rw [d32]
                        refine step_openG (by rfl) ?_
                        go_simp
                        exact ⟨rfl, Below.refl _ _⟩
                      | 36 =>
                        intro ho hd
                        obtain rfl := (Option.some.inj ho).symm
                        have d35 : vs 35 = (.pointer (some ⟨zb, 18, none⟩)) := hd ⟨35, .data⟩ (by simp) rfl
                        have d32 : vs 32 = (.bool true) := hd ⟨32, .guard⟩ (by simp) rfl
                        clear hd ho
                        rw [d35, d32]
                        refine step_openG (by rfl) ?_
                        go_simp
                        exact ⟨rfl, Below.refl _ _⟩
                      | 37 =>
                        intro ho hd
                        obtain rfl := (Option.some.inj ho).symm
                        have d34 : vs 34 = (.int .i64 (sumAt 17 L)) := hd ⟨34, .data⟩ (by simp) rfl
                        have d36 : vs 36 = (.int .i64 (sumAt 18 L)) := hd ⟨36, .data⟩ (by simp) rfl
                        have d32 : vs 32 = (.bool true) := hd ⟨32, .guard⟩ (by simp) rfl
                        clear hd ho
                        rw [d34, d36, d32]
                        refine step_openG (by rfl) ?_
                        go_simp
                        exact ⟨congrArg (Value.int .i64) (IntWalk.i64_in _ (by omega)), Below.refl _ _⟩
                      | 38 =>
                        intro ho hd
                        obtain rfl := (Option.some.inj ho).symm
                        have d32 : vs 32 = (.bool true) := hd ⟨32, .guard⟩ (by simp) rfl
                        clear hd ho
                        rw [d32]
                        refine step_openG (by rfl) ?_
                        go_simp
                        exact ⟨rfl, Below.refl _ _⟩
                      | 39 =>
                        intro ho hd
                        obtain rfl := (Option.some.inj ho).symm
                        have d38 : vs 38 = (.pointer (some ⟨zb, 0, none⟩)) := hd ⟨38, .data⟩ (by simp) rfl
                        have d32 : vs 32 = (.bool true) := hd ⟨32, .guard⟩ (by simp) rfl
                        clear hd ho
                        rw [d38, d32]
                        refine step_openG (by rfl) ?_
                        go_simp
                        exact ⟨rfl, Below.refl _ _⟩
                      | 40 =>
                        intro ho hd
                        obtain rfl := (Option.some.inj ho).symm
                        have d39 : vs 39 = (.pointer (some ⟨zb, 10, none⟩)) := hd ⟨39, .data⟩ (by simp) rfl
                        have d32 : vs 32 = (.bool true) := hd ⟨32, .guard⟩ (by simp) rfl
                        clear hd ho
                        rw [d39, d32]
                        refine step_openG (by rfl) ?_
                        go_simp
                        exact ⟨rfl, Below.refl _ _⟩
                      | 41 =>
                        intro ho hd
                        obtain rfl := (Option.some.inj ho).symm
                        have d37 : vs 37 = (.int .i64 (sumAt 10 L)) := hd ⟨37, .data⟩ (by simp) rfl
                        have d40 : vs 40 = (.int .i64 (sumAt 10 L)) := hd ⟨40, .data⟩ (by simp) rfl
                        have d32 : vs 32 = (.bool true) := hd ⟨32, .guard⟩ (by simp) rfl
                        clear hd ho
                        rw [d37, d40, d32]
                        refine step_openG (by rfl) ?_
                        go_simp
                        exact ⟨rfl, Below.refl _ _⟩
                      | 42 =>
                        intro ho hd
                        obtain rfl := (Option.some.inj ho).symm
                        have d32 : vs 32 = (.bool true) := hd ⟨32, .data⟩ (by simp) rfl
                        have d41 : vs 41 = (.bool true) := hd ⟨41, .data⟩ (by simp) rfl
                        clear hd ho
                        rw [d32, d41]
                        refine step_open rfl ?_
                        go_simp
                        exact ⟨rfl, Below.refl _ _⟩
                      | 43 =>
                        intro ho hd
                        obtain rfl := (Option.some.inj ho).symm
                        have d42 : vs 42 = (.bool true) := hd ⟨42, .data⟩ (by simp) rfl
                        clear hd ho
                        rw [d42]
                        refine step_open rfl ?_
                        go_simp
                        exact ⟨rfl, Below.refl _ _⟩
                      | 44 =>
                        intro ho hd
                        obtain rfl := (Option.some.inj ho).symm
                        have d43 : vs 43 = (.bool true) := hd ⟨43, .guard⟩ (by simp) rfl
                        clear hd ho
                        rw [d43]
                        refine step_openG (by rfl) ?_
                        go_simp
                        exact ⟨rfl, Below.refl _ _⟩
                      | 45 =>
                        intro ho hd
                        obtain rfl := (Option.some.inj ho).symm
                        have d44 : vs 44 = (.pointer (some ⟨zb, 19, none⟩)) := hd ⟨44, .data⟩ (by simp) rfl
                        have d43 : vs 43 = (.bool true) := hd ⟨43, .guard⟩ (by simp) rfl
                        clear hd ho
                        rw [d44, d43]
                        refine step_openG (by rfl) ?_
                        go_simp
                        exact ⟨rfl, Below.refl _ _⟩
                      | 46 =>
                        intro ho hd
                        obtain rfl := (Option.some.inj ho).symm
                        have d43 : vs 43 = (.bool true) := hd ⟨43, .guard⟩ (by simp) rfl
                        clear hd ho
                        rw [d43]
                        refine step_openG (by rfl) ?_
                        go_simp
                        exact ⟨rfl, Below.refl _ _⟩
                      | 47 =>
                        intro ho hd
                        obtain rfl := (Option.some.inj ho).symm
                        have d46 : vs 46 = (.pointer (some ⟨zb, 0, none⟩)) := hd ⟨46, .data⟩ (by simp) rfl
                        have d43 : vs 43 = (.bool true) := hd ⟨43, .guard⟩ (by simp) rfl
                        clear hd ho
                        rw [d46, d43]
                        refine step_openG (by rfl) ?_
                        go_simp
                        exact ⟨rfl, Below.refl _ _⟩
                      | 48 =>
                        intro ho hd
                        obtain rfl := (Option.some.inj ho).symm
                        have d47 : vs 47 = (.pointer (some ⟨zb, 11, none⟩)) := hd ⟨47, .data⟩ (by simp) rfl
                        have d43 : vs 43 = (.bool true) := hd ⟨43, .guard⟩ (by simp) rfl
                        clear hd ho
                        rw [d47, d43]
                        refine step_openG (by rfl) ?_
                        go_simp
                        exact ⟨rfl, Below.refl _ _⟩
                      | 49 =>
                        intro ho hd
                        obtain rfl := (Option.some.inj ho).symm
                        have d45 : vs 45 = (.int .i64 (sumAt 19 L)) := hd ⟨45, .data⟩ (by simp) rfl
                        have d48 : vs 48 = (.int .i64 (sumAt 11 L)) := hd ⟨48, .data⟩ (by simp) rfl
                        have d43 : vs 43 = (.bool true) := hd ⟨43, .guard⟩ (by simp) rfl
                        clear hd ho
                        rw [d45, d48, d43]
                        refine step_openG (by rfl) ?_
                        go_simp
                        exact ⟨rfl, Below.refl _ _⟩
                      | 50 =>
                        intro ho hd
                        obtain rfl := (Option.some.inj ho).symm
                        have d43 : vs 43 = (.bool true) := hd ⟨43, .data⟩ (by simp) rfl
                        have d49 : vs 49 = (.bool true) := hd ⟨49, .data⟩ (by simp) rfl
                        clear hd ho
                        rw [d43, d49]
                        refine step_open rfl ?_
                        go_simp
                        exact ⟨rfl, Below.refl _ _⟩
                      | 51 =>
                        intro ho hd
                        obtain rfl := (Option.some.inj ho).symm
                        have d50 : vs 50 = (.bool true) := hd ⟨50, .data⟩ (by simp) rfl
                        clear hd ho
                        rw [d50]
                        refine step_open rfl ?_
                        go_simp
                        exact ⟨rfl, Below.refl _ _⟩
                      | n + 52 =>
                        intro ho hd
                        simp at ho
                    · intro vs w1' hb hR
                      have hv : vs 51 = .bool true := hR 51 (by simp)
                      have hbf : Below w.heap.size w w1' := HXYZ.out.2.2.2.trans (hb.mono HXYZ.out.2.2.2.size)
                      simp only [putAll, Act.put, List.setIfInBounds_toArray, List.set_cons_succ, List.set_cons_zero]
                      rw [hv]
                      clear hR hb hv
                      go_wp2_with fail
                      go_returns
                      exact ⟨rfl, hbf⟩
end Go.Proofs.YtgngpanimeigbabDoor
