/- TallyExact: the walk. -/
import Derived.Test.YtgngpanimeigbabDoorE1
import Derived.Test.YtgngpanimeigbabDoorE2
import Derived.Test.YtgngpanimeigbabDoorE4
import Derived.Test.YtgngpanimeigbabDoorE6
namespace Go.Proofs.YtgngpanimeigbabDoor
open Go.RowKit
set_option linter.unusedVariables false
theorem marks_below {B B' : Nat} {w w' : World} {a : Option Addr} {n : Nat} {l : List Mk0} (h : MarksAt B w a n l) (hb : Below B w w') (hB : B ≤ B') : MarksAt B' w' a n l := by
  refine ⟨h.1, ?_⟩
  rcases h.2 with h0 | ⟨b, off, ha, hbB, hc⟩
  · exact .inl h0
  · refine .inr ⟨b, off, ha, by omega, fun i m hi => ?_⟩
    obtain ⟨c0, c1, c2, c3, c4, c5, c6⟩ := hc i m hi
    exact ⟨(hb.cell (p := ⟨b, _, none⟩) hbB).trans c0, (hb.cell (p := ⟨b, _, none⟩) hbB).trans c1, (hb.cell (p := ⟨b, _, none⟩) hbB).trans c2, (hb.cell (p := ⟨b, _, none⟩) hbB).trans c3, (hb.cell (p := ⟨b, _, none⟩) hbB).trans c4, (hb.cell (p := ⟨b, _, none⟩) hbB).trans c5, (hb.cell (p := ⟨b, _, none⟩) hbB).trans c6⟩
theorem of_letE (l : List Mk) (t : List Int) (ht : t = ofF l) (a a2 : Option Addr) (n c c2 : Nat) (w : World) (ho : OpsAt w.heap.size w a n (l.map (·.k))) (hr : RecsAt w.heap.size w a2 n l) :
    Calls Tryd.prog 7 #[.slice a n c, .slice a2 n c2] w fun e w' => e = .returned (.tuple #[.agg (tv t), .int .i64 0]) ∧ Below w.heap.size w w' := by
  subst ht; exact of_any l a a2 n c n c2 w ho hr rfl
/-- A new slice of a tally's lines. -/
def IsL (t : List Int) : Value → World → Prop := fun v w => ∃ q c, v = .slice (some ⟨q, 0, none⟩) 6 c ∧ q < w.heap.size ∧ ∀ i, i < 6 → w.cell? ⟨q, i, none⟩ = some (.string (lineB t i))
theorem lasts_L (t : List Int) : Lasts (IsL t) := fun _ _ _ ⟨q, c, hv, hq, hc⟩ hb => ⟨q, c, hv, by have := hb.size; omega, fun i hi => (hb.cell (p := ⟨q, i, none⟩) hq).trans (hc i hi)⟩
theorem isL_of {t : List Int} {q : Nat} {w : World} (h : w.heap[q]? = some (.cells #[.string (lineB t 0), .string (lineB t 1), .string (lineB t 2), .string (lineB t 3), .string (lineB t 4), .string (lineB t 5)] 9 (0, 0))) : IsL t (.slice (some ⟨q, 0, none⟩) 6 6) w := by
  refine ⟨q, 6, rfl, lt_some h, fun i hi => ?_⟩
  rcases (by omega : i = 0 ∨ i = 1 ∨ i = 2 ∨ i = 3 ∨ i = 4 ∨ i = 5) with rfl | rfl | rfl | rfl | rfl | rfl <;> exact (cell_at h _).trans rfl
def exactR (T x y J : List Int) : List (Value → World → Prop) :=
  [ IsV (.int .i64 0),
    IsV (.bool true),
    IsV (.bool true),
    IsV (.agg (tv T)),
    IsV (.agg (tv T)),
    IsV (.agg (tv T)),
    IsV (.bool true),
    IsV (.bool true),
    IsV (.bool true),
    IsV (.int .i64 4),
    IsV (.bool true),
    IsV (.bool true),
    IsV (.bool true),
    IsV (.agg (tv T)),
    IsL T,
    IsV (.agg (tv T)),
    IsL T,
    IsV (.bool true),
    IsV (.bool true),
    IsV (.bool true),
    IsV (.agg (tv x)),
    IsL x,
    IsV (.agg (tv x)),
    IsV (.agg (tv x)),
    IsL x,
    IsV (.bool true),
    IsV (.bool true),
    IsV (.bool true),
    IsV (.agg (tv x)),
    IsV (.agg (tv y)),
    IsV (.agg (tv J)),
    IsV (.agg (tv J)),
    IsV (.agg (tv x)),
    IsV (.agg (tv x)),
    IsV (.agg (tv y)),
    IsV (.agg (tv y)),
    IsV (.agg (tv J)),
    IsV (.bool true),
    IsV (.bool true),
    IsV (.bool true) ]
theorem exactR_lasts (T x y J : List Int) : ∀ p ∈ exactR T x y J, Lasts p := by
  simp only [exactR, List.mem_cons, List.not_mem_nil, or_false]
  rintro p (rfl | rfl | rfl | rfl | rfl | rfl | rfl | rfl | rfl | rfl | rfl | rfl | rfl | rfl | rfl | rfl | rfl | rfl | rfl | rfl | rfl | rfl | rfl | rfl | rfl | rfl | rfl | rfl | rfl | rfl | rfl | rfl | rfl | rfl | rfl | rfl | rfl | rfl | rfl | rfl) <;> first | exact lasts_v _ | exact lasts_L _
structure Lens (T x y J : List Int) : Prop where
  T : T.length = 22
  x : x.length = 22
  y : y.length = 22
  J : J.length = 22
set_option maxRecDepth 100000 in
set_option maxHeartbeats 4000000 in
theorem exact_walk (l : List Mk0) (a : Option Addr) (n c : Nat) (x y : List Int) (w : World) (hx : x.length = 22) (hy : y.length = 22) (hxi : ∀ v ∈ x, I64 v) (hyi : ∀ v ∈ y, I64 v) (hm : MarksAt w.heap.size w a n l) (hT : Tab w) (hn : n ≤ maxLen) (hver : ∀ m ∈ l, I64 m.rows ∧ I64 m.ver) :
    Calls Tryd.prog 3 #[.slice a n c, .agg (tv x), .agg (tv y)] w fun e w' => e = .returned (.bool true) ∧ Below w.heap.size w w' := by
  obtain ⟨i0, hi, hz0, hz1, hz2⟩ := info_parts Tryd.info48
  have hsx : (tv x).size = 22 := by simp [tv, hx]
  have hsy : (tv y).size = 22 := by simp [tv, hy]
  have ox := tv_one x
  have oy := tv_one y
  have hX0 := keepA (.cells (tv y) 25) (heap_alloc_new w (.cells (tv x) 25))
  have hY0 := heap_alloc_new (w.alloc (.cells (tv x) 25)) (.cells (tv y) 25)
  have hbel0 : Below w.heap.size w ((w.alloc (.cells (tv x) 25)).alloc (.cells (tv y) 25)) := by go_grown
  simp only [World.size_alloc] at hX0 hY0
  have HT := Lib.hid hT
  have HV := Lib.hid hver
  have HM := Lib.hid hm
  have HXY := Lib.hid (And.intro hx (And.intro hy (And.intro hxi hyi)))
  have HB := Lib.hid (And.intro hX0 (And.intro hY0 hbel0))
  clear hT hver hm hx hy hxi hyi hX0 hY0 hbel0
  unfold maxLen at hn
  go_enter Tryd.func3, Tryd.ntmps3
  go_wp2_with fail
  refine (awake_any _ (HT.out.below (B := 0) HB.out.2.2)).mono ?_
  rintro e w1 ⟨rfl, hb1⟩
  obtain ⟨hX0, hY0, hbel0⟩ := HB.out
  have hbw1 : Below w.heap.size w w1 := hbel0.trans (hb1.mono hbel0.size)
  have hzA := hbw1.size
  have hX1 := keep hb1 hX0
  have hY1 := keep hb1 hY0
  clear HB hX0 hY0 hbel0 hb1
  have H1 := Lib.hid (And.intro hX1 (And.intro hY1 hbw1))
  clear hX1 hY1
  generalize hXB : w.heap.size = XB at *
  generalize hYB : XB + 1 = YB at *
  have HXB := Lib.hid hXB
  clear hXB hYB
  by_cases h100 : 100 < n
  · have t1 : decide ((100 : Int) < (n : Int)) = true := by simp; omega
    go_wp2_with fail
    go_returns
    exact ⟨rfl, by rw [HXB.out]; exact hbw1⟩
  · have t1 : decide ((100 : Int) < (n : Int)) = false := by simp; omega
    have hm1 : MarksAt w1.heap.size w1 a n l := by
      have := HM.out
      rw [← HXB.out] at this hbw1
      exact marks_below this hbw1 hbw1.size
    have hrows := rows_any l a n c w1 hm1 (by omega)
    have HROWS := Lib.hid hrows
    clear hrows hm1 hbw1
    go_wp2_with fail
    refine HROWS.out.mono ?_
    clear HROWS
    rintro e w2 ⟨a1, a2, a3, c1, c2, c3, rs, rfl, hrs, ho1, ho2, ho3, hb2⟩
    obtain ⟨T, hTT⟩ : ∃ T, T = ofF (l.map Mk0.mk') := ⟨_, rfl⟩
    have hll : l.length = n := HM.out.1
    have hrl : rs.length = n := by have := congrArg List.length hrs; simpa [hll] using this
    have hOps : OpsAt w2.heap.size w2 a1 n ((l.map Mk0.mk').map (·.k)) := by
      rw [show (l.map Mk0.mk').map (·.k) = l.map (·.k) by simp [Mk0.mk', Function.comp_def]]
      exact ops_of_row ho1 (by simpa using hll) (by omega)
    have hRecs : RecsAt w2.heap.size w2 a2 n (l.map Mk0.mk') := by
      rw [← hrs]
      refine recs_of_row ho2 hrl (by omega) (fun x hx => ?_)
      have : x.1 ∈ l.map Mk0.mk' := by rw [← hrs]; exact List.mem_map_of_mem hx
      obtain ⟨m, _, hm⟩ := List.mem_map.1 this
      rw [← hm]
      have := stN_lt m.st
      show stN m.st ≤ maxLen
      unfold maxLen
      omega
    have hRM : RMarksAt w2.heap.size w2 a3 n l := rmarks_of_row ho3 hll (by omega)
    obtain ⟨hX, hY, hbw⟩ := H1.out
    have hbw2 : Below XB w w2 := hbw.trans (hb2.mono (by have := hbw.size; rw [HXB.out] at this; omega))
    have HZ := Lib.hid hb2.size
    have H2 := Lib.hid (And.intro (keep hb2 hX) (And.intro (keep hb2 hY) (And.intro hbw2 (And.intro ho1 hRM))))
    have HTT := Lib.hid hTT
    have hof := of_letE (l.map Mk0.mk') T hTT a1 a2 n c1 c2 w2 hOps hRecs
    have HOF := Lib.hid hof
    have hTl : T.length = 22 := by rw [hTT, ofF_len]
    have HTL := Lib.hid hTl
    clear hof hOps hRecs hRM hX hY hbw hbw2 hb2 ho1 ho2 ho3 hrs hll hrl hTT hTl H1
    go_wp2_with fail
    refine HOF.out.mono ?_
    clear HOF
    rintro e w3 ⟨rfl, hb3⟩
    obtain ⟨hX, hY, hbw, ho1, hRM⟩ := H2.out
    clear H2
    have hXl := lt_some hX
    have hYl := lt_some hY
    have z2 := hb3.size
    have hWs : XB ≤ w2.heap.size := by omega
    have hT1 := heap_alloc_new w3 (.cells (tv zeros) 25)
    have hX3 := (setRow_other (w3.alloc (.cells (tv zeros) 25)) w3.heap.size XB (tv T) (by omega)).trans (keepA (.cells (tv zeros) 25) (keep hb3 hX))
    have hY3 := (setRow_other (w3.alloc (.cells (tv zeros) 25)) w3.heap.size YB (tv T) (by omega)).trans (keepA (.cells (tv zeros) 25) (keep hb3 hY))
    have hT3 := setRow_heap (w3.alloc (.cells (tv zeros) 25)) w3.heap.size (tv zeros) (tv T) _ _ hT1
    have hb23 : Below w2.heap.size w2 ((w3.alloc (.cells (tv zeros) 25)).setRow w3.heap.size (tv T)) := below_setRow (hb3.alloc z2 _) z2 _
    have hbw3 := hbw.trans (hb23.mono hWs)
    have ho3 := ownsRow_below ho1 hb23
    have hRM3 : RMarksAt ((w3.alloc (.cells (tv zeros) 25)).setRow w3.heap.size (tv T)).heap.size ((w3.alloc (.cells (tv zeros) 25)).setRow w3.heap.size (tv T)) a3 n l := by
      obtain ⟨r1, r2, r3⟩ := hRM
      refine ⟨r1, r2, r3.imp id ?_⟩
      rintro ⟨b, off, ha, hb, hc⟩
      exact ⟨b, off, ha, by have := hb23.size; omega, fun i m hi j u hj => (hb23.cell (p := ⟨b, _, none⟩) hb).trans (hc i m hi j u hj)⟩
    have hs3 := size_of HTL.out
    have hs4 : (tv zeros).size = (tv T).size := by simp [tv, HTL.out, zeros]
    have HS := Lib.hid (And.intro hT1 (And.intro hs3 hs4))
    have HZ := Lib.hid (Nat.le_trans HZ.out hb23.size)
    have H3 := Lib.hid (And.intro hX3 (And.intro hY3 (And.intro hT3 (And.intro hbw3 (And.intro ho3 hRM3)))))
    clear hX hY hbw ho1 hRM hXl hYl hT1 hX3 hY3 hT3 hb23 hbw3 ho3 hRM3 hs3 hs4 hb3 z2 hWs
    go_wp2_with (first | (refine wpList_store_row rfl 25 (.tmp 10) (.tmp 30) rfl w3.heap.size (tv T) rfl rfl 25 (tv zeros) HS.out.1 HS.out.2.1 HS.out.2.2 (tv_one _) ?_))
    obtain ⟨hX, hY, hTb, hbw, ho1, hRM⟩ := H3.out
    clear H3 HS
    rw [zerosV]
    generalize (w3.alloc (.cells (tv zeros) 25)).setRow w3.heap.size (tv T) = w4 at *
    generalize w3.heap.size = TB at *
    have hrof := rof_any l a3 n c3 w4 hRM
    have HROF := Lib.hid hrof
    have H4 := Lib.hid (And.intro hX (And.intro hY (And.intro hTb (And.intro hbw ho1))))
    clear hrof hX hY hTb hbw ho1 hRM
    go_wp2_with fail
    refine HROF.out.mono ?_
    clear HROF
    rintro e w5 ⟨rfl, hb5⟩
    rw [rofF_eq, ← HTT.out]
    obtain ⟨hX, hY, hTb, hbw, ho1⟩ := H4.out
    clear H4
    have z5 := hb5.size
    have hXl := lt_some hX
    have hYl := lt_some hY
    have hTl := lt_some hTb
    have hWs : XB ≤ w4.heap.size := by omega
    have hU1 := heap_alloc_new w5 (.cells (tv zeros) 36)
    have hX3 := (setRow_other (w5.alloc (.cells (tv zeros) 36)) w5.heap.size XB (tv T) (by omega)).trans (keepA (.cells (tv zeros) 36) (keep hb5 hX))
    have hY3 := (setRow_other (w5.alloc (.cells (tv zeros) 36)) w5.heap.size YB (tv T) (by omega)).trans (keepA (.cells (tv zeros) 36) (keep hb5 hY))
    have hT3 := (setRow_other (w5.alloc (.cells (tv zeros) 36)) w5.heap.size TB (tv T) (by omega)).trans (keepA (.cells (tv zeros) 36) (keep hb5 hTb))
    have hU3 := setRow_heap (w5.alloc (.cells (tv zeros) 36)) w5.heap.size (tv zeros) (tv T) _ _ hU1
    have hb45 : Below w4.heap.size w4 ((w5.alloc (.cells (tv zeros) 36)).setRow w5.heap.size (tv T)) := below_setRow (hb5.alloc z5 _) z5 _
    have hbw3 := hbw.trans (hb45.mono hWs)
    have ho3 := ownsRow_below ho1 hb45
    have hs3 := rsize_of HTL.out
    have hs4 : (tv zeros).size = (tv T).size := by simp [tv, HTL.out, zeros]
    have HS := Lib.hid (And.intro hU1 (And.intro hs3 hs4))
    have HZ := Lib.hid (Nat.le_trans HZ.out hb45.size)
    have H5 := Lib.hid (And.intro hX3 (And.intro hY3 (And.intro hT3 (And.intro hU3 (And.intro hbw3 ho3)))))
    clear hX hY hTb hbw ho1 hXl hYl hTl hU1 hX3 hY3 hT3 hU3 hb45 hbw3 ho3 hs3 hs4 hb5 z5 hWs
    go_upto_region 8 with (first | (refine wpList_store_row rfl 36 (.tmp 12) (.tmp 33) rfl w5.heap.size (tv T) rfl rfl 36 (tv zeros) HS.out.1 HS.out.2.1 HS.out.2.2 (tv_one _) ?_))
    obtain ⟨hX, hY, hTb, hU, hbw, ho1⟩ := H5.out
    clear H5 HS
    rw [zerosV]
    generalize (w5.alloc (.cells (tv zeros) 36)).setRow w5.heap.size (tv T) = w6 at *
    generalize w5.heap.size = UB at *
    have hXl := lt_some hX
    have hown1 := ho1.alloc (.cells #[.int .i64 0, .int .u64 0, .int .i64 0, .slice none 0 0, .int .u32 0, .int .u32 0, .int .i64 0, .int .u64 0, .int .i64 0, .slice none 0 0, .int .i64 0, .string ⟨#[]⟩] 48)
    have h1c := World.news_of_block (heap_alloc_new w6 (.cells #[.int .i64 0, .int .u64 0, .int .i64 0, .slice none 0 0, .int .u32 0, .int .u32 0, .int .i64 0, .int .u64 0, .int .i64 0, .slice none 0 0, .int .i64 0, .string ⟨#[]⟩] 48))
    have hones : ∀ u ∈ (#[.int .i64 0, .int .u64 0, .int .i64 0, .slice none 0 0, .int .u32 0, .int .u32 0, .int .i64 0, .int .u64 0, .int .i64 0, .slice none 0 0, .int .i64 0, .string ⟨#[]⟩] : Array Value).toList, u.oneCell' = true := List.all_eq_true.1 rfl
    have HN := Lib.hid (And.intro h1c hones)
    have H6 := Lib.hid (And.intro hX (And.intro hY (And.intro hTb (And.intro hU hbw))))
    have hz6 : w1.heap.size ≤ w6.heap.size := HZ.out
    clear hX hY hTb hU hbw h1c hones
    go_wp2_with (at_builtin; refine wpList_append_own _ rfl (.tmp 35) (.tmp 37) 27 rfl w1.heap.size 48 i0 (.agg #[.int .i64 0, .int .u64 0, .int .i64 0, .slice none 0 0, .int .u32 0, .int .u32 0, .int .i64 0, .int .u64 0, .int .i64 0, .slice none 0 0, .int .i64 0, .string ByteArray.empty]) 12 128 Tryd.underlying27 hi hz0 hz1 hz2 rfl (by decide) (.slice a1 n c1) n ((l.map (·.k)).flatMap opL) rfl hown1 ⟨w6.heap.size, 0, none⟩ 1 1 (#[.int .i64 0, .int .u64 0, .int .i64 0, .slice none 0 0, .int .u32 0, .int .u32 0, .int .i64 0, .int .u64 0, .int .i64 0, .slice none 0 0, .int .i64 0, .string ⟨#[]⟩] : Array Value).toList rfl rfl HN.out.1 HN.out.2 (by unfold maxLen; omega) (by omega) (by simp; omega) ?_)
    intro v' w7 hown7 hg7 _
    obtain ⟨va', vc', hv'⟩ := ownsRow_slice hown7
    rw [hv'] at hown7 ⊢
    clear hv'
    obtain ⟨hX, hY, hTb, hU, hbw⟩ := H6.out
    have hrow := hown1.lt
    have hX7 := keepG hg7 (keepA (.cells #[.int .i64 0, .int .u64 0, .int .i64 0, .slice none 0 0, .int .u32 0, .int .u32 0, .int .i64 0, .int .u64 0, .int .i64 0, .slice none 0 0, .int .i64 0, .string ⟨#[]⟩] 48) hX) (ownsRow_ne_block hown1 (keepA (.cells #[.int .i64 0, .int .u64 0, .int .i64 0, .slice none 0 0, .int .u32 0, .int .u32 0, .int .i64 0, .int .u64 0, .int .i64 0, .slice none 0 0, .int .i64 0, .string ⟨#[]⟩] 48) hX) (fun cur hc => by cases hc))
    have hY7 := keepG hg7 (keepA (.cells #[.int .i64 0, .int .u64 0, .int .i64 0, .slice none 0 0, .int .u32 0, .int .u32 0, .int .i64 0, .int .u64 0, .int .i64 0, .slice none 0 0, .int .i64 0, .string ⟨#[]⟩] 48) hY) (ownsRow_ne_block hown1 (keepA (.cells #[.int .i64 0, .int .u64 0, .int .i64 0, .slice none 0 0, .int .u32 0, .int .u32 0, .int .i64 0, .int .u64 0, .int .i64 0, .slice none 0 0, .int .i64 0, .string ⟨#[]⟩] 48) hY) (fun cur hc => by cases hc))
    have hT7 := keepG hg7 (keepA (.cells #[.int .i64 0, .int .u64 0, .int .i64 0, .slice none 0 0, .int .u32 0, .int .u32 0, .int .i64 0, .int .u64 0, .int .i64 0, .slice none 0 0, .int .i64 0, .string ⟨#[]⟩] 48) hTb) (ownsRow_ne_block hown1 (keepA (.cells #[.int .i64 0, .int .u64 0, .int .i64 0, .slice none 0 0, .int .u32 0, .int .u32 0, .int .i64 0, .int .u64 0, .int .i64 0, .slice none 0 0, .int .i64 0, .string ⟨#[]⟩] 48) hTb) (fun cur hc => by cases hc))
    have hU7 := keepG hg7 (keepA (.cells #[.int .i64 0, .int .u64 0, .int .i64 0, .slice none 0 0, .int .u32 0, .int .u32 0, .int .i64 0, .int .u64 0, .int .i64 0, .slice none 0 0, .int .i64 0, .string ⟨#[]⟩] 48) hU) (ownsRow_ne_block hown1 (keepA (.cells #[.int .i64 0, .int .u64 0, .int .i64 0, .slice none 0 0, .int .u32 0, .int .u32 0, .int .i64 0, .int .u64 0, .int .i64 0, .slice none 0 0, .int .i64 0, .string ⟨#[]⟩] 48) hU) (fun cur hc => by cases hc))
    have hbw7 : Below XB w w7 := (hbw.alloc (by have := hbw.size; rw [HXB.out] at this; omega) _).grown hg7 (by simp; omega) (fun x hx => Nat.le_trans hzA (hrow x hx).1)
    have H7 := Lib.hid (And.intro hX7 (And.intro hY7 (And.intro hT7 (And.intro hU7 hbw7))))
    clear hX hY hTb hU hbw hrow hX7 hY7 hT7 hU7 hbw7 hown7 hg7 hown1 ho1 H6 HN hXl hz6 hi hz0 hz1 hz2
    go_wp2_with fail
    refine (of_form va' a2 (n + 1) vc' n c2 w7 (by omega) (by omega) (by omega)).mono ?_
    rintro e w8 ⟨rfl, hb8⟩
    obtain ⟨hX, hY, hTb, hU, hbw⟩ := H7.out
    clear H7
    have hz8 := hb8.size
    have hXl := lt_some hX
    have hYl := lt_some hY
    have hTl := lt_some hTb
    have hUl := lt_some hU
    have hWs : XB ≤ w7.heap.size := by omega
    have hF1 := heap_alloc_new w8 (.cells (tv zeros) 25)
    have hX3 := (setRow_other (w8.alloc (.cells (tv zeros) 25)) w8.heap.size XB (tv zeros) (by omega)).trans (keepA (.cells (tv zeros) 25) (keep hb8 hX))
    have hY3 := (setRow_other (w8.alloc (.cells (tv zeros) 25)) w8.heap.size YB (tv zeros) (by omega)).trans (keepA (.cells (tv zeros) 25) (keep hb8 hY))
    have hT3 := (setRow_other (w8.alloc (.cells (tv zeros) 25)) w8.heap.size TB (tv zeros) (by omega)).trans (keepA (.cells (tv zeros) 25) (keep hb8 hTb))
    have hU3 := (setRow_other (w8.alloc (.cells (tv zeros) 25)) w8.heap.size UB (tv zeros) (by omega)).trans (keepA (.cells (tv zeros) 25) (keep hb8 hU))
    have hb78 : Below w7.heap.size w7 ((w8.alloc (.cells (tv zeros) 25)).setRow w8.heap.size (tv zeros)) := below_setRow (hb8.alloc hz8 _) hz8 _
    have hbw3 := hbw.trans (hb78.mono hWs)
    have HS := Lib.hid (And.intro hF1 (size_of (t := zeros) rfl))
    have H8 := Lib.hid (And.intro hX3 (And.intro hY3 (And.intro hT3 (And.intro hU3 hbw3))))
    clear hX hY hTb hU hbw hXl hYl hTl hUl hF1 hX3 hY3 hT3 hU3 hb78 hbw3 hb8 hz8 hWs
    go_upto_region 9 with (first | (refine wpList_store_row rfl 25 (.tmp 13) (.tmp 41) rfl w8.heap.size (tv zeros) rfl rfl 25 (tv zeros) HS.out.1 HS.out.2 rfl (tv_one _) ?_))
    rw [zerosV]
    clear HS HZ
    obtain ⟨hX, hY, hTb, hU, hbw⟩ := H8.out
    clear H8
    generalize (w8.alloc (.cells (tv zeros) 25)).setRow w8.heap.size (tv zeros) = w9 at *
    have hxl : x.length = 22 := HXY.out.1
    have hyl : y.length = 22 := HXY.out.2.1
    obtain ⟨J, hJJ⟩ : ∃ J, J = joinF x y := ⟨_, rfl⟩
    have HJ := Lib.hid hJJ.symm
    have hgT : ∀ i, I64 (gt T i) := by
      rw [HTT.out]
      refine ofF_i64 _ (fun z hz => ?_)
      obtain ⟨m, hm, rfl⟩ := List.mem_map.1 hz
      exact HV.out m hm
    have HGT := Lib.hid hgT
    have HGJ := Lib.hid (show ∀ i, I64 (gt J i) by rw [hJJ]; exact joinF_i64 hxl (i64_gt HXY.out.2.2.1) (i64_gt HXY.out.2.2.2))
    have HIT := Lib.hid (i64_mem hgT)
    have HIx := Lib.hid HXY.out.2.2.1
    have HL : Hid (Lens T x y J) := Lib.hid ⟨HTL.out, hxl, hyl, by rw [hJJ, joinF_len, hxl]⟩
    have sT := Lib.hid (size_of HTL.out)
    have sU := Lib.hid (rsize_of HTL.out)
    have sX := Lib.hid (size_of hxl)
    have sY := Lib.hid (size_of hyl)
    have H9 := Lib.hid (And.intro hX (And.intro hY (And.intro hTb (And.intro hU hbw))))
    clear hX hY hTb hU hbw hxl hyl hJJ hgT
    refine wp_region_grow (by kernel_rfl) (by kernel_rfl) (by kernel_rfl) (byList (exactR T x y J)) (lasts_list (exactR_lasts T x y J)) ?_ ?_
    · intro vs w1' i o hb ho hd
      simp only [putAll, Act.put, List.setIfInBounds_toArray, List.set_cons_succ, List.set_cons_zero]
      have hX1 := keep hb H9.out.1
      have hY1 := keep hb H9.out.2.1
      have hT1 := keep hb H9.out.2.2.1
      have hU1 := keep hb H9.out.2.2.2.1
      have hTab : Tab w1' := HT.out.below (B := 0) (by
        have h := H9.out.2.2.2.2
        have hs := h.size
        rw [HXB.out] at hs ⊢
        exact h.trans (hb.mono hs))
      clear hb
      revert ho hd
      match i with
        | 0 =>
          intro ho hd
          obtain rfl := (Option.some.inj ho).symm
          clear hd ho
          refine step_open rfl ?_
          go_simp
          exact ⟨rfl, Below.refl _ _⟩
        | 1 =>
          intro ho hd
          obtain rfl := (Option.some.inj ho).symm
          have d0 : vs 0 = (.int .i64 0) := hd ⟨0, .data⟩ (by simp) rfl
          clear hd ho
          rw [d0]
          refine step_open rfl ?_
          go_simp
          exact ⟨rfl, Below.refl _ _⟩
        | 2 =>
          intro ho hd
          obtain rfl := (Option.some.inj ho).symm
          have d1 : vs 1 = (.bool true) := hd ⟨1, .data⟩ (by simp) rfl
          clear hd ho
          rw [d1]
          refine step_open rfl ?_
          go_simp
          exact ⟨rfl, Below.refl _ _⟩
        | 3 =>
          intro ho hd
          obtain rfl := (Option.some.inj ho).symm
          have d2 : vs 2 = (.bool true) := hd ⟨2, .guard⟩ (by simp) rfl
          clear hd ho
          rw [d2]
          exact step_openG (by rfl) (wp_load_row 25 (.tmp 10) rfl TB rfl 25 (tv T) (0, 0) _ hT1 Tryd.underlying25 rfl sT.out ⟨_, rfl, rfl, Below.refl _ _⟩)
        | 4 =>
          intro ho hd
          obtain rfl := (Option.some.inj ho).symm
          have d3 : vs 3 = (.agg (tv T)) := hd ⟨3, .data⟩ (by simp) rfl
          have d2 : vs 2 = (.bool true) := hd ⟨2, .guard⟩ (by simp) rfl
          clear hd ho
          rw [d3, d2]
          refine step_openG (by rfl) ?_
          go_simp
          refine (form_any T _ HL.out.T).mono ?_
          rintro e w2 ⟨rfl, hb2⟩
          exact ⟨rfl, hb2⟩
        | 5 =>
          intro ho hd
          obtain rfl := (Option.some.inj ho).symm
          have d2 : vs 2 = (.bool true) := hd ⟨2, .guard⟩ (by simp) rfl
          clear hd ho
          rw [d2]
          exact step_openG (by rfl) (wp_load_row 36 (.tmp 12) rfl UB rfl 36 (tv T) (0, 0) _ hU1 Tryd.underlying36 rfl sU.out ⟨_, rfl, rfl, Below.refl _ _⟩)
        | 6 =>
          intro ho hd
          obtain rfl := (Option.some.inj ho).symm
          have d4 : vs 4 = (.agg (tv T)) := hd ⟨4, .data⟩ (by simp) rfl
          have d5 : vs 5 = (.agg (tv T)) := hd ⟨5, .data⟩ (by simp) rfl
          have d2 : vs 2 = (.bool true) := hd ⟨2, .guard⟩ (by simp) rfl
          clear hd ho
          rw [d4, d5, d2]
          refine step_openG (by rfl) ?_
          unfold Oper.wp
          rw [ragg_eql T HL.out.T HGT.out _ _ _ _ _ _ _ _ _ rfl rfl]
          exact ⟨_, rfl, rfl, Below.refl _ _⟩
        | 7 =>
          intro ho hd
          obtain rfl := (Option.some.inj ho).symm
          have d2 : vs 2 = (.bool true) := hd ⟨2, .data⟩ (by simp) rfl
          have d6 : vs 6 = (.bool true) := hd ⟨6, .data⟩ (by simp) rfl
          clear hd ho
          rw [d2, d6]
          refine step_open rfl ?_
          go_simp
          exact ⟨rfl, Below.refl _ _⟩
        | 8 =>
          intro ho hd
          obtain rfl := (Option.some.inj ho).symm
          have d7 : vs 7 = (.bool true) := hd ⟨7, .data⟩ (by simp) rfl
          clear hd ho
          rw [d7]
          refine step_open rfl ?_
          go_simp
          exact ⟨rfl, Below.refl _ _⟩
        | 9 =>
          intro ho hd
          obtain rfl := (Option.some.inj ho).symm
          have d8 : vs 8 = (.bool true) := hd ⟨8, .guard⟩ (by simp) rfl
          clear hd ho
          rw [d8]
          refine step_openG (by rfl) ?_
          go_simp
          exact ⟨rfl, Below.refl _ _⟩
        | 10 =>
          intro ho hd
          obtain rfl := (Option.some.inj ho).symm
          have d9 : vs 9 = (.int .i64 4) := hd ⟨9, .data⟩ (by simp) rfl
          have d8 : vs 8 = (.bool true) := hd ⟨8, .guard⟩ (by simp) rfl
          clear hd ho
          rw [d9, d8]
          refine step_openG (by rfl) ?_
          go_simp
          exact ⟨rfl, Below.refl _ _⟩
        | 11 =>
          intro ho hd
          obtain rfl := (Option.some.inj ho).symm
          have d8 : vs 8 = (.bool true) := hd ⟨8, .data⟩ (by simp) rfl
          have d10 : vs 10 = (.bool true) := hd ⟨10, .data⟩ (by simp) rfl
          clear hd ho
          rw [d8, d10]
          refine step_open rfl ?_
          go_simp
          exact ⟨rfl, Below.refl _ _⟩
        | 12 =>
          intro ho hd
          obtain rfl := (Option.some.inj ho).symm
          have d11 : vs 11 = (.bool true) := hd ⟨11, .data⟩ (by simp) rfl
          clear hd ho
          rw [d11]
          refine step_open rfl ?_
          go_simp
          exact ⟨rfl, Below.refl _ _⟩
        | 13 =>
          intro ho hd
          obtain rfl := (Option.some.inj ho).symm
          have d12 : vs 12 = (.bool true) := hd ⟨12, .guard⟩ (by simp) rfl
          clear hd ho
          rw [d12]
          exact step_openG (by rfl) (wp_load_row 25 (.tmp 10) rfl TB rfl 25 (tv T) (0, 0) _ hT1 Tryd.underlying25 rfl sT.out ⟨_, rfl, rfl, Below.refl _ _⟩)
        | 14 =>
          intro ho hd
          obtain rfl := (Option.some.inj ho).symm
          have d13 : vs 13 = (.agg (tv T)) := hd ⟨13, .data⟩ (by simp) rfl
          have d12 : vs 12 = (.bool true) := hd ⟨12, .guard⟩ (by simp) rfl
          clear hd ho
          rw [d13, d12]
          refine step_openG (by rfl) ?_
          go_simp
          refine (lines_any T _ HL.out.T HIT.out hTab).mono ?_
          rintro e w2 ⟨q, rfl, hq, hb2⟩
          exact ⟨isL_of hq, hb2⟩
        | 15 =>
          intro ho hd
          obtain rfl := (Option.some.inj ho).symm
          have d12 : vs 12 = (.bool true) := hd ⟨12, .guard⟩ (by simp) rfl
          clear hd ho
          rw [d12]
          exact step_openG (by rfl) (wp_load_row 36 (.tmp 12) rfl UB rfl 36 (tv T) (0, 0) _ hU1 Tryd.underlying36 rfl sU.out ⟨_, rfl, rfl, Below.refl _ _⟩)
        | 16 =>
          intro ho hd
          obtain rfl := (Option.some.inj ho).symm
          have d15 : vs 15 = (.agg (tv T)) := hd ⟨15, .data⟩ (by simp) rfl
          have d12 : vs 12 = (.bool true) := hd ⟨12, .guard⟩ (by simp) rfl
          clear hd ho
          rw [d15, d12]
          refine step_openG (by rfl) ?_
          go_simp
          refine (rlines_any T _ HL.out.T HIT.out).mono ?_
          rintro e w2 ⟨q, c, rfl, hc, hq, hb2⟩
          exact ⟨⟨q, c, rfl, hq, hc⟩, hb2⟩
        | 17 =>
          intro ho hd
          obtain rfl := (Option.some.inj ho).symm
          obtain ⟨q14, c14, d14, l14, s14⟩ : IsL T (vs 14) w1' := hd ⟨14, .data⟩ (by simp) rfl
          obtain ⟨q16, c16, d16, l16, s16⟩ : IsL T (vs 16) w1' := hd ⟨16, .data⟩ (by simp) rfl
          have d12 : vs 12 = (.bool true) := hd ⟨12, .guard⟩ (by simp) rfl
          clear hd ho
          rw [d14, d16, d12]
          refine step_openG (by rfl) ?_
          go_simp
          refine (same_any (lineB T) q14 q16 6 _ _ _ (by omega) l14 l16 s14 s16).mono ?_
          rintro e w2 ⟨rfl, hb2⟩
          exact ⟨rfl, hb2⟩
        | 18 =>
          intro ho hd
          obtain rfl := (Option.some.inj ho).symm
          have d12 : vs 12 = (.bool true) := hd ⟨12, .data⟩ (by simp) rfl
          have d17 : vs 17 = (.bool true) := hd ⟨17, .data⟩ (by simp) rfl
          clear hd ho
          rw [d12, d17]
          refine step_open rfl ?_
          go_simp
          exact ⟨rfl, Below.refl _ _⟩
        | 19 =>
          intro ho hd
          obtain rfl := (Option.some.inj ho).symm
          have d18 : vs 18 = (.bool true) := hd ⟨18, .data⟩ (by simp) rfl
          clear hd ho
          rw [d18]
          refine step_open rfl ?_
          go_simp
          exact ⟨rfl, Below.refl _ _⟩
        | 20 =>
          intro ho hd
          obtain rfl := (Option.some.inj ho).symm
          have d19 : vs 19 = (.bool true) := hd ⟨19, .guard⟩ (by simp) rfl
          clear hd ho
          rw [d19]
          exact step_openG (by rfl) (wp_load_row 25 (.tmp 4) rfl XB rfl 25 (tv x) (0, 0) _ hX1 Tryd.underlying25 rfl sX.out ⟨_, rfl, rfl, Below.refl _ _⟩)
        | 21 =>
          intro ho hd
          obtain rfl := (Option.some.inj ho).symm
          have d20 : vs 20 = (.agg (tv x)) := hd ⟨20, .data⟩ (by simp) rfl
          have d19 : vs 19 = (.bool true) := hd ⟨19, .guard⟩ (by simp) rfl
          clear hd ho
          rw [d20, d19]
          refine step_openG (by rfl) ?_
          go_simp
          refine (lines_any x _ HL.out.x HIx.out hTab).mono ?_
          rintro e w2 ⟨q, rfl, hq, hb2⟩
          exact ⟨isL_of hq, hb2⟩
        | 22 =>
          intro ho hd
          obtain rfl := (Option.some.inj ho).symm
          have d19 : vs 19 = (.bool true) := hd ⟨19, .guard⟩ (by simp) rfl
          clear hd ho
          rw [d19]
          exact step_openG (by rfl) (wp_load_row 25 (.tmp 4) rfl XB rfl 25 (tv x) (0, 0) _ hX1 Tryd.underlying25 rfl sX.out ⟨_, rfl, rfl, Below.refl _ _⟩)
        | 23 =>
          intro ho hd
          obtain rfl := (Option.some.inj ho).symm
          have d22 : vs 22 = (.agg (tv x)) := hd ⟨22, .data⟩ (by simp) rfl
          have d19 : vs 19 = (.bool true) := hd ⟨19, .guard⟩ (by simp) rfl
          clear hd ho
          rw [d22, d19]
          refine step_openG (by rfl) ?_
          go_simp
          refine (form_any x _ HL.out.x).mono ?_
          rintro e w2 ⟨rfl, hb2⟩
          exact ⟨rfl, hb2⟩
        | 24 =>
          intro ho hd
          obtain rfl := (Option.some.inj ho).symm
          have d23 : vs 23 = (.agg (tv x)) := hd ⟨23, .data⟩ (by simp) rfl
          have d19 : vs 19 = (.bool true) := hd ⟨19, .guard⟩ (by simp) rfl
          clear hd ho
          rw [d23, d19]
          refine step_openG (by rfl) ?_
          go_simp
          refine (rlines_any x _ HL.out.x HIx.out).mono ?_
          rintro e w2 ⟨q, c, rfl, hc, hq, hb2⟩
          exact ⟨⟨q, c, rfl, hq, hc⟩, hb2⟩
        | 25 =>
          intro ho hd
          obtain rfl := (Option.some.inj ho).symm
          obtain ⟨q21, c21, d21, l21, s21⟩ : IsL x (vs 21) w1' := hd ⟨21, .data⟩ (by simp) rfl
          obtain ⟨q24, c24, d24, l24, s24⟩ : IsL x (vs 24) w1' := hd ⟨24, .data⟩ (by simp) rfl
          have d19 : vs 19 = (.bool true) := hd ⟨19, .guard⟩ (by simp) rfl
          clear hd ho
          rw [d21, d24, d19]
          refine step_openG (by rfl) ?_
          go_simp
          refine (same_any (lineB x) q21 q24 6 _ _ _ (by omega) l21 l24 s21 s24).mono ?_
          rintro e w2 ⟨rfl, hb2⟩
          exact ⟨rfl, hb2⟩
        | 26 =>
          intro ho hd
          obtain rfl := (Option.some.inj ho).symm
          have d19 : vs 19 = (.bool true) := hd ⟨19, .data⟩ (by simp) rfl
          have d25 : vs 25 = (.bool true) := hd ⟨25, .data⟩ (by simp) rfl
          clear hd ho
          rw [d19, d25]
          refine step_open rfl ?_
          go_simp
          exact ⟨rfl, Below.refl _ _⟩
        | 27 =>
          intro ho hd
          obtain rfl := (Option.some.inj ho).symm
          have d26 : vs 26 = (.bool true) := hd ⟨26, .data⟩ (by simp) rfl
          clear hd ho
          rw [d26]
          refine step_open rfl ?_
          go_simp
          exact ⟨rfl, Below.refl _ _⟩
        | 28 =>
          intro ho hd
          obtain rfl := (Option.some.inj ho).symm
          have d27 : vs 27 = (.bool true) := hd ⟨27, .guard⟩ (by simp) rfl
          clear hd ho
          rw [d27]
          exact step_openG (by rfl) (wp_load_row 25 (.tmp 4) rfl XB rfl 25 (tv x) (0, 0) _ hX1 Tryd.underlying25 rfl sX.out ⟨_, rfl, rfl, Below.refl _ _⟩)
        | 29 =>
          intro ho hd
          obtain rfl := (Option.some.inj ho).symm
          have d27 : vs 27 = (.bool true) := hd ⟨27, .guard⟩ (by simp) rfl
          clear hd ho
          rw [d27]
          exact step_openG (by rfl) (wp_load_row 25 (.tmp 5) rfl YB rfl 25 (tv y) (0, 0) _ hY1 Tryd.underlying25 rfl sY.out ⟨_, rfl, rfl, Below.refl _ _⟩)
        | 30 =>
          intro ho hd
          obtain rfl := (Option.some.inj ho).symm
          have d28 : vs 28 = (.agg (tv x)) := hd ⟨28, .data⟩ (by simp) rfl
          have d29 : vs 29 = (.agg (tv y)) := hd ⟨29, .data⟩ (by simp) rfl
          have d27 : vs 27 = (.bool true) := hd ⟨27, .guard⟩ (by simp) rfl
          clear hd ho
          rw [d28, d29, d27]
          refine step_openG (by rfl) ?_
          go_simp
          refine (join_any x y _ HL.out.x HL.out.y).mono ?_
          rintro e w2 ⟨rfl, hb2⟩
          rw [HJ.out]
          exact ⟨rfl, hb2⟩
        | 31 =>
          intro ho hd
          obtain rfl := (Option.some.inj ho).symm
          have d30 : vs 30 = (.agg (tv J)) := hd ⟨30, .data⟩ (by simp) rfl
          have d27 : vs 27 = (.bool true) := hd ⟨27, .guard⟩ (by simp) rfl
          clear hd ho
          rw [d30, d27]
          refine step_openG (by rfl) ?_
          go_simp
          refine (form_any J _ HL.out.J).mono ?_
          rintro e w2 ⟨rfl, hb2⟩
          exact ⟨rfl, hb2⟩
        | 32 =>
          intro ho hd
          obtain rfl := (Option.some.inj ho).symm
          have d27 : vs 27 = (.bool true) := hd ⟨27, .guard⟩ (by simp) rfl
          clear hd ho
          rw [d27]
          exact step_openG (by rfl) (wp_load_row 25 (.tmp 4) rfl XB rfl 25 (tv x) (0, 0) _ hX1 Tryd.underlying25 rfl sX.out ⟨_, rfl, rfl, Below.refl _ _⟩)
        | 33 =>
          intro ho hd
          obtain rfl := (Option.some.inj ho).symm
          have d32 : vs 32 = (.agg (tv x)) := hd ⟨32, .data⟩ (by simp) rfl
          have d27 : vs 27 = (.bool true) := hd ⟨27, .guard⟩ (by simp) rfl
          clear hd ho
          rw [d32, d27]
          refine step_openG (by rfl) ?_
          go_simp
          refine (form_any x _ HL.out.x).mono ?_
          rintro e w2 ⟨rfl, hb2⟩
          exact ⟨rfl, hb2⟩
        | 34 =>
          intro ho hd
          obtain rfl := (Option.some.inj ho).symm
          have d27 : vs 27 = (.bool true) := hd ⟨27, .guard⟩ (by simp) rfl
          clear hd ho
          rw [d27]
          exact step_openG (by rfl) (wp_load_row 25 (.tmp 5) rfl YB rfl 25 (tv y) (0, 0) _ hY1 Tryd.underlying25 rfl sY.out ⟨_, rfl, rfl, Below.refl _ _⟩)
        | 35 =>
          intro ho hd
          obtain rfl := (Option.some.inj ho).symm
          have d34 : vs 34 = (.agg (tv y)) := hd ⟨34, .data⟩ (by simp) rfl
          have d27 : vs 27 = (.bool true) := hd ⟨27, .guard⟩ (by simp) rfl
          clear hd ho
          rw [d34, d27]
          refine step_openG (by rfl) ?_
          go_simp
          refine (form_any y _ HL.out.y).mono ?_
          rintro e w2 ⟨rfl, hb2⟩
          exact ⟨rfl, hb2⟩
        | 36 =>
          intro ho hd
          obtain rfl := (Option.some.inj ho).symm
          have d33 : vs 33 = (.agg (tv x)) := hd ⟨33, .data⟩ (by simp) rfl
          have d35 : vs 35 = (.agg (tv y)) := hd ⟨35, .data⟩ (by simp) rfl
          have d27 : vs 27 = (.bool true) := hd ⟨27, .guard⟩ (by simp) rfl
          clear hd ho
          rw [d33, d35, d27]
          refine step_openG (by rfl) ?_
          go_simp
          refine (rjoin_any x y _ HL.out.x HL.out.y).mono ?_
          rintro e w2 ⟨rfl, hb2⟩
          rw [HJ.out]
          exact ⟨rfl, hb2⟩
        | 37 =>
          intro ho hd
          obtain rfl := (Option.some.inj ho).symm
          have d31 : vs 31 = (.agg (tv J)) := hd ⟨31, .data⟩ (by simp) rfl
          have d36 : vs 36 = (.agg (tv J)) := hd ⟨36, .data⟩ (by simp) rfl
          have d27 : vs 27 = (.bool true) := hd ⟨27, .guard⟩ (by simp) rfl
          clear hd ho
          rw [d31, d36, d27]
          refine step_openG (by rfl) ?_
          unfold Oper.wp
          rw [ragg_eql J HL.out.J HGJ.out _ _ _ _ _ _ _ _ _ rfl rfl]
          exact ⟨_, rfl, rfl, Below.refl _ _⟩
        | 38 =>
          intro ho hd
          obtain rfl := (Option.some.inj ho).symm
          have d27 : vs 27 = (.bool true) := hd ⟨27, .data⟩ (by simp) rfl
          have d37 : vs 37 = (.bool true) := hd ⟨37, .data⟩ (by simp) rfl
          clear hd ho
          rw [d27, d37]
          refine step_open rfl ?_
          go_simp
          exact ⟨rfl, Below.refl _ _⟩
        | 39 =>
          intro ho hd
          obtain rfl := (Option.some.inj ho).symm
          have d38 : vs 38 = (.bool true) := hd ⟨38, .data⟩ (by simp) rfl
          clear hd ho
          rw [d38]
          refine step_open rfl ?_
          go_simp
          exact ⟨rfl, Below.refl _ _⟩
        | n + 40 =>
          intro ho hd
          simp at ho
    · intro vs w1' hb hR
      have hv : vs 39 = .bool true := hR 39 (by simp)
      have hbf : Below w.heap.size w w1' := by
        have h := H9.out.2.2.2.2
        have hs := h.size
        rw [HXB.out] at hs ⊢
        exact h.trans (hb.mono hs)
      simp only [putAll, Act.put, List.setIfInBounds_toArray, List.set_cons_succ, List.set_cons_zero]
      rw [hv]
      clear hR hb hv
      go_wp2_with fail
      go_returns
      exact ⟨rfl, hbf⟩
end Go.Proofs.YtgngpanimeigbabDoor
