/- Contract of tally.Of. -/
import Derived.Test.YtgngpanimeigbabDoorT1
import Derived.Test.YtgngpanimeigbabDoorT2
import Derived.Deep.WholeRow
namespace Go.Proofs.YtgngpanimeigbabDoor
open Go.RowKit
set_option linter.unusedVariables false

structure Mk where
  k : Int
  code : Int
  done : Int
  failed : Int
  sn : Nat
  rows : Int
  ver : Int
def OpCells (w : World) (b o : Nat) (k : Int) : Prop :=
  ∃ (ent comp : Int) (pa : Option Addr) (pn pc : Nat) (all no ck ce cc : Int) (qa : Option Addr) (qn qc : Nat) (units : Int) (bytes : ByteArray), ∀ j u, (opArr k ent comp pa pn pc all no ck ce cc qa qn qc units bytes)[j]? = some u → w.cell? ⟨b, o + j, none⟩ = some u
def RecCells (w : World) (b o : Nat) (m : Mk) : Prop :=
  m.sn ≤ maxLen ∧ ∃ (xent : Int) (va : Option Addr) (vn vc : Nat) (ra : Option Addr) (rn rc : Nat) (sa : Option Addr) (sc : Nat) (sum : Int) (upg : Bool) (tabs jour : Int), ∀ j u, (recArr m.code xent va vn vc ra rn rc m.done m.failed sa m.sn sc sum m.ver upg m.rows tabs jour)[j]? = some u → w.cell? ⟨b, o + j, none⟩ = some u
def OpsAt (B : Nat) (w : World) (a : Option Addr) (n : Nat) (l : List Int) : Prop :=
  l.length = n ∧ n ≤ 1000000 ∧ (n = 0 ∨ ∃ b off, a = some ⟨b, off, none⟩ ∧ b < B ∧ ∀ (i : Nat) (k : Int), l[i]? = some k → OpCells w b (off + i * 12) k)
def RecsAt (B : Nat) (w : World) (a : Option Addr) (n : Nat) (l : List Mk) : Prop :=
  l.length = n ∧ n ≤ 1000000 ∧ (n = 0 ∨ ∃ b off, a = some ⟨b, off, none⟩ ∧ b < B ∧ ∀ (i : Nat) (m : Mk), l[i]? = some m → RecCells w b (off + i * 13) m)
theorem OpCells.below {B : Nat} {w w' : World} {b o : Nat} {k : Int} (h : OpCells w b o k) (hb : Below B w w') (hB : b < B) : OpCells w' b o k := by
  obtain ⟨x1, x2, x3, x4, x5, x6, x7, x8, x9, x10, x11, x12, x13, x14, x15, h⟩ := h
  exact ⟨x1, x2, x3, x4, x5, x6, x7, x8, x9, x10, x11, x12, x13, x14, x15, fun j u hj => (hb.cell (p := ⟨b, o + j, none⟩) hB).trans (h j u hj)⟩
theorem RecCells.below {B : Nat} {w w' : World} {b o : Nat} {m : Mk} (h : RecCells w b o m) (hb : Below B w w') (hB : b < B) : RecCells w' b o m := by
  obtain ⟨h0, x1, x2, x3, x4, x5, x6, x7, x8, x9, x10, x11, x12, x13, h⟩ := h
  exact ⟨h0, x1, x2, x3, x4, x5, x6, x7, x8, x9, x10, x11, x12, x13, fun j u hj => (hb.cell (p := ⟨b, o + j, none⟩) hB).trans (h j u hj)⟩
theorem OpsAt.below {B : Nat} {w w' : World} {a : Option Addr} {n : Nat} {l : List Int} (h : OpsAt B w a n l) (hb : Below B w w') : OpsAt B w' a n l := by
  obtain ⟨h1, h2, h3⟩ := h
  refine ⟨h1, h2, ?_⟩
  rcases h3 with h3 | ⟨b, off, ha, hB, hc⟩
  · exact .inl h3
  · exact .inr ⟨b, off, ha, hB, fun i k hk => (hc i k hk).below hb hB⟩
theorem RecsAt.below {B : Nat} {w w' : World} {a : Option Addr} {n : Nat} {l : List Mk} (h : RecsAt B w a n l) (hb : Below B w w') : RecsAt B w' a n l := by
  obtain ⟨h1, h2, h3⟩ := h
  refine ⟨h1, h2, ?_⟩
  rcases h3 with h3 | ⟨b, off, ha, hB, hc⟩
  · exact .inl h3
  · exact .inr ⟨b, off, ha, hB, fun i k hk => (hc i k hk).below hb hB⟩
def oneM (m : Mk) : List Int := oneF m.k m.code m.done m.failed m.sn m.rows m.ver
def stepM (t : List Int) (m : Mk) : List Int := (joinF t (oneM m)).set 21 m.ver
def ofF (l : List Mk) : List Int := l.foldl stepM zeros
theorem stepM_len (t : List Int) (m : Mk) : (stepM t m).length = t.length := by simp [stepM, joinF_len]
theorem foldM_len (l : List Mk) : ∀ t : List Int, (l.foldl stepM t).length = t.length := by
  induction l with
  | nil => intro t; rfl
  | cons m r ih => intro t; rw [List.foldl_cons, ih, stepM_len]
theorem ofF_len (l : List Mk) : (ofF l).length = 22 := by unfold ofF; rw [foldM_len]; rfl
theorem ofF_snoc (l : List Mk) (m : Mk) : ofF (l ++ [m]) = stepM (ofF l) m := by simp [ofF]
theorem oneM_ver (m : Mk) : gt (oneM m) 21 = m.ver := by
  have hl : 21 < (oneB m.k m.code m.done m.failed m.sn).length := by rw [oneB_len]; omega
  simp [oneM, oneF, gt, List.getD, hl]

theorem tv_lit (t : List Int) (h : t.length = 22) : tv t = #[.int .i64 (gt t 0), .int .i64 (gt t 1), .int .i64 (gt t 2), .int .i64 (gt t 3), .int .i64 (gt t 4), .int .i64 (gt t 5), .int .i64 (gt t 6), .int .i64 (gt t 7), .int .i64 (gt t 8), .int .i64 (gt t 9), .int .i64 (gt t 10), .int .i64 (gt t 11), .int .i64 (gt t 12), .int .i64 (gt t 13), .int .i64 (gt t 14), .int .i64 (gt t 15), .int .i64 (gt t 16), .int .i64 (gt t 17), .int .i64 (gt t 18), .int .i64 (gt t 19), .int .i64 (gt t 20), .int .i64 (gt t 21)] := by
  apply Array.ext_getElem?
  intro i
  by_cases hi : i < 22
  · rw [tv_get (getD_some (by omega))]
    rcases (by omega : i = 0 ∨ i = 1 ∨ i = 2 ∨ i = 3 ∨ i = 4 ∨ i = 5 ∨ i = 6 ∨ i = 7 ∨ i = 8 ∨ i = 9 ∨ i = 10 ∨ i = 11 ∨ i = 12 ∨ i = 13 ∨ i = 14 ∨ i = 15 ∨ i = 16 ∨ i = 17 ∨ i = 18 ∨ i = 19 ∨ i = 20 ∨ i = 21) with rfl | rfl | rfl | rfl | rfl | rfl | rfl | rfl | rfl | rfl | rfl | rfl | rfl | rfl | rfl | rfl | rfl | rfl | rfl | rfl | rfl | rfl <;> rfl
  · rw [Array.getElem?_eq_none (by simp [tv]; omega), Array.getElem?_eq_none (by simp; omega)]
theorem one_let (m : Mk) (t : List Int) (ht : t = oneM m) (ent comp : Int) (pa : Option Addr) (pn pc : Nat) (all no ck ce cc : Int) (qa : Option Addr) (qn qc : Nat) (units : Int) (bytes : ByteArray)
    (xent : Int) (va : Option Addr) (vn vc : Nat) (ra : Option Addr) (rn rc : Nat) (sa : Option Addr) (sc : Nat) (sum : Int) (upg : Bool) (tabs jour : Int) (w : World) (hsn : m.sn ≤ maxLen) :
    Calls Tryd.prog 15 #[.agg (opArr m.k ent comp pa pn pc all no ck ce cc qa qn qc units bytes), .agg (recArr m.code xent va vn vc ra rn rc m.done m.failed sa m.sn sc sum m.ver upg m.rows tabs jour)] w
      fun e w' => e = .returned (.agg (tv t)) ∧ Below w.heap.size w w' := by
  subst ht
  exact one_any m.k ent comp pa pn pc all no ck ce cc qa qn qc units bytes m.code xent va vn vc ra rn rc m.done m.failed sa m.sn sc sum m.ver upg m.rows tabs jour w hsn
set_option maxRecDepth 100000 in
set_option maxHeartbeats 1000000 in
theorem of_any (l : List Mk) (a a2 : Option Addr) (n c n2 c2 : Nat) (w : World) (ho : OpsAt w.heap.size w a n (l.map (·.k))) (hr : RecsAt w.heap.size w a2 n2 l) (hne : n = n2) :
    Calls Tryd.prog 7 #[.slice a n c, .slice a2 n2 c2] w fun e w' => e = .returned (.tuple #[.agg (tv (ofF l)), .int .i64 0]) ∧ Below w.heap.size w w' := by
  subst hne
  have hl : l.length = n := hr.1
  have hn1 := hr.2.1
  have HL := Lib.hid hl
  clear hl
  have hT0 := keepA (.cells (tv zeros) 25) (heap_alloc_new w (.cells (tv zeros) 25))
  have hU0 := heap_alloc_new (w.alloc (.cells (tv zeros) 25)) (.cells (tv zeros) 25)
  have hbel0 : Below w.heap.size w ((w.alloc (.cells (tv zeros) 25)).alloc (.cells (tv zeros) 25)) := by go_grown
  simp only [World.size_alloc] at hT0 hU0
  have HB := Lib.hid (And.intro hT0 (And.intro hU0 hbel0))
  clear hT0 hU0 hbel0
  go_enter Tryd.func7, Tryd.ntmps7
  go_wp2_with fail
  rw [zerosV]
  obtain ⟨hT0, hU0, hbel0⟩ := HB.out
  clear HB
  generalize (w.alloc (.cells (tv zeros) 25)).alloc (.cells (tv zeros) 25) = W at hT0 hU0 hbel0 ⊢
  have HI := Lib.hid (And.intro hT0 (And.intro hU0 hbel0))
  clear hT0 hU0 hbel0
  generalize hub : w.heap.size + 1 = ub at *
  have HUB := Lib.hid hub
  clear hub
  go_loopw [18] (fun i wr => ∃ k : Nat, k ≤ n ∧ i = .int .i64 k ∧ wr.heap[w.heap.size]? = some (.cells (tv zeros) 25 (0, 0)) ∧ wr.heap[ub]? = some (.cells (tv (ofF (l.take k))) 25 (0, 0)) ∧ Below w.heap.size w wr) (fun i _ => n - (intOf i).toNat)
  case atStart => exact ⟨0, by omega, rfl, HI.out.1, HI.out.2.1, HI.out.2.2⟩
  case round =>
    obtain ⟨k, hk, rfl, hT, hU, hbw⟩ := hrel
    by_cases hlt : k < n
    · obtain ⟨m, hm⟩ : ∃ m, l[k]? = some m := ⟨_, List.getElem?_eq_getElem (by have := HL.out; omega)⟩
      have hsn := Lib.hid (ofF_snoc (l.take k) m)
      have htk := Lib.hid (take_snoc hm)
      obtain ⟨b, off, rfl, hB, hoc⟩ := (ho.below hbw).2.2.resolve_left (by omega)
      obtain ⟨b2, off2, rfl, hB2, hrc⟩ := (hr.below hbw).2.2.resolve_left (by omega)
      obtain ⟨ent, comp, pa, pn, pc, all, no, ck, ce, cc, qa, qn, qc, units, bytes, hoc⟩ := hoc k m.k (by rw [List.getElem?_map, hm]; rfl)
      obtain ⟨hsl, xent, va, vn, vc, ra, rn, rc, sa, sc, sum, upg, tabs, jour, hrc⟩ := hrc k m hm
      have o0 := hoc 0 (.int .i64 m.k) rfl
      have o1 := hoc 1 (.int .u64 ent) rfl
      have o2 := hoc 2 (.int .i64 comp) rfl
      have o3 := hoc 3 (.slice pa pn pc) rfl
      have o4 := hoc 4 (.int .u32 all) rfl
      have o5 := hoc 5 (.int .u32 no) rfl
      have o6 := hoc 6 (.int .i64 ck) rfl
      have o7 := hoc 7 (.int .u64 ce) rfl
      have o8 := hoc 8 (.int .i64 cc) rfl
      have o9 := hoc 9 (.slice qa qn qc) rfl
      have o10 := hoc 10 (.int .i64 units) rfl
      have o11 := hoc 11 (.string bytes) rfl
      have r0 := hrc 0 (.int .i64 m.code) rfl
      have r1 := hrc 1 (.int .u64 xent) rfl
      have r2 := hrc 2 (.slice va vn vc) rfl
      have r3 := hrc 3 (.slice ra rn rc) rfl
      have r4 := hrc 4 (.int .i64 m.done) rfl
      have r5 := hrc 5 (.int .i64 m.failed) rfl
      have r6 := hrc 6 (.slice sa m.sn sc) rfl
      have r7 := hrc 7 (.int .u32 sum) rfl
      have r8 := hrc 8 (.int .i64 m.ver) rfl
      have r9 := hrc 9 (.bool upg) rfl
      have r10 := hrc 10 (.int .i64 m.rows) rfl
      have r11 := hrc 11 (.int .i64 tabs) rfl
      have r12 := hrc 12 (.int .i64 jour) rfl
      simp only [Nat.add_zero] at o0 r0
      clear hoc hrc hm
      have i1 : (0 : Int) ≤ (k : Int) := by omega
      have i2 : (k : Int) < (n : Int) := by omega
      have hz := hbw.size
      go_wp2_with fail
      have hX := heap_alloc_new wr (.cells #[.int .i64 m.k, .int .u64 ent, .int .i64 comp, .slice pa pn pc, .int .u32 all, .int .u32 no, .int .i64 ck, .int .u64 ce, .int .i64 cc, .slice qa qn qc, .int .i64 units, .string bytes] 48)
      have hT3 := keepA (.cells #[.int .i64 m.k, .int .u64 ent, .int .i64 comp, .slice pa pn pc, .int .u32 all, .int .u32 no, .int .i64 ck, .int .u64 ce, .int .i64 cc, .slice qa qn qc, .int .i64 units, .string bytes] 48) hT
      have hU3 := keepA (.cells #[.int .i64 m.k, .int .u64 ent, .int .i64 comp, .slice pa pn pc, .int .u32 all, .int .u32 no, .int .i64 ck, .int .u64 ce, .int .i64 cc, .slice qa qn qc, .int .i64 units, .string bytes] 48) hU
      have hbw3 := hbw.alloc hz (.cells #[.int .i64 m.k, .int .u64 ent, .int .i64 comp, .slice pa pn pc, .int .u32 all, .int .u32 no, .int .i64 ck, .int .u64 ce, .int .i64 cc, .slice qa qn qc, .int .i64 units, .string bytes] 48)
      have hrk : ∀ p : Addr, p.block < w.heap.size → (wr.alloc (.cells #[.int .i64 m.k, .int .u64 ent, .int .i64 comp, .slice pa pn pc, .int .u32 all, .int .u32 no, .int .i64 ck, .int .u64 ce, .int .i64 cc, .slice qa qn qc, .int .i64 units, .string bytes] 48)).cell? p = wr.cell? p := fun p hp => ((Below.refl w.heap.size wr).alloc hz (.cells #[.int .i64 m.k, .int .u64 ent, .int .i64 comp, .slice pa pn pc, .int .u32 all, .int .u32 no, .int .i64 ck, .int .u64 ce, .int .i64 cc, .slice qa qn qc, .int .i64 units, .string bytes] 48)).cell hp
      replace r0 := (hrk ⟨b2, _, none⟩ hB2).trans r0
      replace r1 := (hrk ⟨b2, _, none⟩ hB2).trans r1
      replace r2 := (hrk ⟨b2, _, none⟩ hB2).trans r2
      replace r3 := (hrk ⟨b2, _, none⟩ hB2).trans r3
      replace r4 := (hrk ⟨b2, _, none⟩ hB2).trans r4
      replace r5 := (hrk ⟨b2, _, none⟩ hB2).trans r5
      replace r6 := (hrk ⟨b2, _, none⟩ hB2).trans r6
      replace r7 := (hrk ⟨b2, _, none⟩ hB2).trans r7
      replace r8 := (hrk ⟨b2, _, none⟩ hB2).trans r8
      replace r9 := (hrk ⟨b2, _, none⟩ hB2).trans r9
      replace r10 := (hrk ⟨b2, _, none⟩ hB2).trans r10
      replace r11 := (hrk ⟨b2, _, none⟩ hB2).trans r11
      replace r12 := (hrk ⟨b2, _, none⟩ hB2).trans r12
      have hzT := lt_some hT
      have hzU := lt_some hU
      clear hrk hT hU hbw o0 o1 o2 o3 o4 o5 o6 o7 o8 o9 o10 o11
      generalize wr.alloc (.cells #[.int .i64 m.k, .int .u64 ent, .int .i64 comp, .slice pa pn pc, .int .u32 all, .int .u32 no, .int .i64 ck, .int .u64 ce, .int .i64 cc, .slice qa qn qc, .int .i64 units, .string bytes] 48) = W3 at *
      generalize wr.heap.size = xb at *
      have o0 := cell_at hX 0
      have o1 := cell_at hX 1
      have o2 := cell_at hX 2
      have o3 := cell_at hX 3
      have o4 := cell_at hX 4
      have o5 := cell_at hX 5
      have o6 := cell_at hX 6
      have o7 := cell_at hX 7
      have o8 := cell_at hX 8
      have o9 := cell_at hX 9
      have o10 := cell_at hX 10
      have o11 := cell_at hX 11
      simp at o0 o1 o2 o3 o4 o5 o6 o7 o8 o9 o10 o11
      have HH := Lib.hid (And.intro hT3 (And.intro hU3 hbw3))
      have HXB := Lib.hid hX
      clear hT3 hU3 hbw3 hX
      obtain ⟨tm, htm⟩ : ∃ tm, tm = oneM m := ⟨_, rfl⟩
      have HTM := Lib.hid htm
      clear htm
      go_cut [9] (fun s9 wx => ∃ xb, s9 = .pointer (some ⟨xb, 0, none⟩) ∧ W3.heap.size ≤ xb ∧ wx.heap[xb]? = some (.cells (tv (oneM m)) 25 (0, 0)) ∧ Below W3.heap.size W3 wx)
      case first =>
        have m0 := HH.out.2.2.size
        have m1 : b2 < W3.heap.size := by omega
        have m2 : xb < W3.heap.size := lt_some HXB.out
        clear m0
        have hszt : (tv tm).size = 22 := by rw [HTM.out]; simp [tv, oneM, oneF_len]
        go_region_with (go_at_call 15; refine (one_let m tm HTM.out ent comp pa pn pc all no ck ce cc qa qn qc units bytes xent va vn vc ra rn rc sa sc sum upg tabs jour _ hsl).mono ?_; rintro e wf ⟨rfl, hbf⟩; have hst1 := run_storeCells_row (P := Tryd.prog) (heap_alloc_new wf (.cells (tv zeros) 25)) (show (tv zeros).size = (tv tm).size from hszt.symm) (tv_one tm); rw [World.setRow_alloc_new, ← zerosV] at hst1; first | (have hst2 : Sem.run Tryd.prog (storeCells ⟨W3.heap.size, 0, none⟩ (tv tm).toList) wf = .ok () (wf.setRow W3.heap.size (tv tm)) := run_storeCells_row (P := Tryd.prog) (keep hbf (heap_alloc_new W3.drew (.cells (tv zeros) 25))) (show (tv zeros).size = (tv tm).size from hszt.symm) (tv_one tm)) | skip)
        all_goals go_wp2_with fail
        all_goals go_meet
        all_goals first
          | exact ⟨wf.heap.size, rfl, (undrew hbf).size, by rw [heap_alloc_new, HTM.out], (undrew hbf).alloc (undrew hbf).size _⟩
          | exact ⟨W3.heap.size, rfl, Nat.le_refl _, (setRow_heap wf W3.heap.size (tv zeros) (tv tm) 25 (0, 0) (show wf.heap[W3.heap.size]? = some (.cells (tv zeros) 25 (0, 0)) from keep hbf (heap_alloc_new W3.drew (.cells (tv zeros) 25)))).trans (by rw [HTM.out]),
              below_setRow (((Below.refl W3.heap.size W3).alloc (Nat.le_refl _) (.cells (tv zeros) 25)).trans ((undrew hbf).mono (by simp))) (Nat.le_refl _) _⟩
      case rest =>
        obtain ⟨yb, rfl, hyz, hY, hbc⟩ := hcut
        obtain ⟨hT3, hU3, hbw3⟩ := HH.out
        have hT4 := keep hbc hT3
        have hU4 := keep hbc hU3
        have hbw4 : Below w.heap.size w wc := hbw3.trans (hbc.mono hbw3.size)
        have hs1 : (Tryd.prog.info? 25).map (·.size) = some (tv (ofF (l.take k))).size := by rw [show (tv (ofF (l.take k))).size = 22 by simp [tv, ofF_len]]; exact Tryd.size25
        have hs2 : (Tryd.prog.info? 25).map (·.size) = some (tv (oneM m)).size := by rw [show (tv (oneM m)).size = 22 by simp [tv, oneM, oneF_len]]; exact Tryd.size25
        have hs3 : (Tryd.prog.info? 25).map (·.size) = some (tv (joinF (ofF (l.take k)) (oneM m))).size := by rw [show (tv (joinF (ofF (l.take k)) (oneM m))).size = 22 by simp [tv, joinF_len, ofF_len]]; exact Tryd.size25
        have hs4 : (tv (ofF (l.take k))).size = (tv (joinF (ofF (l.take k)) (oneM m))).size := by simp [tv, joinF_len, ofF_len]
        have hzU := lt_some hU3
        have hyu : yb ≠ ub := by omega
        have HH2 := Lib.hid (And.intro hT4 (And.intro hU4 (And.intro hY hbw4)))
        have HS2 := Lib.hid (And.intro hs1 (And.intro hs2 (And.intro hs3 hs4)))
        clear hT3 hU3 hbw3 hT4 hU4 hbw4 hY hs1 hs2 hs3 hs4 hyz hbc HH o0 o1 o2 o3 o4 o5 o6 o7 o8 o9 o10 o11 r0 r1 r2 r3 r4 r5 r6 r7 r8 r9 r10 r11 r12
        go_wp2_with (first | (refine wpList_load_row rfl 25 (.tmp 6) rfl ub rfl 25 (tv (ofF (l.take k))) (0, 0) _ HH2.out.2.1 Tryd.underlying25 rfl HS2.out.1 ?_) | (refine wpList_load_row rfl 25 (.tmp 9) rfl yb rfl 25 (tv (oneM m)) (0, 0) _ HH2.out.2.2.1 Tryd.underlying25 rfl HS2.out.2.1 ?_))
        refine (join_any _ _ _ (ofF_len _) (by simp [oneM, oneF_len])).mono ?_
        rintro e w5 ⟨rfl, hb5⟩
        obtain ⟨hT4, hU4, hY, hbw4⟩ := HH2.out
        have hT5 := keep hb5 hT4
        have hU5 := keep hb5 hU4
        have hY5 := keep hb5 hY
        have hbw5 : Below w.heap.size w w5 := hbw4.trans (hb5.mono hbw4.size)
        have hU6 := setRow_heap w5 ub _ (tv (joinF (ofF (l.take k)) (oneM m))) _ _ hU5
        have hT6 := (setRow_other w5 ub w.heap.size (tv (joinF (ofF (l.take k)) (oneM m))) (by have := HUB.out; omega)).trans hT5
        have hY6 := (setRow_other w5 ub yb (tv (joinF (ofF (l.take k)) (oneM m))) hyu).trans hY5
        have hbw6 : Below w.heap.size w (w5.setRow ub (tv (joinF (ofF (l.take k)) (oneM m)))) := below_setRow hbw5 (by have := HUB.out; omega) _
        have y21 := (cell_at hY6 21).trans (tv_get (getD_some (by rw [oneM, oneF_len]; omega)))
        rw [oneM_ver] at y21
        have v21 := (cell_at hU6 21).trans (tv_get (getD_some (by rw [joinF_len, ofF_len]; omega)))
        have z21 := free_at hU6 21
        have hfin := put_at (i := 21) (x := m.ver) hU6
        have ho6 := Only.at (w5.setRow ub (tv (joinF (ofF (l.take k)) (oneM m)))) ub 21 (.int .i64 m.ver)
        have HF := Lib.hid (And.intro (keepO ho6 hT6 (by have := HUB.out; omega)) (And.intro hfin (hbw6.trans (ho6.below (by have := HUB.out; omega)))))
        have HU5 := Lib.hid hU5
        clear hT4 hU4 hY hbw4 hT5 hU5 hY5 hbw5 hU6 hT6 hY6 hbw6 hb5 hfin ho6 HH2
        go_wp2_with (first | (refine wpList_store_row rfl 25 (.tmp 6) (.tmp 31) rfl ub (tv (joinF (ofF (l.take k)) (oneM m))) rfl rfl 25 _ HU5.out HS2.out.2.2.1 HS2.out.2.2.2 (tv_one _) ?_))
        go_roundw
        case rel => exact ⟨k + 1, by omega, by go_num, HF.out.1, by rw [htk.out, hsn.out]; exact HF.out.2.1, HF.out.2.2⟩
        case measure => simp [intOf]; omega
    · obtain rfl : k = n := by omega
      have ht : l.take k = l := List.take_of_length_le (by have := HL.out; omega)
      rw [ht] at hU
      clear ht
      have hs1 : (Tryd.prog.info? 25).map (·.size) = some (tv (ofF l)).size := by rw [show (tv (ofF l)).size = 22 by simp [tv, ofF_len]]; exact Tryd.size25
      have hs4 : (tv zeros).size = (tv (ofF l)).size := by simp [tv, ofF_len, zeros]
      have hT5 := setRow_heap wr w.heap.size (tv zeros) (tv (ofF l)) _ _ hT
      have HH := Lib.hid (And.intro hT (And.intro hU (And.intro hbw (And.intro hs1 (And.intro hs4 hT5)))))
      clear hT hU hbw hs1 hs4 hT5 HI
      go_wp2_with (first | (refine wpList_load_row rfl 25 (.tmp 6) rfl ub rfl 25 (tv (ofF l)) (0, 0) _ HH.out.2.1 Tryd.underlying25 rfl HH.out.2.2.2.1 ?_) | (refine wpList_store_row rfl 25 (.tmp 4) (.tmp 36) rfl w.heap.size (tv (ofF l)) rfl rfl 25 (tv zeros) HH.out.1 HH.out.2.2.2.1 HH.out.2.2.2.2.1 (tv_one _) ?_))
      have hld := run_loadVar_row (P := Tryd.prog) _ w.heap.size 25 25 (tv (ofF l)) (0, 0) _ HH.out.2.2.2.2.2 Tryd.underlying25 rfl HH.out.2.2.2.1
      refine bodyPost_ret (v := .tuple #[.agg (tv (ofF l)), .int .i64 0]) (by simp [results, Tryd.results7, asAddr, hld, Result.andThen]) rfl ⟨rfl, ?_⟩
      exact below_setRow HH.out.2.2.1 (Nat.le_refl _) _
end Go.Proofs.YtgngpanimeigbabDoor
