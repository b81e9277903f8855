/- Contract of the reference's Set. Printed by mkZN.py. -/
import Derived.Test.YtoadihebdaooaaaGreatE40
namespace Go.Proofs.YtoadihebdaooaaaGreat
open Go.RowKit
set_option linter.unusedVariables false
/-- The boxes of the receiver, of the part, of the result. -/
structure SF (w0 : World) (u : UD) (id : Int) (va : Option Addr) (vl vc : Nat) (w : World) : Prop where
  u : w.heap[w0.heap.size]? = some (.cells u.cs 99 (0, 0))
  p : w.heap[w0.heap.size + 1]? = some (.cells #[.int .i64 id, .slice va vl vc] 85 (0, 0))
  z : ∃ cs : Array Value, cs.size = 6 ∧ w.heap[w0.heap.size + 2]? = some (.cells cs 99 (0, 0))
  b : Below w0.heap.size w0 w
section
variable {w0 : World} {u : UD} {id : Int} {va : Option Addr} {vl vc : Nat} {w w' : World}
theorem SF.below (h : SF w0 u id va vl vc w) (hb : Below w.heap.size w w') : SF w0 u id va vl vc w' := by
  obtain ⟨cs, h1, h2⟩ := h.z
  exact ⟨keep hb h.u, keep hb h.p, ⟨cs, h1, keep hb h2⟩, h.b.trans (hb.mono h.b.size)⟩
theorem SF.start (w : World) (u : UD) (id : Int) (va : Option Addr) (vl vc : Nat) : SF w u id va vl vc (((w.alloc (.cells u.cs 99)).alloc (.cells #[.int .i64 id, .slice va vl vc] 85)).alloc (.cells u0cs 99)) := by
  have h1 := keepA (.cells u0cs 99) (keepA (.cells #[.int .i64 id, .slice va vl vc] 85) (heap_alloc_new w (.cells u.cs 99)))
  have h2 := keepA (.cells u0cs 99) (heap_alloc_new (w.alloc (.cells u.cs 99)) (.cells #[.int .i64 id, .slice va vl vc] 85))
  have h3 := heap_alloc_new ((w.alloc (.cells u.cs 99)).alloc (.cells #[.int .i64 id, .slice va vl vc] 85)) (.cells u0cs 99)
  rw [World.size_alloc] at h2
  rw [World.size_alloc, World.size_alloc] at h3
  exact ⟨h1, h2, ⟨u0cs, rfl, h3⟩, by go_grown⟩
theorem SF.cells (h : SF w0 u id va vl vc w) : w.cell? ⟨w0.heap.size, 0, none⟩ = some (.int .i64 u.ver) ∧ w.cell? ⟨w0.heap.size, 1, none⟩ = some (.slice u.ca u.cl u.cc) ∧ w.cell? ⟨w0.heap.size, 2, none⟩ = some (.slice u.ia u.il u.ic) ∧ w.cell? ⟨w0.heap.size, 3, none⟩ = some (.int .i64 u.most) ∧ w.cell? ⟨w0.heap.size, 4, none⟩ = some (.int .i64 u.kept) ∧ w.cell? ⟨w0.heap.size, 5, none⟩ = some (.slice u.la u.ln u.lc) ∧ w0.heap.size < w.heap.size :=
  ⟨cell_at h.u 0, cell_at h.u 1, cell_at h.u 2, cell_at h.u 3, cell_at h.u 4, cell_at h.u 5, lt_some h.u⟩
theorem SF.part (h : SF w0 u id va vl vc w) : w.cell? ⟨w0.heap.size + 1, 0, none⟩ = some (.int .i64 id) ∧ w.cell? ⟨w0.heap.size + 1, 1, none⟩ = some (.slice va vl vc) ∧ w0.heap.size + 2 < w.heap.size := by
  obtain ⟨cs, h1, h2⟩ := h.z
  exact ⟨cell_at h.p 0, cell_at h.p 1, lt_some h2⟩
theorem SF.zfree (h : SF w0 u id va vl vc w) (k : Nat) (hk : k < 6) : w.frozen? ⟨w0.heap.size + 2, k, none⟩ = false ∧ ∃ v, w.cell? ⟨w0.heap.size + 2, k, none⟩ = some v := by
  obtain ⟨cs, h1, h2⟩ := h.z
  exact ⟨free_at h2 k, cs[k], by rw [cell_at h2, Array.getElem?_eq_getElem]⟩
theorem SF.set5 (h : SF w0 u id va vl vc w) (la : Option Addr) (ln lc : Nat) : SF w0 { u with la := la, ln := ln, lc := lc } id va vl vc (w.setCell ⟨w0.heap.size, 5, none⟩ (.slice la ln lc)) := by
  obtain ⟨cs, h1, h2⟩ := h.z
  refine ⟨?_, ?_, ⟨cs, h1, ?_⟩, h.b.setCell (by exact Nat.le_refl _) _⟩
  · exact hset w _ 5 (.slice la ln lc) _ _ _ h.u
  · rw [hset_ne _ _ _ _ (by show w0.heap.size + 1 ≠ w0.heap.size; omega)]; exact h.p
  · rw [hset_ne _ _ _ _ (by show w0.heap.size + 2 ≠ w0.heap.size; omega)]; exact h2
theorem SF.setQ (h : SF w0 u id va vl vc w) {q k : Nat} {v : Value} (hq : w0.heap.size + 3 ≤ q) : SF w0 u id va vl vc (w.setCell ⟨q, k, none⟩ v) := by
  obtain ⟨cs, h1, h2⟩ := h.z
  exact ⟨by rw [hset_ne _ _ _ _ (by show w0.heap.size ≠ q; omega)]; exact h.u, by rw [hset_ne _ _ _ _ (by show w0.heap.size + 1 ≠ q; omega)]; exact h.p, ⟨cs, h1, by rw [hset_ne _ _ _ _ (by show w0.heap.size + 2 ≠ q; omega)]; exact h2⟩, h.b.setCell (by show w0.heap.size ≤ q; omega) _⟩
end
theorem below_setQ {n q k : Nat} {w0 w : World} {v : Value} (h : Below n w0 w) (hq : n ≤ q) : Below n w0 (w.setCell ⟨q, k, none⟩ v) := h.setCell (show n ≤ q from hq) v
theorem urowL_setP : ∀ (rs : List URow) (r : Nat) (x : URow) (pa : Option Addr) (pn pc : Nat) (ps : List PW), rs[r]? = some x → (rs.flatMap urowL).set (r * 2 + 1) (.slice pa pn pc) = (rs.set r ⟨x.e, pa, pn, pc, ps⟩).flatMap urowL
  | [], _, _, _, _, _, _, h => by simp at h
  | y :: l, 0, x, pa, pn, pc, ps, h => by
    simp at h
    subst h
    simp [urowL]
  | y :: l, r + 1, x, pa, pn, pc, ps, h => by
    have ih := urowL_setP l r x pa pn pc ps (by simpa using h)
    rw [List.set_cons_succ, List.flatMap_cons, List.flatMap_cons, ← ih]
    have e2 : (r + 1) * 2 + 1 = (urowL y).length + (r * 2 + 1) := by rw [show (urowL y).length = 2 from rfl]; omega
    rw [e2, set_append_len]
theorem partL_setV : ∀ (ps : List PW) (k : Nat) (x : PW) (va : Option Addr) (vl vc : Nat) (val : List WI), ps[k]? = some x → (ps.flatMap partL).set (k * 2 + 1) (.slice va vl vc) = (ps.set k ⟨x.comp, va, vl, vc, val⟩).flatMap partL
  | [], _, _, _, _, _, _, h => by simp at h
  | y :: l, 0, x, va, vl, vc, val, h => by
    simp at h
    subst h
    simp [partL]
  | y :: l, k + 1, x, va, vl, vc, val, h => by
    have ih := partL_setV l k x va vl vc val (by simpa using h)
    rw [List.set_cons_succ, List.flatMap_cons, List.flatMap_cons, ← ih]
    have e2 : (k + 1) * 2 + 1 = (partL y).length + (k * 2 + 1) := by rw [show (partL y).length = 2 from rfl]; omega
    rw [e2, set_append_len]
theorem partL_one {ps : List PW} : ∀ u ∈ ps.flatMap partL, u.oneCell' = true := by
  intro u hu
  obtain ⟨x, _, hx⟩ := List.mem_flatMap.1 hu
  simp only [partL, List.mem_cons, List.not_mem_nil, or_false] at hx
  rcases hx with rfl | rfl <;> rfl
/-- A pointer to a new block. -/
def IsPtr (U : Nat) (e : TypeId) (cs : Array Value) (v : Value) (w : World) : Prop := ∃ q, v = .pointer (some ⟨q, 0, none⟩) ∧ w.heap[q]? = some (.cells cs e (0, 0)) ∧ U ≤ q
theorem lasts_ptr (U : Nat) (e : TypeId) (cs : Array Value) : Lasts (IsPtr U e cs) := fun _ _ _ ⟨q, h1, h2, h3⟩ hb => ⟨q, h1, keep hb h2, h3⟩
def set_list4 (ub b off cl cc i : Nat) (ver id cid : Int) (cname : ByteArray) (fa : Option Addr) (fl fc : Nat) (U : Nat) : List (Value → World → Prop) :=
  [IsV (.pointer (some ⟨ub, 0, none⟩)),
   IsV (.pointer (some ⟨ub, 1, none⟩)),
   IsV (.slice (some ⟨b, off, none⟩) cl cc),
   IsV (.pointer (some ⟨ub, 0, none⟩)),
   IsV (.agg #[.int .i64 ver, .slice (some ⟨b, off, none⟩) cl cc]),
   IsV (.pointer (some ⟨ub + 1, 0, none⟩)),
   IsV (.int .i64 id),
   IsV (.int .i64 (i : Int)),
   IsV (.pointer (some ⟨b, off + i * 3, none⟩)),
   IsV (.agg #[.int .i64 cid, .string cname, .slice fa fl fc]),
   IsPtr U 112 #[.int .i64 0, .string ⟨#[]⟩, .slice none 0 0]]
theorem set_list4_lasts (ub b off cl cc i : Nat) (ver id cid : Int) (cname : ByteArray) (fa : Option Addr) (fl fc : Nat) (U : Nat) : ∀ p ∈ set_list4 ub b off cl cc i  ver id cid  cname  fa  fl fc  U , Lasts p := by
  simp only [set_list4, List.mem_cons, List.not_mem_nil, or_false]
  rintro p hp
  repeat (rcases hp with rfl | hp; first | exact lasts_v _ | exact lasts_emp _ _ _ | exact lasts_rowO _ _ _ _ _ | exact lasts_with _ _ _ _ _ _ | exact lasts_oneW _ _ _ _ _ _ _ | exact lasts_one _ _ | exact lasts_ptr _ _ _)
def set_list10 (q ln vc9 row pq rpn vc10 : Nat) (ver : Int) (b off cl cc : Nat) (ia : Option Addr) (il ic : Nat) (most kept : Int) (la : Option Addr) (lc ub k U : Nat) (id : Int) (va : Option Addr) (vl vc : Nat) (val : List WI) : List (Value → World → Prop) :=
  [IsV (.slice (some ⟨q, 0, none⟩) ln vc9),
   IsV (.int .i64 (row : Int)),
   IsV (.pointer (some ⟨q, row * 2, none⟩)),
   IsV (.pointer (some ⟨q, row * 2 + 1, none⟩)),
   IsV (.slice (some ⟨pq, 0, none⟩) rpn vc10),
   IsV (.agg #[.int .i64 ver, .slice (some ⟨b, off, none⟩) cl cc, .slice ia il ic, .int .i64 most, .int .i64 kept, .slice la ln lc]),
   IsV (.pointer (some ⟨ub + 1, 0, none⟩)),
   IsV (.int .i64 id),
   IsV (.int .i64 (k : Int)),
   IsEmp U 148 3,
   IsV (.pointer (some ⟨ub + 1, 1, none⟩)),
   IsV (.slice va vl vc),
   IsRowO U 148 3 vl (val.flatMap intL),
   IsV (.pointer (some ⟨pq, k * 2, none⟩)),
   IsV (.pointer (some ⟨pq, k * 2 + 1, none⟩))]
theorem set_list10_lasts (q ln vc9 row pq rpn vc10 : Nat) (ver : Int) (b off cl cc : Nat) (ia : Option Addr) (il ic : Nat) (most kept : Int) (la : Option Addr) (lc ub k U : Nat) (id : Int) (va : Option Addr) (vl vc : Nat) (val : List WI) : ∀ p ∈ set_list10 q ln vc9 row pq rpn vc10  ver  b off cl cc  ia  il ic  most kept  la  lc ub k U  id  va  vl vc  val , Lasts p := by
  simp only [set_list10, List.mem_cons, List.not_mem_nil, or_false]
  rintro p hp
  repeat (rcases hp with rfl | hp; first | exact lasts_v _ | exact lasts_emp _ _ _ | exact lasts_rowO _ _ _ _ _ | exact lasts_with _ _ _ _ _ _ | exact lasts_oneW _ _ _ _ _ _ _ | exact lasts_one _ _ | exact lasts_ptr _ _ _)
set_option maxRecDepth 100000 in
theorem set16_no3 (u : UD) (row id : Int) (va : Option Addr) (vl vc : Nat) (w : World) (hl : u.ln ≤ 1000) (hr : ¬ (0 ≤ row ∧ row < u.ln)) : Calls Tryz.prog 50 #[u.v, .int .i64 row, .agg #[.int .i64 id, .slice va vl vc]] w fun en w' => Below w.heap.size w w' ∧ en = .returned (.tuple #[u.v, .int .i64 3]) := by
  have HG := Lib.hid (fun (W : World) => get16_no3 (u := u) (w := W) row id hl hr)
  have hst := SF.start w u id va vl vc
  obtain ⟨ver, ca, cl, cc, ia, il, ic, most, kept, la, ln, lc⟩ := u
  dsimp only [UD.v, UD.cs, u0cs] at *
  have HF := Lib.hid hst
  clear hst hr
  go_enter Tryz.func50, Tryz.ntmps50
  go_upto_region 1 with (fail)
  generalize hW : World.alloc (World.alloc (World.alloc w _) _) _ = W at *
  clear hW
  obtain ⟨c0, c1, c2, c3, c4, c5, hul⟩ := HF.out.cells
  obtain ⟨p0, p1, hpl⟩ := HF.out.part
  dsimp only at c0 c1 c2 c3 c4 c5
  go_wp2_with fail
  refine (HG.out _).mono ?_
  rintro en w1 ⟨rfl, hb1⟩
  have HF1 := Lib.hid (HF.out.below hb1)
  clear c0 c1 c2 c3 c4 c5 p0 p1 hb1 HF hul hpl
  go_upto_region 3 with (fail)
  obtain ⟨c0, c1, c2, c3, c4, c5, hul⟩ := HF1.out.cells
  dsimp only at c0 c1 c2 c3 c4 c5
  obtain ⟨f0, y0, x0⟩ := HF1.out.zfree 0 (by decide)
  obtain ⟨f1, y1, x1⟩ := HF1.out.zfree 1 (by decide)
  obtain ⟨f2, y2, x2⟩ := HF1.out.zfree 2 (by decide)
  obtain ⟨f3, y3, x3⟩ := HF1.out.zfree 3 (by decide)
  obtain ⟨f4, y4, x4⟩ := HF1.out.zfree 4 (by decide)
  obtain ⟨f5, y5, x5⟩ := HF1.out.zfree 5 (by decide)
  go_wp2_with fail
  obtain ⟨cs0, hc6, hz⟩ := HF1.out.z
  have hs := setU_cells ⟨ver, ca, cl, cc, ia, il, ic, most, kept, la, ln, lc⟩ hz hc6
  have hbs := setU_below (b := w.heap.size + 2) (u := ⟨ver, ca, cl, cc, ia, il, ic, most, kept, la, ln, lc⟩) HF1.out.b (by omega)
  unfold setU at *
  dsimp only [UD.cs] at hs hbs
  generalize World.setCell _ _ _ = W2 at hs hbs ⊢
  have a0 := cell_at hs 0
  have a1 := cell_at hs 1
  have a2 := cell_at hs 2
  have a3 := cell_at hs 3
  have a4 := cell_at hs 4
  have a5 := cell_at hs 5
  simp at a0 a1 a2 a3 a4 a5
  refine bodyPost_ret (v := .tuple #[.agg #[.int .i64 ver, .slice ca cl cc, .slice ia il ic, .int .i64 most, .int .i64 kept, .slice la ln lc], .int .i64 3]) (by simp [results, Tryz.results50, go_sem, a0, a1, a2, a3, a4, a5]) rfl ?_
  exact ⟨hbs, rfl⟩
set_option maxRecDepth 100000 in
set_option maxHeartbeats 4000000 in
theorem set16_row (u : UD) (ids : List Int) (cs : List Cmp) (rs : List URow) (row : Nat) (id : Int) (va : Option Addr) (vl vc : Nat) (val : List WI) (r : URow) (w : World) (hi : w.ownsRow 0 3 1 (.slice u.ia u.il u.ic) u.il (ids.map (.int .i64))) (hli : ids.length = u.il) (hb : u.il ≤ 1000) (hl : u.ln ≤ 1000) (hR : RU 0 w u.la u.ln u.lc rs) (hr : rs[row]? = some r) (hrp : r.ps.length = ids.length)
    (hcs : CompsAt w.heap.size w u.ca u.cl cs) (hfind : ids.contains id = true → ∃ c, findC id cs = some c) (hid : ∀ (k : Nat) (p : PW), ids[k]? = some id → r.ps[k]? = some p → p.comp = id) (hv : IntsAt w.heap.size w va vl vc val) (hvl : vl ≤ 1000) (hnl : va = none → vl = 0 ∧ vc = 0) :
    Calls Tryz.prog 50 #[u.v, .int .i64 (row : Int), .agg #[.int .i64 id, .slice va vl vc]] w fun en w' => Below w.heap.size w w' ∧ ((partIx id 0 ids = -1 ∧ en = .returned (.tuple #[u.v, .int .i64 6])) ∨
      ∃ (k : Nat) (c : Cmp), ids[k]? = some id ∧ partIx id 0 ids = k ∧ findC id cs = some c ∧ ((fitF c.fields val ≠ 0 ∧ en = .returned (.tuple #[u.v, .int .i64 (fitF c.fields val)])) ∨
        (fitF c.fields val = 0 ∧ ∃ la lc pa pc va' vc', en = .returned (.tuple #[UD.v { u with la := la, lc := lc }, .int .i64 0]) ∧ RU 0 w' la u.ln lc (rs.set row ⟨r.e, pa, r.pn, pc, r.ps.set k ⟨id, va', vl, vc', val⟩⟩)))) := by
  obtain ⟨i0, hi0, hz0, hz1, hz2⟩ := info_parts Tryz.infoURow16
  obtain ⟨I1, hi1, hy0, hy1, hy2⟩ := info_parts Tryz.info85
  obtain ⟨I2, hi2, hx0, hx1, hx2⟩ := info_parts Tryz.infoInt16
  have hst := SF.start w u id va vl vc
  have hrl : row < u.ln := by rw [← hR.len]; exact (List.getElem?_eq_some_iff.1 hr).1
  have HG := Lib.hid (fun (W : World) (hW : Below w.heap.size w W) => get16_row (u := u) (w := W) row id r (ownsRow_below hi hW) hli hb hl (hR.below hW) hr hrp)
  have HPT := Lib.hid (fun (W : World) (hW : Below w.heap.size w W) => part16_any u ids id W (ownsRow_below hi hW) hli hb)
  have HR := Lib.hid (And.intro hr (And.intro hrp (And.intro hli hid)))
  have HRU := Lib.hid hR
  have HCS := Lib.hid hcs
  have HFD := Lib.hid hfind
  have HV := Lib.hid (And.intro hv hnl)
  clear hi hR hr hrp hcs hfind hv hli hnl hid
  obtain ⟨ver, ca, cl, cc, ia, il, ic, most, kept, la, ln, lc⟩ := u
  dsimp only [UD.v, UD.cs, u0cs] at *
  have HF := Lib.hid hst
  clear hst
  go_enter Tryz.func50, Tryz.ntmps50
  go_upto_region 1 with (fail)
  generalize hW : World.alloc (World.alloc (World.alloc w _) _) _ = W at *
  clear hW
  obtain ⟨c0, c1, c2, c3, c4, c5, hul⟩ := HF.out.cells
  obtain ⟨p0, p1, hpl⟩ := HF.out.part
  dsimp only at c0 c1 c2 c3 c4 c5
  go_wp2_with fail
  refine (HG.out W HF.out.b).mono ?_
  rintro en w1 ⟨hb1, hg⟩
  have HF1 := Lib.hid (HF.out.below hb1)
  clear c0 c1 c2 c3 c4 c5 p0 p1 hb1 HF hul hpl HG
  rcases hg with ⟨hg, rfl⟩ | ⟨k, p, hk, hix, hp, rfl⟩
  · have HGG := Lib.hid hg
    clear hg
    go_upto_region 3 with (fail)
    obtain ⟨c0, c1, c2, c3, c4, c5, hul⟩ := HF1.out.cells
    dsimp only at c0 c1 c2 c3 c4 c5
    obtain ⟨f0, y0, x0⟩ := HF1.out.zfree 0 (by decide)
    obtain ⟨f1, y1, x1⟩ := HF1.out.zfree 1 (by decide)
    obtain ⟨f2, y2, x2⟩ := HF1.out.zfree 2 (by decide)
    obtain ⟨f3, y3, x3⟩ := HF1.out.zfree 3 (by decide)
    obtain ⟨f4, y4, x4⟩ := HF1.out.zfree 4 (by decide)
    obtain ⟨f5, y5, x5⟩ := HF1.out.zfree 5 (by decide)
    go_wp2_with fail
    obtain ⟨cs0, hc6, hz⟩ := HF1.out.z
    have hs := setU_cells ⟨ver, ca, cl, cc, ia, il, ic, most, kept, la, ln, lc⟩ hz hc6
    have hbs := setU_below (b := w.heap.size + 2) (u := ⟨ver, ca, cl, cc, ia, il, ic, most, kept, la, ln, lc⟩) HF1.out.b (by omega)
    unfold setU at *
    dsimp only [UD.cs] at hs hbs
    generalize World.setCell _ _ _ = W2 at hs hbs ⊢
    have a0 := cell_at hs 0
    have a1 := cell_at hs 1
    have a2 := cell_at hs 2
    have a3 := cell_at hs 3
    have a4 := cell_at hs 4
    have a5 := cell_at hs 5
    simp at a0 a1 a2 a3 a4 a5
    refine bodyPost_ret (v := .tuple #[.agg #[.int .i64 ver, .slice ca cl cc, .slice ia il ic, .int .i64 most, .int .i64 kept, .slice la ln lc], .int .i64 6]) (by simp [results, Tryz.results50, go_sem, a0, a1, a2, a3, a4, a5]) rfl ?_
    exact ⟨hbs, .inl ⟨HGG.out, rfl⟩⟩
  · obtain ⟨c, hf⟩ := HFD.out (by rw [List.contains_iff_mem]; exact List.mem_of_getElem? hk)
    obtain ⟨i, hix', hci⟩ := idxF_some cs 0 hf
    rw [Nat.zero_add] at hix'
    have hil : i < cl := by have := (List.getElem?_eq_some_iff.1 hci).1; have := HCS.out.1; omega
    obtain ⟨b, off, c', rfl, hB, hc', hc0, hc1, fa, fl, fc, hfc, hF, _⟩ := HCS.out.get HF1.out.b hil
    obtain rfl : c' = c := by rw [hci] at hc'; cases hc'; rfl
    obtain ⟨f, hfv⟩ : ∃ f, fitF c'.fields val = f := ⟨_, rfl⟩
    have HFIT : Hid (∀ W', Below w1.heap.size w1 W' → Calls Tryz.prog 90 #[.slice fa fl fc, .slice va vl vc] W' fun e w' => e = .returned (.int .i64 f) ∧ Below W'.heap.size W' w') := Lib.hid (fun W' hW => by
      rw [← hfv]
      have hz := HF1.out.b.size
      have hz2 := hW.size
      exact fit05_any c'.fields fa fl fc va vl vc val W' ((hF.below (hW.mono hz)).mono (by omega)) ((HV.out.1.below (HF1.out.b.trans (hW.mono hz))).mono (by omega)))
    have HFIND : Hid (∀ W', Below w1.heap.size w1 W' → Calls Tryz.prog 66 #[.agg #[.int .i64 ver, .slice (some ⟨b, off, none⟩) cl cc], .int .i64 id] W' fun e w' => e = .returned (.int .i64 (i : Int)) ∧ Below W'.heap.size W' w') := Lib.hid (fun W' hW => by
      rw [← hix']
      have hz := HF1.out.b.size
      exact find07_any ver id cs _ cl cc W' ((HCS.out.below (HF1.out.b.trans (hW.mono hz))).mono (HF1.out.b.trans (hW.mono hz)).size))
    have HCEL : Hid (∀ W', Below w1.heap.size w1 W' → W'.cell? ⟨w.heap.size, 0, none⟩ = some (.int .i64 ver) ∧ W'.cell? ⟨w.heap.size, 1, none⟩ = some (.slice (some ⟨b, off, none⟩) cl cc) ∧ W'.cell? ⟨b, off + i * 3, none⟩ = some (.int .i64 c'.id) ∧ W'.cell? ⟨b, off + i * 3 + 1, none⟩ = some (.string c'.name) ∧ W'.cell? ⟨b, off + i * 3 + 2, none⟩ = some (.slice fa fl fc) ∧ W'.cell? ⟨w.heap.size + 1, 0, none⟩ = some (.int .i64 id)) := Lib.hid (fun W' hW =>
      have hz : b < w1.heap.size := by have := HF1.out.b.size; omega
      ⟨by rw [cell_at (keep hW HF1.out.u)]; rfl, by rw [cell_at (keep hW HF1.out.u)]; rfl, (hW.cell (p := ⟨b, _, none⟩) hz).trans hc0, (hW.cell (p := ⟨b, _, none⟩) hz).trans hc1, (hW.cell (p := ⟨b, _, none⟩) hz).trans hfc, by rw [cell_at (keep hW HF1.out.p)]; rfl⟩)
    have HK := Lib.hid (And.intro hk (And.intro hix (And.intro hp (And.intro hf hfv))))
    have i1 : (0 : Int) ≤ (i : Int) := by omega
    have i2 : (i : Int) < (cl : Int) := by omega
    obtain ⟨U, hU⟩ : ∃ U, w.heap.size + 3 = U := ⟨_, rfl⟩
    have hU1 : U ≤ w1.heap.size := by have := HF1.out.part.2.2; omega
    obtain ⟨cid, cname, cfs⟩ := c'
    dsimp only at HCEL
    clear hk hix hp hf hci hc' hF hfc hfv hix' hc0 hc1 hB hil
    go_wp2_with fail
    refine wp_region_tail 11 (by kernel_rfl) (by kernel_rfl) (by kernel_rfl) (by decide) (by kernel_rfl) (byList (set_list4 w.heap.size b off cl cc i ver id cid cname fa fl fc w1.heap.size)) (lasts_list (set_list4_lasts w.heap.size b off cl cc i ver id cid cname fa fl fc w1.heap.size)) ?_ ?_
    · intro vs w' iq o A hi F hb ho hd
      have m3 : A.tmps[3]?.getD undef = (.pointer (some ⟨w.heap.size, 0, none⟩)) := F.m (by kernel_rfl) rfl
      have m5 : A.tmps[5]?.getD undef = (.pointer (some ⟨w.heap.size + 1, 0, none⟩)) := F.m (by kernel_rfl) rfl
      have G := F.light (n := 77) (by kernel_rfl)
      clear F
      have hz' := hb.size
      obtain ⟨z0, z1, z2, z3, z4, z5⟩ := HCEL.out w' hb
      have hfind := HFIND.out w' hb
      revert hi ho hd
      match iq with
      | 0 =>
        intro _ ho hd
        obtain rfl := (Option.some.inj ho).symm
        clear hd ho
        refine step_open rfl ?_
        clear G
        exact step_run (v := (.pointer (some ⟨w.heap.size, 0, none⟩))) (by go_simp) rfl
      | 1 =>
        intro _ ho hd
        obtain rfl := (Option.some.inj ho).symm
        have d0 : vs 0 = (.pointer (some ⟨w.heap.size, 0, none⟩)) := hd ⟨0, .data⟩ (by simp) rfl
        clear hd ho
        have h25 := G.h (j := 0) (d := 25) rfl (by decide) d0
        refine step_open rfl ?_
        clear G
        exact step_run (v := (.pointer (some ⟨w.heap.size, 1, none⟩))) (by go_simp) rfl
      | 2 =>
        intro _ ho hd
        obtain rfl := (Option.some.inj ho).symm
        have d1 : vs 1 = (.pointer (some ⟨w.heap.size, 1, none⟩)) := hd ⟨1, .data⟩ (by simp) rfl
        clear hd ho
        have h26 := G.h (j := 1) (d := 26) rfl (by decide) d1
        refine step_open rfl ?_
        clear G
        exact step_run (v := (.slice (some ⟨b, off, none⟩) cl cc)) (by go_simp) rfl
      | 3 =>
        intro _ ho hd
        obtain rfl := (Option.some.inj ho).symm
        clear hd ho
        refine step_open rfl ?_
        clear G
        exact step_run (v := (.pointer (some ⟨w.heap.size, 0, none⟩))) (by go_simp) rfl
      | 4 =>
        intro _ ho hd
        obtain rfl := (Option.some.inj ho).symm
        have d3 : vs 3 = (.pointer (some ⟨w.heap.size, 0, none⟩)) := hd ⟨3, .data⟩ (by simp) rfl
        clear hd ho
        have h28 := G.h (j := 3) (d := 28) rfl (by decide) d3
        refine step_open rfl ?_
        clear G
        exact step_run (v := (.agg #[.int .i64 ver, .slice (some ⟨b, off, none⟩) cl cc])) (by go_simp) rfl
      | 5 =>
        intro _ ho hd
        obtain rfl := (Option.some.inj ho).symm
        clear hd ho
        refine step_open rfl ?_
        clear G
        exact step_run (v := (.pointer (some ⟨w.heap.size + 1, 0, none⟩))) (by go_simp) rfl
      | 6 =>
        intro _ ho hd
        obtain rfl := (Option.some.inj ho).symm
        have d5 : vs 5 = (.pointer (some ⟨w.heap.size + 1, 0, none⟩)) := hd ⟨5, .data⟩ (by simp) rfl
        clear hd ho
        have h30 := G.h (j := 5) (d := 30) rfl (by decide) d5
        refine step_open rfl ?_
        clear G
        exact step_run (v := (.int .i64 id)) (by go_simp) rfl
      | 7 =>
        intro _ ho hd
        obtain rfl := (Option.some.inj ho).symm
        have d4 : vs 4 = (.agg #[.int .i64 ver, .slice (some ⟨b, off, none⟩) cl cc]) := hd ⟨4, .data⟩ (by simp) rfl
        have d6 : vs 6 = (.int .i64 id) := hd ⟨6, .data⟩ (by simp) rfl
        clear hd ho
        have h29 := G.h (j := 4) (d := 29) rfl (by decide) d4
        have h31 := G.h (j := 6) (d := 31) rfl (by decide) d6
        refine step_open rfl ?_
        clear G
        go_simp
        refine hfind.mono ?_
        rintro e w2 ⟨rfl, hb2⟩
        exact ⟨_, rfl, rfl, hb2⟩
      | 8 =>
        intro _ ho hd
        obtain rfl := (Option.some.inj ho).symm
        have d2 : vs 2 = (.slice (some ⟨b, off, none⟩) cl cc) := hd ⟨2, .data⟩ (by simp) rfl
        have d7 : vs 7 = (.int .i64 (i : Int)) := hd ⟨7, .data⟩ (by simp) rfl
        clear hd ho
        have h27 := G.h (j := 2) (d := 27) rfl (by decide) d2
        have h32 := G.h (j := 7) (d := 32) rfl (by decide) d7
        refine step_open rfl ?_
        clear G
        exact step_run (v := (.pointer (some ⟨b, off + i * 3, none⟩))) (by go_simp) rfl
      | 9 =>
        intro _ ho hd
        obtain rfl := (Option.some.inj ho).symm
        have d8 : vs 8 = (.pointer (some ⟨b, off + i * 3, none⟩)) := hd ⟨8, .data⟩ (by simp) rfl
        clear hd ho
        have h33 := G.h (j := 8) (d := 33) rfl (by decide) d8
        refine step_open rfl ?_
        clear G
        exact step_run (v := (.agg #[.int .i64 cid, .string cname, .slice fa fl fc])) (by go_simp) rfl
      | 10 =>
        intro _ ho hd
        obtain rfl := (Option.some.inj ho).symm
        clear hd ho
        refine step_open rfl ?_
        clear G
        go_simp
        exact ⟨_, rfl, (show IsPtr _ _ _ _ _ from ⟨_, rfl, heap_alloc_new _ _, by omega⟩), by go_grown⟩
      | n + 11 =>
        intro hi
        exfalso
        omega
    intro vs w6 A hA F hb hR
    have HA := Lib.hid hA
    clear hA
    obtain ⟨q10, d10, hq10, hU10⟩ : IsPtr w1.heap.size 112 #[.int .i64 0, .string ⟨#[]⟩, .slice none 0 0] (vs 10) w6 := hR 10 (by decide)
    have d9 : vs 9 = .agg #[.int .i64 cid, .string cname, .slice fa fl fc] := hR 9 (by decide)
    have G := F.light (n := 77) (by kernel_rfl)
    have h34 := G.h (j := 9) (d := 34) rfl (by decide) d9
    have h10 := G.h (j := 10) (d := 10) rfl (by decide) d10
    have HF6 := Lib.hid (HF1.out.below hb)
    clear G F hR d9
    have f0 := free_at hq10 0
    have f1 := free_at hq10 1
    have f2 := free_at hq10 2
    have y0 := cell_at hq10 0
    have y1 := cell_at hq10 1
    have y2 := cell_at hq10 2
    simp at y0 y1 y2
    have hq6 := lt_some hq10
    have hC := hset _ q10 2 (.slice fa fl fc) _ _ _ (hset _ q10 1 (.string cname) _ _ _ (hset _ q10 0 (.int .i64 cid) _ _ _ hq10))
    have HC := Lib.hid hC
    have HF7 := Lib.hid (((HF6.out.setQ (q := q10) (k := 0) (v := .int .i64 cid) (by omega)).setQ (q := q10) (k := 1) (v := .string cname) (by omega)).setQ (q := q10) (k := 2) (v := .slice fa fl fc) (by omega))
    have HB7 := Lib.hid (below_setQ (k := 2) (v := .slice fa fl fc) (below_setQ (k := 1) (v := .string cname) (below_setQ (k := 0) (v := .int .i64 cid) hb hU10) hU10) hU10)
    clear hC hq10 hb HF6
    simp only [List.drop_succ_cons, List.drop_zero, wpTail]
    go_simp
    rw [HA.out]
    simp only [putAll, Act.put, List.setIfInBounds_toArray, List.set_cons_succ, List.set_cons_zero]
    rw [d10]
    clear HFIND HCEL HA d10 f0 f1 f2 y0 y1 y2 h34 h10
    generalize World.setCell _ ⟨q10, 2, none⟩ _ = W7 at *
    have c2 := cell_at HC.out 2
    simp at c2
    obtain ⟨_, p1, hpl⟩ := HF7.out.part
    have hl7 := lt_some HC.out
    go_wp2_with fail
    refine (HFIT.out W7 HB7.out).mono ?_
    rintro en w8 ⟨rfl, hb8⟩
    have HF8 := Lib.hid (HF7.out.below hb8)
    clear hb8 c2 p1 hpl HF7 HFIT HC HB7 hl7 hq6 hU10 HF1
    by_cases hf0 : f = 0
    · subst hf0
      obtain ⟨c0, c1, c2, c3, c4, c5, hul⟩ := HF8.out.cells
      dsimp only at c0 c1 c2 c3 c4 c5
      have hbA : Below w8.heap.size w8 (w8.alloc (.cells #[] 173)) := by go_grown
      have HRW := Lib.hid (HRU.out.below (HF8.out.b.trans (hbA.mono HF8.out.b.size)))
      have HEM := Lib.hid (World.ownsRow_made w8 (e := 173) (size := 2) #[] 0 (Nat.le_refl _) (by simp) (by simp))
      have HFA := Lib.hid (HF8.out.below hbA)
      clear hbA
      go_wp2_with (at_builtin; go_loud (refine wpList_append_fresh rfl (.tmp 44) (.tmp 46) 97 rfl 173 i0 (.agg #[.int .u64 0, .slice none 0 0]) 2 32 Tryz.underlying97 hi0 hz0 hz1 hz2 rfl (by decide) w8.heap.size w8.heap.size rfl HEM.out la ln lc (rs.flatMap urowL) rfl (SrcAt.row HRW.out.row urowL_one) (by unfold maxLen; omega) (by omega) (by simp) ?_))
      intro va9 vc9 w9 hown9 hb9'
      have hb9 : Below (w8.alloc (.cells #[] 173)).heap.size (w8.alloc (.cells #[] 173)) w9 := by rw [World.size_alloc]; exact hb9'
      have HF9 := Lib.hid (HFA.out.below hb9)
      obtain ⟨q, rfl, _, hql, hqc⟩ := row_block hown9 (by omega)
      obtain ⟨g0, g1⟩ := urowL_at rs row r HR.out.1
      have hU9 : w8.heap.size ≤ q := (hown9.lt q rfl).1
      have hU8 := HF8.out.part.2.2
      have hbB : Below w9.heap.size w9 (w9.alloc (.cells #[] 85)) := by go_grown
      have z1 := hqc _ _ g1
      have HO9 := Lib.hid (hown9.alloc (.cells #[] 85))
      have HEM2 := Lib.hid (World.ownsRow_made w9 (e := 85) (size := 2) #[] 0 (Nat.le_refl _) (by simp) (by simp))
      have HFB := Lib.hid (HF9.out.below hbB)
      have hprs := (HRU.out.parts r (List.mem_of_getElem? HR.out.1)).below HFB.out.b
      have hpm := own_max hprs.row
      have hpn : r.pn = ids.length := by rw [← hprs.len]; exact HR.out.2.1
      have hp1000 : r.pn ≤ 1000 := by have := HR.out.2.2.1; omega
      have HPS := Lib.hid hprs
      have HPN := Lib.hid hpn
      have i3 : (0 : Int) ≤ (row : Int) := by omega
      have i4 : (row : Int) < (ln : Int) := by omega
      obtain ⟨re, rpa, rpn, rpc, rps⟩ := r
      dsimp only at z1 HPS hpm HPN hp1000
      clear hown9 hb9 hb9' c0 c1 c2 c3 c4 c5 HEM HRW HFA hqc g0 g1 hbB hprs hul hpn
      go_wp2_with (at_builtin; go_loud (refine wpList_append_fresh rfl (.tmp 50) (.tmp 55) 70 rfl 85 I1 (.agg #[.int .i64 0, .slice none 0 0]) 2 32 Tryz.underlying70 hi1 hy0 hy1 hy2 rfl (by decide) w9.heap.size w9.heap.size rfl HEM2.out rpa rpn rpc (rps.flatMap partL) rfl (SrcAt.row HPS.out.row partL_one) (by unfold maxLen; omega) (by omega) (by simp) ?_))
      intro va10 vc10 w10 hown10 hb10'
      have hb10 : Below (w9.alloc (.cells #[] 85)).heap.size (w9.alloc (.cells #[] 85)) w10 := by rw [World.size_alloc]; exact hb10'
      have hkl : k < rpn := by
        have := (List.getElem?_eq_some_iff.1 HK.out.1).1
        have := HPN.out
        omega
      obtain ⟨pq, rfl, _, hpql, hpqc⟩ := row_block hown10 (by omega)
      have hUp : w9.heap.size ≤ pq := (hown10.lt pq rfl).1
      have hz10 := hb10.size
      rw [World.size_alloc] at hz10
      have HF10 := Lib.hid (HFB.out.below hb10)
      have hro10 := ownsRow_below HO9.out hb10
      obtain ⟨q', hq', hset, fz, _, _, _, ⟨y0, x0⟩⟩ := ownsRow_setS (j := row * 2 + 1) (.slice (some ⟨pq, 0, none⟩) rpn vc10) hro10 (by omega)
      cases hq'
      rw [urowL_setP rs row ⟨re, rpa, rpn, rpc, rps⟩ (some ⟨pq, 0, none⟩) rpn vc10 (rps.set k ⟨id, none, 0, 0, []⟩) HR.out.1] at hset
      have hpt11 := ownsRow_out hown10 (Out.only (F := fun b => b = q) (Only.at w10 q (row * 2 + 1) (.slice (some ⟨pq, 0, none⟩) rpn vc10)) rfl) (fun x hx he => by
        subst he
        obtain ⟨c1, h1⟩ := row_type hown10 hx
        obtain ⟨c2, h2⟩ := row_type hro10 (b := x) rfl
        rw [h1] at h2
        cases h2)
      have hcl11 := hset.cells (g := q) rfl (row * 2 + 1) _ (urowL_at _ row ⟨re, some ⟨pq, 0, none⟩, rpn, vc10, rps.set k ⟨id, none, 0, 0, []⟩⟩ (by rw [List.getElem?_set, if_pos rfl, if_pos (by have := (List.getElem?_eq_some_iff.1 HR.out.1).1; omega)])).2
      rw [addr_add] at hcl11
      have HS11 := Lib.hid (HF10.out.setQ (q := q) (k := row * 2 + 1) (v := .slice (some ⟨pq, 0, none⟩) rpn vc10) (by omega))
      have HROW := Lib.hid hset
      have HPT11 := Lib.hid hpt11
      have HCL := Lib.hid hcl11
      have hqz : q < (w10.setCell ⟨q, row * 2 + 1, none⟩ (.slice (some ⟨pq, 0, none⟩) rpn vc10)).heap.size := by simp; omega
      have hpqz : pq < (w10.setCell ⟨q, row * 2 + 1, none⟩ (.slice (some ⟨pq, 0, none⟩) rpn vc10)).heap.size := by simp; omega
      clear hown10 hb10 hb10' hro10 hset hpt11 hcl11 HF10 HO9 HEM2 HFB hpqc z1
      go_upto_region 10 with (fail)
      clear fz x0
      generalize World.setCell _ ⟨q, row * 2 + 1, none⟩ _ = W11 at *
      have HCEL : Hid (∀ W', Below W11.heap.size W11 W' → W'.cell? ⟨q, row * 2 + 1, none⟩ = some (.slice (some ⟨pq, 0, none⟩) rpn vc10) ∧ SF w ⟨ver, some ⟨b, off, none⟩, cl, cc, ia, il, ic, most, kept, la, ln, lc⟩ id va vl vc W') := Lib.hid (fun W' hW =>
        ⟨(hW.cell (p := ⟨q, _, none⟩) hqz).trans HCL.out, HS11.out.below hW⟩)
      have i5 : (0 : Int) ≤ (k : Int) := by omega
      have i6 : (k : Int) < (rpn : Int) := by omega
      have HIX := Lib.hid HK.out.2.1
      have hU11 : w8.heap.size ≤ W11.heap.size := by omega
      refine wp_region_tail 15 (by kernel_rfl) (by kernel_rfl) (by kernel_rfl) (by decide) (by kernel_rfl) (byList (set_list10 q ln vc9 row pq rpn vc10 ver b off cl cc ia il ic most kept la lc w.heap.size k W11.heap.size id va vl vc val)) (lasts_list (set_list10_lasts q ln vc9 row pq rpn vc10 ver b off cl cc ia il ic most kept la lc w.heap.size k W11.heap.size id va vl vc val)) ?_ ?_
      · intro vs w' iq o A hi F hb ho hd
        have m12 : A.tmps[12]?.getD undef = (.slice (some ⟨q, 0, none⟩) ln vc9) := F.m (by kernel_rfl) rfl
        have m1 : A.tmps[1]?.getD undef = (.int .i64 (row : Int)) := F.m (by kernel_rfl) rfl
        have m3 : A.tmps[3]?.getD undef = (.pointer (some ⟨w.heap.size, 0, none⟩)) := F.m (by kernel_rfl) rfl
        have m5 : A.tmps[5]?.getD undef = (.pointer (some ⟨w.heap.size + 1, 0, none⟩)) := F.m (by kernel_rfl) rfl
        have G := F.light (n := 77) (by kernel_rfl)
        clear F
        have hz' := hb.size
        obtain ⟨zq, hsf⟩ := HCEL.out w' hb
        obtain ⟨c0, c1, c2, c3, c4, c5, hul⟩ := hsf.cells
        obtain ⟨p0, p1, hpl⟩ := hsf.part
        dsimp only at c0 c1 c2 c3 c4 c5
        have hpt := HPT.out w' hsf.b
        rw [HIX.out] at hpt
        have hvin := HV.out.1.below hsf.b
        revert hi ho hd
        match iq with
        | 0 =>
          intro _ ho hd
          obtain rfl := (Option.some.inj ho).symm
          clear hd ho
          refine step_open rfl ?_
          clear G
          exact step_run (v := (.slice (some ⟨q, 0, none⟩) ln vc9)) (by go_simp) rfl
        | 1 =>
          intro _ ho hd
          obtain rfl := (Option.some.inj ho).symm
          clear hd ho
          refine step_open rfl ?_
          clear G
          exact step_run (v := (.int .i64 (row : Int))) (by go_simp) rfl
        | 2 =>
          intro _ ho hd
          obtain rfl := (Option.some.inj ho).symm
          have d0 : vs 0 = (.slice (some ⟨q, 0, none⟩) ln vc9) := hd ⟨0, .data⟩ (by simp) rfl
          have d1 : vs 1 = (.int .i64 (row : Int)) := hd ⟨1, .data⟩ (by simp) rfl
          clear hd ho
          have h59 := G.h (j := 0) (d := 59) rfl (by decide) d0
          have h60 := G.h (j := 1) (d := 60) rfl (by decide) d1
          refine step_open rfl ?_
          clear G
          exact step_run (v := (.pointer (some ⟨q, row * 2, none⟩))) (by go_simp) rfl
        | 3 =>
          intro _ ho hd
          obtain rfl := (Option.some.inj ho).symm
          have d2 : vs 2 = (.pointer (some ⟨q, row * 2, none⟩)) := hd ⟨2, .data⟩ (by simp) rfl
          clear hd ho
          have h61 := G.h (j := 2) (d := 61) rfl (by decide) d2
          refine step_open rfl ?_
          clear G
          exact step_run (v := (.pointer (some ⟨q, row * 2 + 1, none⟩))) (by go_simp) rfl
        | 4 =>
          intro _ ho hd
          obtain rfl := (Option.some.inj ho).symm
          have d3 : vs 3 = (.pointer (some ⟨q, row * 2 + 1, none⟩)) := hd ⟨3, .data⟩ (by simp) rfl
          clear hd ho
          have h62 := G.h (j := 3) (d := 62) rfl (by decide) d3
          refine step_open rfl ?_
          clear G
          exact step_run (v := (.slice (some ⟨pq, 0, none⟩) rpn vc10)) (by go_simp) rfl
        | 5 =>
          intro _ ho hd
          obtain rfl := (Option.some.inj ho).symm
          clear hd ho
          refine step_open rfl ?_
          clear G
          exact step_run (v := (.agg #[.int .i64 ver, .slice (some ⟨b, off, none⟩) cl cc, .slice ia il ic, .int .i64 most, .int .i64 kept, .slice la ln lc])) (by go_simp) rfl
        | 6 =>
          intro _ ho hd
          obtain rfl := (Option.some.inj ho).symm
          clear hd ho
          refine step_open rfl ?_
          clear G
          exact step_run (v := (.pointer (some ⟨w.heap.size + 1, 0, none⟩))) (by go_simp) rfl
        | 7 =>
          intro _ ho hd
          obtain rfl := (Option.some.inj ho).symm
          have d6 : vs 6 = (.pointer (some ⟨w.heap.size + 1, 0, none⟩)) := hd ⟨6, .data⟩ (by simp) rfl
          clear hd ho
          have h65 := G.h (j := 6) (d := 65) rfl (by decide) d6
          refine step_open rfl ?_
          clear G
          exact step_run (v := (.int .i64 id)) (by go_simp) rfl
        | 8 =>
          intro _ ho hd
          obtain rfl := (Option.some.inj ho).symm
          have d5 : vs 5 = (.agg #[.int .i64 ver, .slice (some ⟨b, off, none⟩) cl cc, .slice ia il ic, .int .i64 most, .int .i64 kept, .slice la ln lc]) := hd ⟨5, .data⟩ (by simp) rfl
          have d7 : vs 7 = (.int .i64 id) := hd ⟨7, .data⟩ (by simp) rfl
          clear hd ho
          have h64 := G.h (j := 5) (d := 64) rfl (by decide) d5
          have h66 := G.h (j := 7) (d := 66) rfl (by decide) d7
          refine step_open rfl ?_
          clear G
          go_simp
          refine hpt.mono ?_
          rintro e w2 ⟨rfl, hb2⟩
          exact ⟨_, rfl, rfl, hb2⟩
        | 9 =>
          intro _ ho hd
          obtain rfl := (Option.some.inj ho).symm
          clear hd ho
          refine step_open rfl ?_
          clear G
          go_simp
          exact ⟨_, rfl, (show IsEmp _ _ _ _ _ from isEmp_new (by omega)), by go_grown⟩
        | 10 =>
          intro _ ho hd
          obtain rfl := (Option.some.inj ho).symm
          clear hd ho
          refine step_open rfl ?_
          clear G
          exact step_run (v := (.pointer (some ⟨w.heap.size + 1, 1, none⟩))) (by go_simp) rfl
        | 11 =>
          intro _ ho hd
          obtain rfl := (Option.some.inj ho).symm
          have d10 : vs 10 = (.pointer (some ⟨w.heap.size + 1, 1, none⟩)) := hd ⟨10, .data⟩ (by simp) rfl
          clear hd ho
          have h69 := G.h (j := 10) (d := 69) rfl (by decide) d10
          refine step_open rfl ?_
          clear G
          exact step_run (v := (.slice va vl vc)) (by go_simp) rfl
        | 12 =>
          intro _ ho hd
          obtain rfl := (Option.some.inj ho).symm
          obtain ⟨q9, d9, own9⟩ : IsEmp W11.heap.size 148 3 (vs 9) w' := hd ⟨9, .data⟩ (by simp) rfl
          have d11 : vs 11 = (.slice va vl vc) := hd ⟨11, .data⟩ (by simp) rfl
          clear hd ho
          have h68 := G.h (j := 9) (d := 68) rfl (by decide) d9
          have h70 := G.h (j := 11) (d := 70) rfl (by decide) d11
          refine step_open rfl ?_
          clear G
          refine wp_append_fresh (.tmp 68) (.tmp 70) 83 rfl 148 I2 (.agg #[.bool false, .int .u64 0, .int .u64 0]) 3 24 Tryz.underlying83 hi2 hx0 hx1 hx2 rfl (by decide) W11.heap.size q9 (eval_of h68) own9 va vl vc (val.flatMap intL) (eval_of h70) (IntsAt.src hvin HV.out.2) (by unfold maxLen; omega) (by omega) (by omega) (fun va vc w9 h1 h2 => (show IsRowO _ _ _ _ _ _ _ from ⟨va, vc, rfl, h1⟩))
        | 13 =>
          intro _ ho hd
          obtain rfl := (Option.some.inj ho).symm
          have d4 : vs 4 = (.slice (some ⟨pq, 0, none⟩) rpn vc10) := hd ⟨4, .data⟩ (by simp) rfl
          have d8 : vs 8 = (.int .i64 (k : Int)) := hd ⟨8, .data⟩ (by simp) rfl
          clear hd ho
          have h63 := G.h (j := 4) (d := 63) rfl (by decide) d4
          have h67 := G.h (j := 8) (d := 67) rfl (by decide) d8
          refine step_open rfl ?_
          clear G
          exact step_run (v := (.pointer (some ⟨pq, k * 2, none⟩))) (by go_simp) rfl
        | 14 =>
          intro _ ho hd
          obtain rfl := (Option.some.inj ho).symm
          have d13 : vs 13 = (.pointer (some ⟨pq, k * 2, none⟩)) := hd ⟨13, .data⟩ (by simp) rfl
          clear hd ho
          have h72 := G.h (j := 13) (d := 72) rfl (by decide) d13
          refine step_open rfl ?_
          clear G
          exact step_run (v := (.pointer (some ⟨pq, k * 2 + 1, none⟩))) (by go_simp) rfl
        | n + 15 =>
          intro hi
          exfalso
          omega
      intro vs w12 A hA F hb hR
      have HA := Lib.hid hA
      clear hA
      obtain ⟨va', vc', d12, own12⟩ : IsRowO W11.heap.size 148 3 vl (val.flatMap intL) (vs 12) w12 := hR 12 (by decide)
      have d14 : vs 14 = (.pointer (some ⟨pq, k * 2 + 1, none⟩)) := hR 14 (by decide)
      have G := F.light (n := 77) (by kernel_rfl)
      have h71 := G.h (j := 12) (d := 71) rfl (by decide) d12
      have h73 := G.h (j := 14) (d := 73) rfl (by decide) d14
      have HS12 := Lib.hid (HS11.out.below hb)
      have hrow12 := ownsRow_below HROW.out hb
      have hpt12 := ownsRow_below HPT11.out hb
      clear G F hR d12 d14 hb
      obtain ⟨pq', hq', hset, fz, _, _, _, ⟨y0, x0⟩⟩ := ownsRow_setS (j := k * 2 + 1) (.slice va' vl vc') hpt12 (by omega)
      cases hq'
      rw [partL_setV rps k p va' vl vc' val HK.out.2.2.1, HR.out.2.2.2 k p HK.out.1 HK.out.2.2.1] at hset
      have hrow13 := ownsRow_out hrow12 (Out.only (F := fun b => b = pq) (Only.at w12 pq (k * 2 + 1) (.slice va' vl vc')) rfl) (fun x hx he => by
        subst he
        obtain ⟨c1, h1⟩ := row_type hrow12 hx
        obtain ⟨c2, h2⟩ := row_type hpt12 (b := x) rfl
        rw [h1] at h2
        cases h2)
      have hint13 := ownsRow_out own12 (Out.only (F := fun b => b = pq) (Only.at w12 pq (k * 2 + 1) (.slice va' vl vc')) rfl) (fun x hx he => by
        subst he
        obtain ⟨c1, h1⟩ := row_type own12 hx
        obtain ⟨c2, h2⟩ := row_type hpt12 (b := x) rfl
        rw [h1] at h2
        cases h2)
      have HS13 := Lib.hid (HS12.out.setQ (q := pq) (k := k * 2 + 1) (v := .slice va' vl vc') (by omega))
      rw [(urowL_setP rs row ⟨re, rpa, rpn, rpc, rps⟩ (some ⟨pq, 0, none⟩) rpn vc10 (rps.set k ⟨id, none, 0, 0, []⟩) HR.out.1).symm.trans (urowL_setP rs row ⟨re, rpa, rpn, rpc, rps⟩ (some ⟨pq, 0, none⟩) rpn vc10 (rps.set k ⟨id, va', vl, vc', val⟩) HR.out.1)] at hrow13
      have HR13 := Lib.hid (show RU 0 (w12.setCell ⟨pq, k * 2 + 1, none⟩ (.slice va' vl vc')) (some ⟨q, 0, none⟩) ln vc9 (rs.set row ⟨re, some ⟨pq, 0, none⟩, rpn, vc10, rps.set k ⟨id, va', vl, vc', val⟩⟩) from by
        refine ⟨ownsRow_mono hrow13 (Nat.zero_le _), fun x hx => ?_, by rw [List.length_set]; exact HRU.out.len⟩
        rcases List.mem_or_eq_of_mem_set hx with hx | rfl
        · exact (HRU.out.parts x hx).below HS13.out.b
        · refine ⟨ownsRow_mono hset (Nat.zero_le _), fun y hy => ?_, by rw [List.length_set]; exact HPS.out.len⟩
          rcases List.mem_or_eq_of_mem_set hy with hy | rfl
          · exact ((HRU.out.parts _ (List.mem_of_getElem? HR.out.1)).below HS13.out.b).vals y hy
          · exact ⟨ownsRow_mono hint13 (Nat.zero_le _), HV.out.1.1, HV.out.1.2.2.2.1⟩)
      clear hrow13 hint13 hset hpt12 hrow12 own12
      simp only [List.drop_succ_cons, List.drop_zero, wpTail]
      go_simp
      rw [HA.out]
      simp only [putAll, Act.put, List.setIfInBounds_toArray, List.set_cons_succ, List.set_cons_zero]
      clear HA fz x0 h71 h73
      generalize World.setCell _ ⟨pq, k * 2 + 1, none⟩ _ = W13 at *
      have f5 := free_at HS13.out.u 5
      have d5 := cell_at HS13.out.u 5
      have hl5 := lt_some HS13.out.u
      simp [UD.cs] at d5
      go_upto_region 12 with (fail)
      have HF6 := Lib.hid (HS13.out.set5 (some ⟨q, 0, none⟩) ln vc9)
      have HR6 := Lib.hid (HR13.out.out (F := fun b => b = w.heap.size) (Out.only (Only.at W13 w.heap.size 5 (.slice (some ⟨q, 0, none⟩) ln vc9)) rfl) (fun b hb => by subst hb; exact mutU_box HS13.out.u))
      dsimp only at HF6
      generalize hW6 : World.setCell _ ⟨w.heap.size, 5, none⟩ _ = W6 at *
      clear f5 hl5 d5 HR13 hW6
      obtain ⟨c0, c1, c2, c3, c4, c5, hul⟩ := HF6.out.cells
      dsimp only at c0 c1 c2 c3 c4 c5
      obtain ⟨f0, y0, x0⟩ := HF6.out.zfree 0 (by decide)
      obtain ⟨f1, y1, x1⟩ := HF6.out.zfree 1 (by decide)
      obtain ⟨f2, y2, x2⟩ := HF6.out.zfree 2 (by decide)
      obtain ⟨f3, y3, x3⟩ := HF6.out.zfree 3 (by decide)
      obtain ⟨f4, y4, x4⟩ := HF6.out.zfree 4 (by decide)
      obtain ⟨f5, y5, x5⟩ := HF6.out.zfree 5 (by decide)
      go_wp2_with fail
      obtain ⟨cs0, hc6, hz⟩ := HF6.out.z
      have hs := setU_cells ⟨ver, some ⟨b, off, none⟩, cl, cc, ia, il, ic, most, kept, some ⟨q, 0, none⟩, ln, vc9⟩ hz hc6
      have hbs := setU_below (b := w.heap.size + 2) (u := ⟨ver, some ⟨b, off, none⟩, cl, cc, ia, il, ic, most, kept, some ⟨q, 0, none⟩, ln, vc9⟩) HF6.out.b (by omega)
      have hr7 := HR6.out.out (setU_out W6 (w.heap.size + 2) ⟨ver, some ⟨b, off, none⟩, cl, cc, ia, il, ic, most, kept, some ⟨q, 0, none⟩, ln, vc9⟩) (fun b hb => by subst hb; exact mutU_box hz)
      unfold setU at *
      dsimp only [UD.cs] at hs hbs
      generalize World.setCell _ _ _ = W2 at *
      have a0 := cell_at hs 0
      have a1 := cell_at hs 1
      have a2 := cell_at hs 2
      have a3 := cell_at hs 3
      have a4 := cell_at hs 4
      have a5 := cell_at hs 5
      simp at a0 a1 a2 a3 a4 a5
      refine bodyPost_ret (v := .tuple #[.agg #[.int .i64 ver, .slice (some ⟨b, off, none⟩) cl cc, .slice ia il ic, .int .i64 most, .int .i64 kept, .slice (some ⟨q, 0, none⟩) ln vc9], .int .i64 0]) (by simp [results, Tryz.results50, go_sem, a0, a1, a2, a3, a4, a5]) rfl ?_
      exact ⟨hbs, .inr ⟨k, HK.out.1, HIX.out, _, HK.out.2.2.2.1, .inr ⟨HK.out.2.2.2.2, _, _, rfl, _, _, _, _, hr7⟩⟩⟩
    · have e3 : (f != 0) = true := by rw [bne_iff_ne]; exact hf0
      have HFZ := Lib.hid hf0
      clear hf0
      go_upto_region 7 with (fail)
      obtain ⟨c0, c1, c2, c3, c4, c5, hul⟩ := HF8.out.cells
      dsimp only at c0 c1 c2 c3 c4 c5
      obtain ⟨f0, y0, x0⟩ := HF8.out.zfree 0 (by decide)
      obtain ⟨f1, y1, x1⟩ := HF8.out.zfree 1 (by decide)
      obtain ⟨f2, y2, x2⟩ := HF8.out.zfree 2 (by decide)
      obtain ⟨f3, y3, x3⟩ := HF8.out.zfree 3 (by decide)
      obtain ⟨f4, y4, x4⟩ := HF8.out.zfree 4 (by decide)
      obtain ⟨f5, y5, x5⟩ := HF8.out.zfree 5 (by decide)
      go_wp2_with fail
      obtain ⟨cs0, hc6, hz⟩ := HF8.out.z
      have hs := setU_cells ⟨ver, some ⟨b, off, none⟩, cl, cc, ia, il, ic, most, kept, la, ln, lc⟩ hz hc6
      have hbs := setU_below (b := w.heap.size + 2) (u := ⟨ver, some ⟨b, off, none⟩, cl, cc, ia, il, ic, most, kept, la, ln, lc⟩) HF8.out.b (by omega)
      unfold setU at *
      dsimp only [UD.cs] at hs hbs
      generalize World.setCell _ _ _ = W2 at hs hbs ⊢
      have a0 := cell_at hs 0
      have a1 := cell_at hs 1
      have a2 := cell_at hs 2
      have a3 := cell_at hs 3
      have a4 := cell_at hs 4
      have a5 := cell_at hs 5
      simp at a0 a1 a2 a3 a4 a5
      refine bodyPost_ret (v := .tuple #[.agg #[.int .i64 ver, .slice (some ⟨b, off, none⟩) cl cc, .slice ia il ic, .int .i64 most, .int .i64 kept, .slice la ln lc], .int .i64 f]) (by simp [results, Tryz.results50, go_sem, a0, a1, a2, a3, a4, a5]) rfl ?_
      exact ⟨hbs, .inr ⟨k, _, HK.out.1, HK.out.2.1, HK.out.2.2.2.1, .inl ⟨by rw [HK.out.2.2.2.2]; exact HFZ.out, by rw [HK.out.2.2.2.2]⟩⟩⟩
end Go.Proofs.YtoadihebdaooaaaGreat
