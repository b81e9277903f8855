/- Contracts of table.Ent, and of table.Bytes where there is nothing. · Appends of rows that may be nil, in a region in order; a cell of a row is stored. · Contract of the reference's Add. Printed by mkZK.py. -/
import Derived.Test.YtoadihebdaooaaaGreatE34
import Derived.Test.YtoadihebdaooaaaGreatE36
import Derived.Test.YtoadihebdaooaaaGreatE19
import Derived.Test.YtoadihebdaooaaaGreatE37
namespace Go.Proofs.YtoadihebdaooaaaGreat
open Go.RowKit
set_option linter.unusedVariables false
section
variable {B : Nat} {w : World} {t : TD}
set_option maxRecDepth 100000 in
theorem tabEnt_no (h : TabIn B w t) (row : Int) (hr : ¬ (0 ≤ row ∧ row < t.ents.length)) : Calls Tryz.prog 45 #[.pointer (some ⟨t.tb, 0, none⟩), .int .i64 row] w fun e w' => e = .returned (.int .u64 0) ∧ w = w' := by
  have hc := tabAt_in h row
  rw [if_neg hr] at hc
  have HC := Lib.hid hc
  clear hc h hr
  go_enter Tryz.func45, Tryz.ntmps45
  go_wp2_with fail
  refine HC.out.mono ?_
  rintro e w1 ⟨rfl, rfl⟩
  go_wp2_with fail
  go_returns
  exact ⟨rfl, rfl⟩
set_option maxRecDepth 100000 in
theorem tabEnt_ok (h : TabIn B w t) (k : Nat) (x : Int) (hx : t.ents[k]? = some x) : Calls Tryz.prog 45 #[.pointer (some ⟨t.tb, 0, none⟩), .int .i64 (k : Int)] w fun e w' => e = .returned (.int .u64 x) ∧ ∃ m, w' = w.drewN m := by
  have hk : k < t.ents.length := (List.getElem?_eq_some_iff.1 hx).1
  have hc := tabAt_in h (k : Int)
  rw [if_pos ⟨by omega, by omega⟩] at hc
  obtain ⟨_, _, _, _, _, c5, _, _⟩ := h.cells
  obtain ⟨q, hq, _, hql, hqc⟩ := row_block h.entsR (by omega)
  have z0 := hqc k (.int .u64 x) (by rw [List.getElem?_map, hx]; rfl)
  rw [hq] at c5
  have hroom := h.room
  have hm := h.most2
  have htb := lt_some h.blk
  have HC := Lib.hid hc
  obtain ⟨n, hn⟩ : ∃ n, t.ents.length = n := ⟨_, rfl⟩
  rw [hn] at c5 hk hroom
  have i1 : (0 : Int) ≤ (k : Int) := by omega
  have i2 : (k : Int) < (n : Int) := by omega
  clear h hc hx hqc hn hq
  go_enter Tryz.func45, Tryz.ntmps45
  go_wp2_with fail
  refine HC.out.mono ?_
  rintro e w1 ⟨rfl, rfl⟩
  go_wp2_with fail
  go_returns
  exact ⟨rfl, by first | exact ⟨0, rfl⟩ | exact ⟨_, rfl⟩⟩
set_option maxRecDepth 100000 in
theorem tabBytes_no (h : TabIn B w t) (row comp : Int) (he : findErr t row comp ≠ 0) : Calls Tryz.prog 44 #[.pointer (some ⟨t.tb, 0, none⟩), .int .i64 row, .int .i64 comp] w fun e w' => e = .returned (.tuple #[.string ⟨#[]⟩, .int .i64 (findErr t row comp)]) ∧ Below w.heap.size w w' := by
  have hv : findVal t row comp = .agg #[.int .i64 0, .string ByteArray.empty, .slice none 0 0, .pointer none] := by
    unfold findErr at he
    unfold findVal
    split
    · rename_i h1
      rw [if_pos h1] at he
      cases hc : colOf t.cps comp with
      | none => rfl
      | some x => rw [hc] at he; exact absurd rfl he
    · rfl
  have HF := Lib.hid (tabFind_in h row comp)
  rw [hv] at HF
  obtain ⟨r, hr⟩ : ∃ r, findErr t row comp = r := ⟨_, rfl⟩
  rw [hr] at HF he ⊢
  have e1 : (r != 0) = true := by rw [bne_iff_ne]; exact he
  clear h hv hr he
  go_enter Tryz.func44, Tryz.ntmps44
  go_wp2_with fail
  refine HF.out.mono ?_
  rintro e w1 ⟨rfl, hb⟩
  have hz := hb.size
  go_wp2_with fail
  go_ret2
  exact ⟨rfl, hb.alloc hz _⟩
end
set_option maxRecDepth 100000 in
theorem values_eq16 (xs : List WI) (a : Option Addr) (l c : Nat) (a' : Option Addr) (l' c' : Nat) (w : World) (hx : IntsAt w.heap.size w a l c xs) (hy : IntsAt w.heap.size w a' l' c' xs) :
    Calls Tryz.prog 42 #[.slice a l c, .slice a' l' c'] w fun e w' => e = .returned (.bool true) ∧ ∃ m, w' = w.drewN m := by
  have hlx := hx.1
  have hly := hy.1
  have hmx : l ≤ maxLen := Nat.le_trans hx.2.1 hx.2.2.1
  unfold maxLen at hmx
  obtain rfl : l = l' := by omega
  have HX := Lib.hid hx
  have HY := Lib.hid hy
  clear hx hy hlx hly
  go_enter Tryz.func42, Tryz.ntmps42
  go_wp2_with fail
  go_loopw [5] (fun i wr => ∃ k n : Nat, k ≤ l ∧ i = .int .i64 (k : Int) ∧ wr = w.drewN n) (fun i _ => l - (intOf i).toNat)
  case atStart => exact ⟨0, 0, by omega, rfl, rfl⟩
  case round =>
    obtain ⟨k, n, hk, rfl, hwr⟩ := hrel
    have hbr : Below w.heap.size w wr := by rw [hwr]; exact below_drewN (Below.refl _ w) n
    by_cases hlt : k < l
    · obtain ⟨b, off, x, rfl, hB, hxk, hxw, x0, x1, x2⟩ := HX.out.get hbr hlt
      obtain ⟨b', off', y, rfl, hB', hyk, hyw, y0, y1, y2⟩ := HY.out.get hbr hlt
      obtain rfl : x = y := by rw [hxk] at hyk; cases hyk; rfl
      obtain ⟨xn, xh, xl⟩ := x
      have hne := fun w => int_ne xn xn xh xh xl xl w
      rw [show (xn == xn && (xh == xh && xl == xl)) = true by simp] at hne
      have i1 : (0 : Int) ≤ (k : Int) := by omega
      have i2 : (k : Int) < (l : Int) := by omega
      have z1 : b < wr.heap.size := by have := hbr.size; omega
      have z2 : b' < wr.heap.size := by have := hbr.size; omega
      have HWR := Lib.hid hwr
      clear hxk hyk hxw hyw hwr hbr
      go_wp2_with fail
      go_quiet (fail)
      go_wp2_with fail
      go_roundw
      case rel => exact ⟨k + 1, _, by omega, by go_num, by rw [HWR.out, World.drewN_drewN]⟩
      case measure => simp only [intOf]; omega
    · obtain rfl : k = l := by omega
      go_wp2_with fail
      go_returns
      exact ⟨rfl, n, by first | rfl | exact hwr⟩
end Go.Proofs.YtoadihebdaooaaaGreat
namespace Go.Proofs.YtoadihebdaooaaaGreat
open Go.RowKit
set_option linter.unusedVariables false
section
variable {P : Program} {w : World} {ops : Array Oper} {rest : List Oper} {o : Oper} {a : Act} {Q : Exit → Act → World → Prop}
theorem wpList_append_src (hgd : o.guard = none) (s x : Operand) (t : TypeId)
    (ho : o.op = .call { callee := .builtin .append, args := #[s, x], argTypes := #[t, t] })
    (base : Nat) (e : TypeId) (i : TypeInfo) (z : Value) (size bytes : Nat) (ht : P.underlying t = some (.slice e)) (hi : P.info? e = some i) (hz : i.zero = some z)
    (hsize : i.size = size) (hby : i.bytes = bytes) (hzs : z.cells.size = size) (hsz : 0 < size)
    (v : Value) (n : Nat) (xs : List Value) (hs : a.eval s = v) (hown : w.ownsRow base e size v n xs)
    (xa : Option Addr) (m c : Nat) (news : List Value) (hx : a.eval x = .slice xa m c) (hsrc : SrcAt w size xa m c news)
    (h63 : n + m ≤ maxLen) (hbytes : (n + m) * bytes ≤ 140737488355328) (hbase : base ≤ w.heap.size)
    (h : ∀ v' w', w'.ownsRow base e size v' (n + m) (xs ++ news) → w.grownBy w' v.ownBlock → wpList P ops Q rest (a.put o.dst v') w') : wpList P ops Q (o :: rest) a w :=
  wpList_plain hgd fun _ hK => wp_append_src s x t ho base e i z size bytes ht hi hz hsize hby hzs hsz v n xs hs hown xa m c news hx hsrc h63 hbytes hbase fun v' w' h2 h3 => hK _ _ (h v' w' h2 h3)
theorem wpList_append_fresh (hgd : o.guard = none) (s x : Operand) (t : TypeId)
    (ho : o.op = .call { callee := .builtin .append, args := #[s, x], argTypes := #[t, t] })
    (e : TypeId) (i : TypeInfo) (z : Value) (size bytes : Nat) (ht : P.underlying t = some (.slice e)) (hi : P.info? e = some i) (hz : i.zero = some z)
    (hsize : i.size = size) (hby : i.bytes = bytes) (hzs : z.cells.size = size) (hsz : 0 < size) (base g : Nat) (hs : a.eval s = .slice (some ⟨g, 0, none⟩) 0 0) (hown : w.ownsRow base e size (.slice (some ⟨g, 0, none⟩) 0 0) 0 [])
    (xa : Option Addr) (m c : Nat) (news : List Value) (hx : a.eval x = .slice xa m c) (hsrc : SrcAt w size xa m c news) (h63 : m ≤ maxLen) (hbytes : m * bytes ≤ 140737488355328) (hbase : base ≤ w.heap.size)
    (h : ∀ va vc w', w'.ownsRow base e size (.slice va m vc) m news → Below w.heap.size w w' → wpList P ops Q rest (a.put o.dst (.slice va m vc)) w') : wpList P ops Q (o :: rest) a w := by
  refine wpList_plain hgd fun K hK => ?_
  obtain ⟨va, vc, w', hr, h1, h2⟩ := run_append_fresh (P := P) (w := w) t o.type e i z size bytes ht hi hz hsize hby hzs hsz base g hown xa m c news hsrc h63 hbytes hbase
  unfold Oper.wp
  simp only [execOp, ho, resolve, invoke, builtin, Sem.run_bind, Sem.run_pure, Result.andThen_ok, List.map_toArray, List.map_cons, List.map_nil, hs, hx, hr]
  exact hK _ _ (h va vc w' h1 h2)
end
theorem ownsRow_setS {w : World} {b : Nat} {e : TypeId} {s : Nat} {va : Option Addr} {n vc j : Nat} {xs : List Value} (u : Value) (h : w.ownsRow b e s (.slice va n vc) n xs) (hj : j < n * s) :
    ∃ q, va = some ⟨q, 0, none⟩ ∧ (w.setCell ⟨q, j, none⟩ u).ownsRow b e s (.slice va n vc) n (xs.set j u) ∧ w.frozen? ⟨q, j, none⟩ = false ∧ b ≤ q ∧ q < w.heap.size ∧ n ≤ vc ∧ ∃ y, w.cell? ⟨q, j, none⟩ = some y := by
  obtain ⟨h1, h2⟩ := h
  rcases h2 with ⟨_, h3⟩ | ⟨g, cap, cur, hv, hg, hh, hc1, hc2, hc3, hc4⟩
  · subst h3; simp at hj
  · cases hv
    have hjc : j < cur.size := by
      have : n * s ≤ vc * s := Nat.mul_le_mul_right _ hc1
      omega
    refine ⟨g, rfl, ⟨by rw [List.length_set]; exact h1, .inr ⟨g, vc, cur.setIfInBounds j u, rfl, hg, hset w g j u _ _ _ hh, hc1, hc2, by rw [Array.size_setIfInBounds]; exact hc3, ?_⟩⟩, free_at hh j, hg, lt_some hh, hc1, ⟨cur[j], ?_⟩⟩
    · rw [Array.toList_setIfInBounds, ← hc4, List.take_set]
    · rw [cell_at hh, Array.getElem?_eq_getElem hjc]
theorem set_append_len {α : Type} (l t : List α) (j : Nat) (u : α) : (l ++ t).set (l.length + j) u = l ++ t.set j u := by
  rw [List.set_append_right _ _ (by omega)]
  congr 2
  omega
end Go.Proofs.YtoadihebdaooaaaGreat
namespace Go.Proofs.YtoadihebdaooaaaGreat
open Go.RowKit
set_option linter.unusedVariables false
theorem Tryz.infoURow16 : (Tryz.prog.info? 173).map (fun i => (i.zero, i.size, i.bytes)) = some (some (.agg #[.int .u64 0, .slice none 0 0]), 2, 32) := by kernel_rfl
def u0cs : Array Value := #[.int .i64 0, .slice none 0 0, .slice none 0 0, .int .i64 0, .int .i64 0, .slice none 0 0]
/-- The receiver's box, and the result's. -/
structure UF (w0 : World) (u : UD) (w : World) : Prop where
  u : w.heap[w0.heap.size]? = some (.cells u.cs 99 (0, 0))
  z : ∃ cs : Array Value, cs.size = 6 ∧ w.heap[w0.heap.size + 1]? = some (.cells cs 99 (0, 0))
  b : Below w0.heap.size w0 w
theorem UF.below {w0 : World} {u : UD} {w w' : World} (h : UF w0 u w) (hb : Below w.heap.size w w') : UF w0 u w' := by
  obtain ⟨cs, h1, h2⟩ := h.z
  exact ⟨keep hb h.u, ⟨cs, h1, keep hb h2⟩, h.b.trans (hb.mono h.b.size)⟩
theorem UF.start (w : World) (u : UD) : UF w u ((w.alloc (.cells u.cs 99)).alloc (.cells u0cs 99)) := by
  have h1 := keepA (.cells u0cs 99) (heap_alloc_new w (.cells u.cs 99))
  have h2 := heap_alloc_new (w.alloc (.cells u.cs 99)) (.cells u0cs 99)
  rw [World.size_alloc] at h2
  exact ⟨h1, ⟨u0cs, rfl, h2⟩, by go_grown⟩
theorem UF.cells {w0 : World} {u : UD} {w : World} (h : UF w0 u w) : w.cell? ⟨w0.heap.size, 0, none⟩ = some (.int .i64 u.ver) ∧ w.cell? ⟨w0.heap.size, 1, none⟩ = some (.slice u.ca u.cl u.cc) ∧ w.cell? ⟨w0.heap.size, 2, none⟩ = some (.slice u.ia u.il u.ic) ∧ w.cell? ⟨w0.heap.size, 3, none⟩ = some (.int .i64 u.most) ∧ w.cell? ⟨w0.heap.size, 4, none⟩ = some (.int .i64 u.kept) ∧ w.cell? ⟨w0.heap.size, 5, none⟩ = some (.slice u.la u.ln u.lc) ∧ w0.heap.size < w.heap.size :=
  ⟨cell_at h.u 0, cell_at h.u 1, cell_at h.u 2, cell_at h.u 3, cell_at h.u 4, cell_at h.u 5, lt_some h.u⟩
theorem UF.zfree {w0 : World} {u : UD} {w : World} (h : UF w0 u w) (k : Nat) (hk : k < 6) : w.frozen? ⟨w0.heap.size + 1, k, none⟩ = false ∧ ∃ v, w.cell? ⟨w0.heap.size + 1, k, none⟩ = some v := by
  obtain ⟨cs, h1, h2⟩ := h.z
  exact ⟨free_at h2 k, cs[k], by rw [cell_at h2, Array.getElem?_eq_getElem]⟩
/-- The world with the result stored. -/
def setU (w : World) (b : Nat) (u : UD) : World := ((((((w.setCell ⟨b, 0, none⟩ (.int .i64 u.ver)).setCell ⟨b, 1, none⟩ (.slice u.ca u.cl u.cc)).setCell ⟨b, 2, none⟩ (.slice u.ia u.il u.ic)).setCell ⟨b, 3, none⟩ (.int .i64 u.most)).setCell ⟨b, 4, none⟩ (.int .i64 u.kept)).setCell ⟨b, 5, none⟩ (.slice u.la u.ln u.lc))
theorem setU_cells {w : World} {b : Nat} {cs : Array Value} (u : UD) (h : w.heap[b]? = some (.cells cs 99 (0, 0))) (hs : cs.size = 6) : (setU w b u).heap[b]? = some (.cells u.cs 99 (0, 0)) := by
  unfold setU
  rw [hset _ _ _ _ _ _ _ (hset _ _ _ _ _ _ _ (hset _ _ _ _ _ _ _ (hset _ _ _ _ _ _ _ (hset _ _ _ _ _ _ _ (hset _ _ _ _ _ _ _ h)))))]
  obtain ⟨a0, a1, a2, a3, a4, a5, rfl⟩ : ∃ a0 a1 a2 a3 a4 a5, cs = #[a0, a1, a2, a3, a4, a5] := by
    obtain ⟨l⟩ := cs
    match l, hs with
    | [a0, a1, a2, a3, a4, a5], _ => exact ⟨a0, a1, a2, a3, a4, a5, rfl⟩
  rfl
theorem setU_below {w0 w : World} {b n : Nat} {u : UD} (h : Below n w0 w) (hb : n ≤ b) : Below n w0 (setU w b u) := by
  unfold setU
  exact (((((h.setCell (by exact hb) _).setCell (by exact hb) _).setCell (by exact hb) _).setCell (by exact hb) _).setCell (by exact hb) _).setCell (by exact hb) _
theorem UF.set5 {w0 : World} {u : UD} {w : World} (h : UF w0 u w) (la : Option Addr) (ln lc : Nat) : UF w0 { u with la := la, ln := ln, lc := lc } (w.setCell ⟨w0.heap.size, 5, none⟩ (.slice la ln lc)) := by
  obtain ⟨cs, h1, h2⟩ := h.z
  refine ⟨?_, ⟨cs, h1, ?_⟩, h.b.setCell (by exact Nat.le_refl _) _⟩
  · exact hset w _ 5 (.slice la ln lc) _ _ _ h.u
  · rw [hset_ne _ _ _ _ (by show w0.heap.size + 1 ≠ w0.heap.size; omega)]; exact h2
theorem UF.kept {w0 : World} {u : UD} {w w' : World} (h : UF w0 u w) {U : Nat} {e : TypeId} {s n : Nat} {v : Value} {xs : List Value} (ho : w.ownsRow U e s v n xs) (hg : w.grownBy w' v.ownBlock) (he : 99 ≠ e) (hU : w0.heap.size ≤ U) : UF w0 u w' := by
  obtain ⟨cs, h1, h2⟩ := h.z
  have hne : ∀ cs : Array Value, ∀ cur : Array Value, Obj.cells cs 99 (0, 0) = .cells cur e (0, 0) → False := fun cs cur hh => by cases hh; exact he rfl
  exact ⟨keepG hg h.u (ownsRow_ne_block3 ho h.u (hne _)), ⟨cs, h1, keepG hg h2 (ownsRow_ne_block3 ho h2 (hne _))⟩, h.b.grown hg h.b.size (fun x hx => Nat.le_trans hU (ho.lt x hx).1)⟩
theorem PO.kept {B : Nat} {w w' : World} {a : Option Addr} {n c : Nat} {ps : List PW} (h : PO B w a n c ps) {U : Nat} {e : TypeId} {s m : Nat} {v : Value} {xs : List Value} (ho : w.ownsRow U e s v m xs) (hg : w.grownBy w' v.ownBlock) (h1 : 85 ≠ e) (h2 : 148 ≠ e) : PO B w' a n c ps :=
  ⟨h.row.kept hg (ownsRow_ne h.row ho h1), fun p hp => ⟨(h.vals p hp).1.kept hg (ownsRow_ne (h.vals p hp).1 ho h2), (h.vals p hp).2⟩, h.len⟩
theorem urowL_one {rs : List URow} : ∀ u ∈ rs.flatMap urowL, u.oneCell' = true := by
  intro u hu
  obtain ⟨x, _, hx⟩ := List.mem_flatMap.1 hu
  simp only [urowL, List.mem_cons, List.not_mem_nil, or_false] at hx
  rcases hx with rfl | rfl <;> rfl
/-- A row more. -/
theorem RU.snoc {U : Nat} {w w' : World} {a a' : Option Addr} {n c c' : Nat} {rs : List URow} {r : URow} (hr : w.ownsRow U 173 2 (.slice a n c) n (rs.flatMap urowL)) (hp : ∀ x ∈ rs, PO 0 w x.pa x.pn x.pc x.ps) (hl : rs.length = n) (hg : w.grownBy w' (Value.slice a n c).ownBlock) (hown : w'.ownsRow U 173 2 (.slice a' (n + 1) c') (n + 1) (rs.flatMap urowL ++ urowL r))
    (hv : PO 0 w r.pa r.pn r.pc r.ps) : RU 0 w' a' (n + 1) c' (rs ++ [r]) := by
  refine ⟨by rw [List.flatMap_append, List.flatMap_singleton]; exact ownsRow_mono hown (Nat.zero_le _), fun q hq => ?_, by rw [List.length_append, hl]; rfl⟩
  rcases List.mem_append.1 hq with hq | hq
  · exact (hp q hq).kept hr hg (by decide) (by decide)
  · obtain rfl : q = r := List.mem_singleton.1 hq
    exact hv.kept hr hg (by decide) (by decide)
theorem mutU_box {w : World} {b : Nat} {cs : Array Value} {fr : Nat × Nat} (h : w.heap[b]? = some (.cells cs 99 fr)) : MutU w b := by
  intro cs' t' fr' h'
  rw [h] at h'
  cases h'
  exact ⟨by decide, by decide, by decide⟩
theorem setU_out (w : World) (b : Nat) (u : UD) : Out (fun x => x = b) w (setU w b u) := by
  unfold setU
  have key : ∀ (W : World) (k : Nat) (v : Value), Out (fun x => x = b) W (W.setCell ⟨b, k, none⟩ v) := fun W k v => Out.only (Only.at W b k v) rfl
  exact (((((key _ _ _).trans (key _ _ _) (fun x h => .inl h)).trans (key _ _ _) (fun x h => .inl h)).trans (key _ _ _) (fun x h => .inl h)).trans (key _ _ _) (fun x h => .inl h)).trans (key _ _ _) (fun x h => .inl h)
/-- The document's error of a new row. -/
def err16 (u : UD) (ids : List Int) (cs : List Cmp) (e : Int) (ps : List PW) : Int :=
  if e = 0 then 1 else if sortF ids (cv ps) = none then 4 else if cpsGo cs [] ps ≠ 0 then cpsGo cs [] ps else if u.most - u.ln - u.kept ≤ 0 then 5 else 0
set_option maxRecDepth 100000 in
set_option maxHeartbeats 1000000 in
theorem add16_any (u : UD) (ids : List Int) (cs : List Cmp) (rs : List URow) (e : Int) (pa : Option Addr) (n pc : Nat) (ps : List PW) (w : World) (hi : w.ownsRow 0 3 1 (.slice u.ia u.il u.ic) u.il (ids.map (.int .i64))) (hl : ids.length = u.il) (hb : u.il ≤ 1000)
    (hcs : CompsAt w.heap.size w u.ca u.cl cs) (hR : RU 0 w u.la u.ln u.lc rs) (h0 : 0 ≤ u.most) (h1 : u.most ≤ 256) (h2 : 0 ≤ u.kept) (h3 : u.kept ≤ 256) (h4 : u.ln ≤ 256)
    (hps : PartsAt w.heap.size w pa n pc ps) (hn : n ≤ 1000) (hvl : ∀ p ∈ ps, p.vl ≤ 1000) (hnl : NilInts ps) :
    Calls Tryz.prog 48 #[u.v, .int .u64 e, .slice pa n pc] w fun en w' => Below w.heap.size w w' ∧ ((err16 u ids cs e ps ≠ 0 ∧ en = .returned (.tuple #[u.v, .int .i64 (err16 u ids cs e ps)])) ∨
      (err16 u ids cs e ps = 0 ∧ ∃ la lc oa oc qs, en = .returned (.tuple #[UD.v { u with la := la, ln := u.ln + 1, lc := lc }, .int .i64 0]) ∧ sortF ids (cv ps) = some (cv qs) ∧ RU 0 w' la (u.ln + 1) lc (rs ++ [⟨e, oa, qs.length, oc, qs⟩]))) := by
  obtain ⟨i0, hi0, hz0, hz1, hz2⟩ := info_parts Tryz.infoURow16
  have hst := UF.start w u
  have HS := Lib.hid (fun (W : World) (hW : Below w.heap.size w W) => sorted16_any u ids pa n pc ps W (ownsRow_below hi hW) hl hb ((hps.below hW).mono hW.size) hn hvl hnl)
  have HP := Lib.hid (fun (W : World) (hW : Below w.heap.size w W) => parts07_any u.ver cs u.ca u.cl u.cc ps pa n pc W ((hcs.below hW).mono hW.size) ((hps.below hW).mono hW.size))
  have HR := Lib.hid (fun (W : World) => room16_any u W h0 h1 h2 h3 h4)
  obtain ⟨E, hE⟩ : ∃ E, err16 u ids cs e ps = E := ⟨_, rfl⟩
  rw [hE]
  have hE' := hE.symm
  unfold err16 at hE'
  have HE := Lib.hid hE'
  clear hE hE'
  have hln := hR.len
  have HRU := Lib.hid hR
  clear hi hl hb hcs hps hn hvl hnl hR
  obtain ⟨ver, ca, cl, cc, ia, il, ic, most, kept, la, ln, lc⟩ := u
  dsimp only [UD.v, UD.cs, u0cs] at *
  have HF := Lib.hid hst
  clear hst
  by_cases he : e = 0
  · subst he
    have HE1 : Hid (E = 1) := Lib.hid (by rw [HE.out, if_pos rfl])
    go_enter Tryz.func48, Tryz.ntmps48
    go_upto_region 2 with (fail)
    generalize hW : World.alloc (World.alloc w _) _ = W at *
    clear hW
    obtain ⟨c0, c1, c2, c3, c4, c5, hul⟩ := HF.out.cells
    dsimp only at c0 c1 c2 c3 c4 c5
    obtain ⟨f0, y0, x0⟩ := HF.out.zfree 0 (by decide)
    obtain ⟨f1, y1, x1⟩ := HF.out.zfree 1 (by decide)
    obtain ⟨f2, y2, x2⟩ := HF.out.zfree 2 (by decide)
    obtain ⟨f3, y3, x3⟩ := HF.out.zfree 3 (by decide)
    obtain ⟨f4, y4, x4⟩ := HF.out.zfree 4 (by decide)
    obtain ⟨f5, y5, x5⟩ := HF.out.zfree 5 (by decide)
    go_wp2_with fail
    obtain ⟨cs0, hc6, hz⟩ := HF.out.z
    have hs := setU_cells ⟨ver, ca, cl, cc, ia, il, ic, most, kept, la, ln, lc⟩ hz hc6
    have hbs := setU_below (u := ⟨ver, ca, cl, cc, ia, il, ic, most, kept, la, ln, lc⟩) HF.out.b (Nat.le_succ _)
    unfold setU at *
    dsimp only [UD.cs] at hs hbs
    generalize World.setCell _ _ _ = W2 at hs hbs ⊢
    have a0 := cell_at hs 0
    have a1 := cell_at hs 1
    have a2 := cell_at hs 2
    have a3 := cell_at hs 3
    have a4 := cell_at hs 4
    have a5 := cell_at hs 5
    simp at a0 a1 a2 a3 a4 a5
    refine bodyPost_ret (v := .tuple #[.agg #[.int .i64 ver, .slice ca cl cc, .slice ia il ic, .int .i64 most, .int .i64 kept, .slice la ln lc], .int .i64 1]) (by simp [results, Tryz.results48, go_sem, a0, a1, a2, a3, a4, a5]) rfl ?_
    exact ⟨hbs, .inl ⟨by rw [HE1.out]; decide, by rw [HE1.out]⟩⟩
  · have e1 : (e == 0) = false := by rw [beq_eq_false_iff_ne]; exact he
    have HE1 := HE.out
    rw [if_neg he] at HE1
    have HE2 := Lib.hid HE1
    clear HE1 he
    go_enter Tryz.func48, Tryz.ntmps48
    go_upto_region 3 with (fail)
    generalize hW : World.alloc (World.alloc w _) _ = W at *
    clear hW
    obtain ⟨c0, c1, c2, c3, c4, c5, hul⟩ := HF.out.cells
    dsimp only at c0 c1 c2 c3 c4 c5
    go_wp2_with fail
    refine (HS.out W HF.out.b).mono ?_
    rintro en w1 ⟨hb1, hso⟩
    have HF1 := Lib.hid (HF.out.below hb1)
    clear c0 c1 c2 c3 c4 c5 hb1 HF hul HS
    rcases hso with ⟨hso, rfl⟩ | ⟨oa, oc, qs, hso, rfl, hpo⟩
    · have HE3 : Hid (E = 4) := Lib.hid (by rw [HE2.out, if_pos hso])
      clear hso
      go_upto_region 5 with (fail)
      obtain ⟨c0, c1, c2, c3, c4, c5, hul⟩ := HF1.out.cells
      dsimp only at c0 c1 c2 c3 c4 c5
      obtain ⟨f0, y0, x0⟩ := HF1.out.zfree 0 (by decide)
      obtain ⟨f1, y1, x1⟩ := HF1.out.zfree 1 (by decide)
      obtain ⟨f2, y2, x2⟩ := HF1.out.zfree 2 (by decide)
      obtain ⟨f3, y3, x3⟩ := HF1.out.zfree 3 (by decide)
      obtain ⟨f4, y4, x4⟩ := HF1.out.zfree 4 (by decide)
      obtain ⟨f5, y5, x5⟩ := HF1.out.zfree 5 (by decide)
      go_wp2_with fail
      obtain ⟨cs0, hc6, hz⟩ := HF1.out.z
      have hs := setU_cells ⟨ver, ca, cl, cc, ia, il, ic, most, kept, la, ln, lc⟩ hz hc6
      have hbs := setU_below (u := ⟨ver, ca, cl, cc, ia, il, ic, most, kept, la, ln, lc⟩) HF1.out.b (Nat.le_succ _)
      unfold setU at *
      dsimp only [UD.cs] at hs hbs
      generalize World.setCell _ _ _ = W2 at hs hbs ⊢
      have a0 := cell_at hs 0
      have a1 := cell_at hs 1
      have a2 := cell_at hs 2
      have a3 := cell_at hs 3
      have a4 := cell_at hs 4
      have a5 := cell_at hs 5
      simp at a0 a1 a2 a3 a4 a5
      refine bodyPost_ret (v := .tuple #[.agg #[.int .i64 ver, .slice ca cl cc, .slice ia il ic, .int .i64 most, .int .i64 kept, .slice la ln lc], .int .i64 4]) (by simp [results, Tryz.results48, go_sem, a0, a1, a2, a3, a4, a5]) rfl ?_
      exact ⟨hbs, .inl ⟨by rw [HE3.out]; decide, by rw [HE3.out]⟩⟩
    · have HE3' := HE2.out
      rw [if_neg (by rw [hso]; exact Option.some_ne_none _)] at HE3'
      have HE3 := Lib.hid HE3'
      have HSO := Lib.hid (And.intro hso hpo)
      clear HE3' hso hpo
      obtain ⟨c0, c1, c2, c3, c4, c5, hul⟩ := HF1.out.cells
      dsimp only at c0 c1 c2 c3 c4 c5
      go_wp2_with fail
      refine (HP.out w1 HF1.out.b).mono ?_
      rintro en w2 ⟨rfl, hb2⟩
      have HF2 := Lib.hid (HF1.out.below hb2)
      have HPO2 := Lib.hid (HSO.out.2.below hb2)
      clear c0 c1 c2 c3 c4 c5 hb2 HF1 hul HP
      obtain ⟨q, hq⟩ : ∃ q, cpsGo cs [] ps = q := ⟨_, rfl⟩
      rw [hq] at HE3 ⊢
      clear hq
      by_cases hq0 : q = 0
      · subst hq0
        have HE4' := HE3.out
        rw [if_neg (by simp)] at HE4'
        have HE4 := Lib.hid HE4'
        clear HE4'
        obtain ⟨c0, c1, c2, c3, c4, c5, hul⟩ := HF2.out.cells
        dsimp only at c0 c1 c2 c3 c4 c5
        go_wp2_with fail
        refine (HR.out w2).mono ?_
        rintro en w3 ⟨rfl, hb3⟩
        have HF3 := Lib.hid (HF2.out.below hb3)
        have HPO3 := Lib.hid (HPO2.out.below hb3)
        clear c0 c1 c2 c3 c4 c5 hb3 HF2 hul HR
        by_cases hroom : most - ln - kept ≤ 0
        · have HE5 : Hid (E = 5) := Lib.hid (by rw [HE4.out, if_pos hroom])
          have e2 : decide (most - (ln : Int) - kept ≤ 0) = true := by simp; omega
          clear hroom
          go_upto_region 10 with (fail)
          obtain ⟨c0, c1, c2, c3, c4, c5, hul⟩ := HF3.out.cells
          dsimp only at c0 c1 c2 c3 c4 c5
          obtain ⟨f0, y0, x0⟩ := HF3.out.zfree 0 (by decide)
          obtain ⟨f1, y1, x1⟩ := HF3.out.zfree 1 (by decide)
          obtain ⟨f2, y2, x2⟩ := HF3.out.zfree 2 (by decide)
          obtain ⟨f3, y3, x3⟩ := HF3.out.zfree 3 (by decide)
          obtain ⟨f4, y4, x4⟩ := HF3.out.zfree 4 (by decide)
          obtain ⟨f5, y5, x5⟩ := HF3.out.zfree 5 (by decide)
          go_wp2_with fail
          obtain ⟨cs0, hc6, hz⟩ := HF3.out.z
          have hs := setU_cells ⟨ver, ca, cl, cc, ia, il, ic, most, kept, la, ln, lc⟩ hz hc6
          have hbs := setU_below (u := ⟨ver, ca, cl, cc, ia, il, ic, most, kept, la, ln, lc⟩) HF3.out.b (Nat.le_succ _)
          unfold setU at *
          dsimp only [UD.cs] at hs hbs
          generalize World.setCell _ _ _ = W2 at hs hbs ⊢
          have a0 := cell_at hs 0
          have a1 := cell_at hs 1
          have a2 := cell_at hs 2
          have a3 := cell_at hs 3
          have a4 := cell_at hs 4
          have a5 := cell_at hs 5
          simp at a0 a1 a2 a3 a4 a5
          refine bodyPost_ret (v := .tuple #[.agg #[.int .i64 ver, .slice ca cl cc, .slice ia il ic, .int .i64 most, .int .i64 kept, .slice la ln lc], .int .i64 5]) (by simp [results, Tryz.results48, go_sem, a0, a1, a2, a3, a4, a5]) rfl ?_
          exact ⟨hbs, .inl ⟨by rw [HE5.out]; decide, by rw [HE5.out]⟩⟩
        · have HE5 : Hid (E = 0) := Lib.hid (by rw [HE4.out, if_neg hroom])
          have e2 : decide (most - (ln : Int) - kept ≤ 0) = false := by simp; omega
          clear hroom
          obtain ⟨c0, c1, c2, c3, c4, c5, hul⟩ := HF3.out.cells
          dsimp only at c0 c1 c2 c3 c4 c5
          have hbA : Below w3.heap.size w3 (w3.alloc (.cells #[] 173)) := by go_grown
          have HRW := Lib.hid (HRU.out.below (HF3.out.b.trans (hbA.mono HF3.out.b.size)))
          have HEM := Lib.hid (World.ownsRow_made w3 (e := 173) (size := 2) #[] 0 (Nat.le_refl _) (by simp) (by simp))
          have HFA := Lib.hid (HF3.out.below hbA)
          have HPOA := Lib.hid (HPO3.out.below hbA)
          clear hbA
          go_wp2_with (at_builtin; go_loud (refine wpList_append_fresh rfl (.tmp 35) (.tmp 37) 97 rfl 173 i0 (.agg #[.int .u64 0, .slice none 0 0]) 2 32 Tryz.underlying97 hi0 hz0 hz1 hz2 rfl (by decide) w3.heap.size w3.heap.size rfl HEM.out la ln lc (rs.flatMap urowL) rfl (SrcAt.row HRW.out.row urowL_one) (by unfold maxLen; omega) (by omega) (by simp) ?_))
          intro va vc w4 hown4 hb4'
          have hb4 : Below (w3.alloc (.cells #[] 173)).heap.size (w3.alloc (.cells #[] 173)) w4 := by rw [World.size_alloc]; exact hb4'
          clear hb4'
          have HF4 := Lib.hid (HFA.out.below hb4)
          have HRW4 := Lib.hid (HRW.out.below hb4)
          have HPO4 := Lib.hid (HPOA.out.below hb4)
          have HOW4 := Lib.hid (hown4.alloc (.cells #[.int .u64 e, .slice oa qs.length oc] 173))
          have hz4 := hb4.size
          rw [World.size_alloc] at hz4
          clear hown4 hb4 c0 c1 c2 c3 c4 c5 HEM HRW HFA HPOA
          have hbB : Below w4.heap.size w4 (w4.alloc (.cells #[.int .u64 e, .slice oa qs.length oc] 173)) := by go_grown
          have HFB := Lib.hid (HF4.out.below hbB)
          have HRWB := Lib.hid (HRW4.out.below hbB)
          have HPOB := Lib.hid (HPO4.out.below hbB)
          have HSR := Lib.hid (src_one (w := w4.alloc (.cells #[.int .u64 e, .slice oa qs.length oc] 173)) (s := 2) (heap_alloc_new w4 (.cells #[.int .u64 e, .slice oa qs.length oc] 173)) rfl rfl)
          clear hbB
          go_wp2_with (at_builtin; go_loud (refine wpList_append_src rfl (.tmp 38) (.tmp 42) 97 rfl w3.heap.size 173 i0 (.agg #[.int .u64 0, .slice none 0 0]) 2 32 Tryz.underlying97 hi0 hz0 hz1 hz2 rfl (by decide) (.slice va ln vc) ln (rs.flatMap urowL) rfl HOW4.out (some ⟨w4.heap.size, 0, none⟩) 1 1 _ rfl HSR.out (by unfold maxLen; omega) (by omega) (by simp; omega) ?_))
          intro v' w5 hown5 hg5
          obtain ⟨vb', vd', hv'⟩ := ownsRow_slice hown5
          rw [hv'] at hown5 ⊢
          clear hv'
          have hF5 := HFB.out.kept HOW4.out hg5 (by decide) HF3.out.b.size
          have hR5 := RU.snoc (r := ⟨e, oa, qs.length, oc, qs⟩) HOW4.out HRWB.out.parts HRWB.out.len hg5 hown5 (HPOB.out.mono (Nat.zero_le _))
          have HF6 := Lib.hid (hF5.set5 vb' (ln + 1) vd')
          have HB5 := Lib.hid hF5.u
          have HFR := Lib.hid (free_at hF5.u 5)
          have d5 := cell_at hF5.u 5
          simp [UD.cs] at d5
          have HR5 := Lib.hid hR5
          have f5 := HFR.out
          have hl5 := lt_some hF5.u
          clear hown5 hg5 hF5 hR5 HOW4 HRWB HPOB HFB HSR HFR
          go_upto_region 12 with (fail)
          have HR6 := Lib.hid (HR5.out.out (F := fun b => b = w.heap.size) (Out.only (Only.at w5 w.heap.size 5 (.slice vb' (ln + 1) vd')) rfl) (fun b hb => by subst hb; exact mutU_box HB5.out))
          dsimp only at HF6
          generalize World.setCell _ _ _ = W6 at *
          clear f5 hl5 d5 HB5 HR5
          obtain ⟨c0, c1, c2, c3, c4, c5, hul⟩ := HF6.out.cells
          dsimp only at c0 c1 c2 c3 c4 c5
          obtain ⟨f0, y0, x0⟩ := HF6.out.zfree 0 (by decide)
          obtain ⟨f1, y1, x1⟩ := HF6.out.zfree 1 (by decide)
          obtain ⟨f2, y2, x2⟩ := HF6.out.zfree 2 (by decide)
          obtain ⟨f3, y3, x3⟩ := HF6.out.zfree 3 (by decide)
          obtain ⟨f4, y4, x4⟩ := HF6.out.zfree 4 (by decide)
          obtain ⟨f5, y5, x5⟩ := HF6.out.zfree 5 (by decide)
          go_wp2_with fail
          obtain ⟨cs0, hc6, hz⟩ := HF6.out.z
          have hs := setU_cells ⟨ver, ca, cl, cc, ia, il, ic, most, kept, vb', ln + 1, vd'⟩ hz hc6
          have hbs := setU_below (u := ⟨ver, ca, cl, cc, ia, il, ic, most, kept, vb', ln + 1, vd'⟩) HF6.out.b (Nat.le_succ _)
          have hr7 := HR6.out.out (setU_out W6 (w.heap.size + 1) ⟨ver, ca, cl, cc, ia, il, ic, most, kept, vb', ln + 1, vd'⟩) (fun b hb => by subst hb; exact mutU_box hz)
          unfold setU at *
          dsimp only [UD.cs] at hs hbs
          generalize World.setCell _ _ _ = W2 at *
          have a0 := cell_at hs 0
          have a1 := cell_at hs 1
          have a2 := cell_at hs 2
          have a3 := cell_at hs 3
          have a4 := cell_at hs 4
          have a5 := cell_at hs 5
          simp at a0 a1 a2 a3 a4 a5
          refine bodyPost_ret (v := .tuple #[.agg #[.int .i64 ver, .slice ca cl cc, .slice ia il ic, .int .i64 most, .int .i64 kept, .slice vb' (ln + 1) vd'], .int .i64 0]) (by simp [results, Tryz.results48, go_sem, a0, a1, a2, a3, a4, a5]) rfl ?_
          exact ⟨hbs, .inr ⟨HE5.out, vb', vd', oa, oc, qs, rfl, HSO.out.1, hr7⟩⟩
      · have HE4 : Hid (E = q) := Lib.hid (by rw [HE3.out, if_pos hq0])
        have HQ := Lib.hid hq0
        have e2 : (q != 0) = true := by rw [bne_iff_ne]; exact hq0
        clear hq0
        go_upto_region 8 with (fail)
        obtain ⟨c0, c1, c2, c3, c4, c5, hul⟩ := HF2.out.cells
        dsimp only at c0 c1 c2 c3 c4 c5
        obtain ⟨f0, y0, x0⟩ := HF2.out.zfree 0 (by decide)
        obtain ⟨f1, y1, x1⟩ := HF2.out.zfree 1 (by decide)
        obtain ⟨f2, y2, x2⟩ := HF2.out.zfree 2 (by decide)
        obtain ⟨f3, y3, x3⟩ := HF2.out.zfree 3 (by decide)
        obtain ⟨f4, y4, x4⟩ := HF2.out.zfree 4 (by decide)
        obtain ⟨f5, y5, x5⟩ := HF2.out.zfree 5 (by decide)
        go_wp2_with fail
        obtain ⟨cs0, hc6, hz⟩ := HF2.out.z
        have hs := setU_cells ⟨ver, ca, cl, cc, ia, il, ic, most, kept, la, ln, lc⟩ hz hc6
        have hbs := setU_below (u := ⟨ver, ca, cl, cc, ia, il, ic, most, kept, la, ln, lc⟩) HF2.out.b (Nat.le_succ _)
        unfold setU at *
        dsimp only [UD.cs] at hs hbs
        generalize World.setCell _ _ _ = W2 at hs hbs ⊢
        have a0 := cell_at hs 0
        have a1 := cell_at hs 1
        have a2 := cell_at hs 2
        have a3 := cell_at hs 3
        have a4 := cell_at hs 4
        have a5 := cell_at hs 5
        simp at a0 a1 a2 a3 a4 a5
        refine bodyPost_ret (v := .tuple #[.agg #[.int .i64 ver, .slice ca cl cc, .slice ia il ic, .int .i64 most, .int .i64 kept, .slice la ln lc], .int .i64 q]) (by simp [results, Tryz.results48, go_sem, a0, a1, a2, a3, a4, a5]) rfl ?_
        exact ⟨hbs, .inl ⟨by rw [HE4.out]; exact HQ.out, by rw [HE4.out]⟩⟩
end Go.Proofs.YtoadihebdaooaaaGreat
