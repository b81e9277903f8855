/- A table's entities copied; a component's column found; its bytes. · A new table; table.Bytes; Get where there is nothing. · As B4, but for tables with rows: the graph knows only that the tables' blocks hold their sets. · Contracts of (*Graph).Sigs, check. -/
import Derived.Test.YtgebbmfoamkfnaaGreatDoorT16
import Derived.DeepKeys4
import Derived.Deep.QuietTactic
import Derived.BigQuiet
import Derived.WalkSmall
import Derived.Deep.DeepCutAuto
namespace Go.Proofs.YtgebbmfoamkfnaaGreatDoor
open Go.RowKit
set_option linter.unusedVariables false
section
variable {B : Nat} {w : World} {t : TD}
def cIdx (id : Int) : Nat → List CV → Int
 | _, [] => -1
 | k, x :: r => if x.c.id = id then (k : Int) else cIdx id (k + 1) r
theorem cIdx_skip {id : Int} {k : Nat} {x : CV} {r : List CV} (h : ¬ x.c.id = id) : cIdx id k (x :: r) = cIdx id (k + 1) r := by
 conv => lhs; unfold cIdx
 rw [if_neg h]
def colOf (l : List CV) (id : Int) : Option CV := l.find? fun x => decide (x.c.id = id)
theorem cIdx_none {id : Int} : ∀ (l : List CV) (k : Nat), colOf l id = none → cIdx id k l = -1
 | [], _, _ => rfl
 | x :: r, k, h => by
  unfold colOf at h
  rw [List.find?_cons] at h
  split at h
  ·cases h
  ·rename_i hc
   rw [cIdx_skip (by simpa using hc)]
   exact cIdx_none r (k + 1) h
theorem cIdx_some {id : Int} {x : CV} : ∀ (l : List CV) (k : Nat), colOf l id = some x → ∃ j, cIdx id k l = ((k + j : Nat) : Int) ∧ l[j]? = some x
 | [], _, h => by simp [colOf] at h
 | c :: r, k, h => by
  unfold colOf at h
  rw [List.find?_cons] at h
  split at h
  ·rename_i hc
   cases h
   exact ⟨0, by unfold cIdx; rw [if_pos (by simpa using hc)]; rfl, rfl⟩
  ·rename_i hc
   obtain ⟨j, h1, h2⟩ := cIdx_some r (k + 1) h
   exact ⟨j + 1, by unfold cIdx; rw [if_neg (by simpa using hc), h1]; congr 1; omega, by simpa using h2⟩
theorem findClo_any (i id : Int) (s : ByteArray) (a : Option Addr) (n c b : Nat) (p : Option Addr) (w : World) (hp : w.cell? ⟨b, 0, none⟩ = some (.int .i64 id)) :
  Calls Tryz.prog 193 #[.agg #[.int .i64 i, .string s, .slice a n c, .pointer p], .pointer (some ⟨b, 0, none⟩)] w fun e w' => e = .returned (.bool (i == id)) ∧ Below w.heap.size w w' := by
 have hpb : b < w.heap.size := World.block_lt_of_cell? w _ hp
 go_enter Tryz.func193, Tryz.ntmps193
 go_wp2
 go_ret
 exact ⟨rfl, by go_grown⟩
set_option maxRecDepth 100000 in
set_option maxHeartbeats 1000000 in
theorem ixCols_any (id : Int) (B : Nat) (cps : List CV) (a : Option Addr) (n cap b : Nat) (w : World) (hcs : w.ownsRow B 181 4 (.slice a n cap) n (cps.flatMap colL)) (hn : cps.length = n) (h24 : n ≤ 24) (hp : w.cell? ⟨b, 0, none⟩ = some (.int .i64 id)) :
  Calls Tryz.prog 192 #[.slice a n cap, .func (.func 193) #[] #[.pointer (some ⟨b, 0, none⟩)]] w fun e w' => e = .returned (.int .i64 (cIdx id 0 cps)) ∧ Below w.heap.size w w' := by
 have hpb : b < w.heap.size := World.block_lt_of_cell? w _ hp
 have HN := Lib.hid hn
 have HCS := Lib.hid hcs
 clear hn hcs
 go_enter Tryz.func192, Tryz.ntmps192
 go_wp2_with fail
 go_loopw [8] (fun i wr => ∃ (k : Nat), k ≤ n ∧ i = .int .i64 k ∧ cIdx id 0 cps = cIdx id k (cps.drop k) ∧ Below w.heap.size w wr) (fun i _ => n - (intOf i).toNat)
 case atStart => exact ⟨0, Nat.zero_le _, rfl, rfl, Below.refl _ _⟩
 case round =>
  obtain ⟨k, hk, rfl, hgo, hbw⟩ := hrel
  have HG := Lib.hid hgo
  clear hgo
  have hzr := hbw.size
  by_cases hlt : k < n
  ·obtain ⟨x, hx⟩ : ∃ x, cps[k]? = some x := ⟨_, List.getElem?_eq_getElem (by have := HN.out; omega)⟩
   obtain ⟨q, hq, _, hql, hqc⟩ := row_block (ownsRow_below HCS.out hbw) (by omega)
   obtain ⟨g0, g1, g2, g3⟩ := colL_at cps hx
   have z0 := hqc _ _ g0
   have z1 := hqc _ _ g1
   have z2 := hqc _ _ g2
   have z3 := hqc _ _ g3
   rw [hq]
   have hstep := Lib.hid (HG.out.trans (by rw [drop_get hx]))
   have i1 : (0 : Int) ≤ (k : Int) := by omega
   have i2 : (k : Int) < (n : Int) := by omega
   have hpw := (hbw.cell (p := ⟨b, 0, none⟩) hpb).trans hp
   clear hqc g0 g1 g2 g3 hq hx
   go_wp2_with fail
   refine (findClo_any _ id _ _ _ _ b _ _ hpw).mono ?_
   rintro e w1 ⟨rfl, hb1⟩
   clear z0 z1 z2 z3
   by_cases h : x.c.id = id
   ·have H1 : Hid (cIdx id 0 cps = k) := Lib.hid (by rw [hstep.out]; unfold cIdx; rw [if_pos h])
    have e1 : (x.c.id == id) = true := by simp [h]
    clear h
    go_wp2
    go_ret
    exact ⟨ret_intk H1.out.symm, hbw.trans (hb1.mono hzr)⟩
   ·have H1 := Lib.hid (hstep.out.trans (cIdx_skip h))
    have e1 : (x.c.id == id) = false := by simp [h]
    clear h
    go_wp2
    go_roundw
    case rel => exact ⟨k + 1, by omega, by go_num, H1.out, hbw.trans (hb1.mono hzr)⟩
    case measure => simp [intOf]; omega
  ·obtain rfl : k = n := by omega
   have H1 : Hid (cIdx id 0 cps = -1) := Lib.hid (by rw [HG.out, List.drop_eq_nil_of_le (by have := HN.out; omega)]; rfl)
   go_wp2
   go_ret
   exact ⟨ret_intk H1.out.symm, hbw⟩
def findErr (t : TD) (row comp : Int) : Int := if 0 ≤ row ∧ row < t.ents.length then (if (colOf t.cps comp).isSome then 0 else 6) else 3
def findVal (t : TD) (row comp : Int) : Value := if 0 ≤ row ∧ row < t.ents.length then (match colOf t.cps comp with
 | some x => .agg #[.int .i64 x.c.id, .string x.c.name, .slice x.fa x.fl x.fc, .pointer (some ⟨x.cb, 0, none⟩)]
 | none => .agg #[.int .i64 0, .string ByteArray.empty, .slice none 0 0, .pointer none]) else .agg #[.int .i64 0, .string ByteArray.empty, .slice none 0 0, .pointer none]
set_option maxRecDepth 100000 in
set_option maxHeartbeats 1000000 in
theorem tabFind_in (h : TabIn B w t) (row comp : Int) : Calls Tryz.prog 162 #[.pointer (some ⟨t.tb, 0, none⟩), .int .i64 row, .int .i64 comp] w fun e w' => e = .returned (.tuple #[findVal t row comp, .int .i64 (findErr t row comp)]) ∧ Below w.heap.size w w' := by
 have hbox := keepA (.cells #[.int .i64 0, .string ByteArray.empty, .slice none 0 0, .pointer none] 181) (heap_alloc_new w (.cells #[.int .i64 comp] 3))
 have hres := heap_alloc_new (w.alloc (.cells #[.int .i64 comp] 3)) (.cells #[.int .i64 0, .string ByteArray.empty, .slice none 0 0, .pointer none] 181)
 rw [World.size_alloc] at hres
 have hb0 : Below w.heap.size w ((w.alloc (.cells #[.int .i64 comp] 3)).alloc (.cells #[.int .i64 0, .string ByteArray.empty, .slice none 0 0, .pointer none] 181)) := by go_grown
 have h1 := h.below hb0
 have HAT := Lib.hid (tabAt_in h1 row)
 have HX := Lib.hid (And.intro hbox (And.intro hres hb0))
 have H1 := Lib.hid h1
 clear hbox hres hb0 h1 h
 go_enter Tryz.func162, Tryz.ntmps162
 go_wp2_with fail
 refine HAT.out.mono ?_
 rintro e w1 ⟨rfl, rfl⟩
 generalize (w.alloc (.cells #[.int .i64 comp] 3)).alloc (.cells #[.int .i64 0, .string ByteArray.empty, .slice none 0 0, .pointer none] 181) = W at *
 have f0 := free_at HX.out.2.1 0
 have f1 := free_at HX.out.2.1 1
 have f2 := free_at HX.out.2.1 2
 have f3 := free_at HX.out.2.1 3
 have r0 := cell_at HX.out.2.1 0
 have r1 := cell_at HX.out.2.1 1
 have r2 := cell_at HX.out.2.1 2
 have r3 := cell_at HX.out.2.1 3
 simp at r0 r1 r2 r3
 by_cases hrow : 0 ≤ row ∧ row < t.ents.length
 ·rw [if_pos hrow]
  have hc6 := H1.out.cells
  obtain ⟨_, _, _, _, _, _, c6, _⟩ := hc6
  have hbx : W.cell? ⟨w.heap.size, 0, none⟩ = some (.int .i64 comp) := by rw [cell_at HX.out.1]; rfl
  have HROW := Lib.hid hrow
  clear hrow
  go_wp2_with fail
  refine (ixCols_any comp B t.cps _ _ _ w.heap.size W H1.out.colsR rfl H1.out.n24 hbx).mono ?_
  rintro e w1 ⟨rfl, hb1⟩
  have hr1 := keep hb1 HX.out.2.1
  have hbel := HX.out.2.2.trans (hb1.mono HX.out.2.2.size)
  have h1 := H1.out.below hb1
  clear r0 r1 r2 r3 f0 f1 f2 f3 c6 hbx
  have f0 := free_at hr1 0
  have f1 := free_at hr1 1
  have f2 := free_at hr1 2
  have f3 := free_at hr1 3
  have r0 := cell_at hr1 0
  have r1 := cell_at hr1 1
  have r2 := cell_at hr1 2
  have r3 := cell_at hr1 3
  simp at r0 r1 r2 r3
  cases hcol : colOf t.cps comp with
  | none =>
   have HV := Lib.hid (show findVal t row comp = .agg #[.int .i64 0, .string ByteArray.empty, .slice none 0 0, .pointer none] by unfold findVal; rw [if_pos HROW.out, hcol])
   have HE := Lib.hid (show findErr t row comp = 6 by unfold findErr; rw [if_pos HROW.out, hcol]; rfl)
   rw [cIdx_none t.cps 0 hcol]
   clear hcol h1
   go_wp2_with fail
   refine bodyPost_ret (v := .tuple #[.agg #[.int .i64 0, .string ByteArray.empty, .slice none 0 0, .pointer none], .int .i64 6]) (by simp [results, Tryz.results162, go_sem, r0, r1, r2, r3]; rfl) rfl ?_
   exact ⟨by rw [HV.out, HE.out], (((hbel.setCell (by simp) _).setCell (by simp) _).setCell (by simp) _).setCell (by simp) _⟩
  | some x =>
   have HV := Lib.hid (show findVal t row comp = .agg #[.int .i64 x.c.id, .string x.c.name, .slice x.fa x.fl x.fc, .pointer (some ⟨x.cb, 0, none⟩)] by unfold findVal; rw [if_pos HROW.out, hcol])
   have HE := Lib.hid (show findErr t row comp = 0 by unfold findErr; rw [if_pos HROW.out, hcol]; rfl)
   obtain ⟨j, hj, hx⟩ := cIdx_some t.cps 0 hcol
   rw [hj, Nat.zero_add]
   have hjl : j < t.cps.length := (List.getElem?_eq_some_iff.1 hx).1
   obtain ⟨_, _, _, _, _, _, c6, _⟩ := h1.cells
   obtain ⟨q, hq, _, hql, hqc⟩ := row_block h1.colsR (by omega)
   obtain ⟨g0, g1, g2, g3⟩ := colL_at t.cps hx
   have z0 := hqc _ _ g0
   have z1 := hqc _ _ g1
   have z2 := hqc _ _ g2
   have z3 := hqc _ _ g3
   have hn24 := h1.n24
   obtain ⟨n, hn⟩ : ∃ n, t.cps.length = n := ⟨_, rfl⟩
   rw [hn] at c6 hjl hn24
   rw [hq] at c6
   have i1 : (0 : Int) ≤ (j : Int) := by omega
   have i2 : (j : Int) < (n : Int) := by omega
   clear hcol h1 hj hx hqc g0 g1 g2 g3 hq hn
   go_wp2_with fail
   refine bodyPost_ret (v := .tuple #[.agg #[.int .i64 x.c.id, .string x.c.name, .slice x.fa x.fl x.fc, .pointer (some ⟨x.cb, 0, none⟩)], .int .i64 0]) (by simp [results, Tryz.results162, go_sem, r0, r1, r2, r3]) rfl ?_
   exact ⟨by rw [HV.out, HE.out], (((hbel.setCell (by simp) _).setCell (by simp) _).setCell (by simp) _).setCell (by simp) _⟩
 ·have HV := Lib.hid (show findVal t row comp = .agg #[.int .i64 0, .string ByteArray.empty, .slice none 0 0, .pointer none] by unfold findVal; rw [if_neg hrow])
  have HE := Lib.hid (show findErr t row comp = 3 by unfold findErr; rw [if_neg hrow])
  rw [if_neg hrow]
  clear hrow
  go_wp2_with fail
  refine bodyPost_ret (v := .tuple #[.agg #[.int .i64 0, .string ByteArray.empty, .slice none 0 0, .pointer none], .int .i64 3]) (by simp [results, Tryz.results162, go_sem, r0, r1, r2, r3]; rfl) rfl ?_
  exact ⟨by rw [HV.out, HE.out], (((HX.out.2.2.setCell (by simp) _).setCell (by simp) _).setCell (by simp) _).setCell (by simp) _⟩
end
end Go.Proofs.YtgebbmfoamkfnaaGreatDoor
namespace Go.Proofs.YtgebbmfoamkfnaaGreatDoor
open Go.RowKit
set_option linter.unusedVariables false
theorem findC_id {i : Int} {c : Cmp} {cs : List Cmp} (h : findC i cs = some c) : c.id = i := by
 unfold findC at h
 have := List.find?_some h
 simpa using this
def newCD (most : Nat) (x : CV) : CD := ⟨(planSize x.c.fields).toNat, most, [], x.cb, none, 0, [], fun _ => 0⟩
theorem TabIn.of_new {w : World} {tb : Nat} {ver : Int} {cs : List Cmp} {set : Int} {most : Nat} (h : TableNew w tb ver cs set (most : Int)) (hok : tableOk ver cs set (most : Int) = true) (h0 : 0 ≤ set) (h1 : set ≤ 4294967295) :
  ∃ t : TD, TabIn tb w t ∧ t.tb = tb ∧ t.ver = ver ∧ t.set = set ∧ t.most = most ∧ t.kept = 0 ∧ t.ents = [] ∧ (idsTo set 24).map (findC · cs) = t.cs.map some := by
 obtain ⟨ca, cc, la, lc, cps, hh, he⟩ := h
 unfold tableOk at hok
 simp only [Bool.and_eq_true, decide_eq_true_eq, beq_iff_eq] at hok
 obtain ⟨⟨⟨⟨hsc, _⟩, hm1⟩, hm2⟩, _⟩ := hok
 have hlen : cps.length = (idsTo set 24).length := by have := congrArg List.length he; simpa using this.symm
 have h24 : cps.length ≤ 24 := by have := idsTo_len set 24; omega
 have hfind : ∀ x ∈ cps, ∃ i ∈ idsTo set 24, findC i cs = some x.c := by
  intro x hx
  have : some x.c ∈ (idsTo set 24).map (findC · cs) := by rw [he]; exact List.mem_map_of_mem (f := fun x : CV => some x.c) hx
  obtain ⟨i, hi, hic⟩ := List.mem_map.1 this
  exact ⟨i, hi, hic⟩
 have hlay : ∀ x ∈ cps, layCheck x.c.fields = 0 := by
  intro x hx
  obtain ⟨i, _, hi⟩ := hfind x hx
  exact schema_lay hsc _ (findC_mem hi)
 have hids : cps.map (·.c.id) = idsTo set 24 := by
  apply List.ext_getElem?
  intro k
  have hk := congrArg (fun l => l[k]?) he
  simp only [List.getElem?_map] at hk ⊢
  cases h1 : (idsTo set 24)[k]? with
  | none => rw [h1] at hk; cases h2 : cps[k]? with
   | none => rfl
   | some x => rw [h2] at hk; cases hk
  | some i =>
   rw [h1] at hk
   cases h2 : cps[k]? with
   | none => rw [h2] at hk; cases hk
   | some x =>
    rw [h2] at hk
    simp only [Option.map_some, Option.some.injEq] at hk ⊢
    exact findC_id hk
 have hcol : ∀ x ∈ cps, ColAt tb w (newCD most x) := by
  intro x hx
  obtain ⟨hf, hce⟩ := hh.good x hx
  have hl := hlay x hx
  obtain ⟨l8, la', l256⟩ := layCheck_zero hl
  obtain ⟨b0, _⟩ := planSize_bd l8 la'
  refine ⟨⟨?_, World.ownsRow_nil _ _ _ _, by have := hce.le; show tb ≤ x.cb; omega, by simp [newCD], by simp [newCD], by show (planSize x.c.fields).toNat ≤ 256; omega, by simp [newCD], by show most ≤ 65536; omega, by simp [newCD], by simp [newCD]⟩, by simp [newCD], by simp [newCD], by simp [newCD], by simp [newCD]⟩
  have := hce.blk
  show w.heap[x.cb]? = _
  rw [this]
  simp only [newCD, List.length_nil]
  rw [Int.toNat_of_nonneg b0]
  rfl
 have hfoot : ∀ (x : CV) (b : Nat), (newCD most x).foot b → b = x.cb := by
  intro x b hb
  rcases hb with hb | hb | hb
  ·exact hb
  ·cases hb
  ·cases hb
 refine ⟨⟨tb, ver, set, most, 0, [], none, 0, ca, cc, la, lc, cps, cps.map (newCD most)⟩, ⟨hh.blk, ownsRow_mono hh.comps (by omega), ownsRow_mono hh.cols (by omega), fun x hx => ?_, World.ownsRow_nil _ _ _ _, Nat.le_refl _, by simp, fun i x d hx hd => ?_, fun d hd => ?_, fun i j d e hij hd he' b hb hb' => ?_, hlay, h24, by show 1 ≤ most; omega, by show most ≤ 256; omega, by simp, h0, h1, hids⟩, rfl, rfl, rfl, rfl, rfl, rfl, by simp only [TD.cs]; rw [he]; simp⟩
 ·have hf := (hh.good x hx).1
  exact ⟨ownsRow_mono hf.row (by omega), hf.len, hf.max, hf.nil⟩
 ·simp only [List.getElem?_map, Option.map_eq_some_iff] at hd
  obtain ⟨y, hy, rfl⟩ := hd
  have : y = x := by have h2 : cps[i]? = some x := hx; rw [h2] at hy; cases hy; rfl
  subst this
  exact ⟨rfl, rfl, rfl, rfl⟩
 ·obtain ⟨x, hx, rfl⟩ := List.mem_map.1 hd
  exact hcol x hx
 ·simp only [List.getElem?_map, Option.map_eq_some_iff] at hd he'
  obtain ⟨x, hx, rfl⟩ := hd
  obtain ⟨y, hy, rfl⟩ := he'
  have h3 := hfoot x b hb
  have h4 := hfoot y b hb'
  have hnd := hh.nodup
  have e1 : (cps.map (·.cb))[i]? = some b := by rw [List.getElem?_map, hx, h3]; rfl
  have e2 : (cps.map (·.cb))[j]? = some b := by rw [List.getElem?_map, hy, h4]; rfl
  exact hij (nodup_at hnd e1 e2)
end Go.Proofs.YtgebbmfoamkfnaaGreatDoor
namespace Go.Proofs.YtgebbmfoamkfnaaGreatDoor
open Go.RowKit
open Go.Maps (Keyed int_keyed keyOf_int_mk)
set_option linter.unusedVariables false
theorem own : ownKnob Tryz.prog.godebug = none := by kernel_rfl
theorem laidOut : laidOutB Tryz.prog = true := by kernel_rfl
theorem Tryz.law28 : Keyed Tryz.prog 28 := int_keyed Tryz.underlying28
theorem Tryz.zero3 (w : World) : (zeroValue 3).run Tryz.prog w = .ok (.int .i64 0) w := by kernel_rfl
def I64 (n : Int) : Prop := -9223372036854775808 ≤ n ∧ n ≤ 9223372036854775807
theorem wf_i64 {n : Int} (h : I64 n) : (Lit.int .i64 n).wf = true := WalkArith.wf_i64 h
set_option maxRecDepth 100000 in
theorem wf_u32 {n : Int} (h0 : 0 ≤ n) (h1 : n ≤ 4294967295) : (Lit.int .u32 n).wf = true := by
 simp [Lit.wf, IntKind.min, IntKind.max, IntKind.signed, IntKind.bits]; omega
theorem Tryz.tsz : ∃ m, Tryz.prog.types.size + 1 = m + 2 := ⟨_, rfl⟩
def wayK (x : Int × Int × Bool) : Lit := .string (keyBytes [.int .i64 x.1, .int .i64 x.2.1, .bool x.2.2])
def WayWf (x : Int × Int × Bool) : Prop := I64 x.1 ∧ I64 x.2.1
def posOf (s : Int) : List Int → Option Nat
 | [] => none
 | x :: r => if x = s then some 0 else (posOf s r).map (· + 1)
theorem posOf_get {s : Int} : ∀ {l : List Int} {i : Nat}, posOf s l = some i → l[i]? = some s
 | [], _, h => by cases h
 | x :: r, i, h => by
  unfold posOf at h
  split at h
  ·rename_i hx
   cases h; simp [hx]
  ·cases hp : posOf s r with
   | none => rw [hp] at h; cases h
   | some j =>
    rw [hp] at h; cases h
    simpa using posOf_get hp
theorem posOf_snoc (s x : Int) : ∀ l : List Int, posOf x (l ++ [s]) = match posOf x l with | some i => some i | none => if s = x then some l.length else none
 | [] => by simp [posOf]
 | y :: r => by
  simp only [List.cons_append, posOf]
  split
  ·rfl
  ·rw [posOf_snoc s x r]
   cases posOf x r with
   | some i => rfl
   | none =>
    simp only [Option.map_none]
    split <;> simp
structure GS where
 ver : Int
 archs : Int
 rows : Int
 cs : List Cmp
 ts : List (Nat × Int)
 ways : Int × Int × Bool → Option Nat
 nw : Nat
def GS.sigs (g : GS) : List Int := g.ts.map (·.2)
def litN (o : Option Nat) : Option Lit := o.map fun i => .int .i64 i
def SigAt (w : World) (tb : Nat) (set : Int) : Prop := ∃ cs : Array Value, w.heap[tb]? = some (.cells cs 178 (0, 0)) ∧ cs[2]? = some (.int .u32 set)
structure GraphAt (B1 gb : Nat) (g : GS) (w : World) (mb wb : Nat) (ca : Option Addr) (cl cc : Nat) (ta : Option Addr) (tc : Nat) (bs ws : Lit → Option Lit) : Prop where
 bg : B1 ≤ gb
 bm : B1 ≤ mb
 bw : B1 ≤ wb
 ne : mb ≠ wb
 blk : w.heap[gb]? = some (.cells #[.int .i64 g.ver, .slice ca cl cc, .int .i64 g.archs, .int .i64 g.rows, .slice ta g.ts.length tc, .map (some mb), .map (some wb)] 167 (0, 0))
 comps : CompsAt w.heap.size w ca cl g.cs
 cty : CompsTy w ca cl g.cs
 row : w.ownsRow B1 118 1 (.slice ta g.ts.length tc) g.ts.length (g.ts.map fun t => .pointer (some ⟨t.1, 0, none⟩))
 bySet : MapIs Tryz.prog w 28 3 mb g.ts.length bs
 byWay : MapIs Tryz.prog w 340 3 wb g.nw ws
 tab : ∀ t ∈ g.ts, SigAt w t.1 t.2 ∧ 0 ≤ t.2 ∧ t.2 ≤ 4294967295
 hbs : ∀ s : Int, bs (.int .u32 s) = litN (posOf s g.sigs)
 hws : ∀ x, WayWf x → ws (wayK x) = litN (g.ways x)
 wf : CompsWf g.cs ∧ (∀ c ∈ g.cs, c.fields.length ≤ 100000) ∧ 1 ≤ g.archs ∧ g.archs ≤ 64 ∧ (g.ts.length : Int) ≤ g.archs ∧ B1 ≤ w.heap.size ∧ g.nw ≤ 1000000
 wok : ∀ x n, g.ways x = some n → n < g.ts.length
 tlo : ∀ t ∈ g.ts, B1 ≤ t.1
 cn : (ca = none → cl = 0 ∧ cc = 0) ∧ cl ≤ 100000
def Graph (B1 gb : Nat) (g : GS) (mb wb : Nat) (ta : Option Addr) (tc : Nat) (w : World) : Prop := ∃ ca cl cc bs ws, GraphAt B1 gb g w mb wb ca cl cc ta tc bs ws
theorem ownsRow_hk {w w' : World} (hk : ∀ (b : Nat) (c : Array Value) (e : TypeId) (fz : Nat × Nat), w.heap[b]? = some (.cells c e fz) → e ≠ 167 → e ≠ 118 → w'.heap[b]? = some (.cells c e fz)) {b : Nat} {e : TypeId} {s : Nat} {v : Value} {n : Nat} {xs : List Value} (ho : w.ownsRow b e s v n xs) (h1 : e ≠ 167) (h2 : e ≠ 118) : w'.ownsRow b e s v n xs := by
 obtain ⟨hl, ho⟩ := ho
 refine ⟨hl, ?_⟩
 rcases ho with ho | ⟨g, cap, cur, hv, hg, hh, r⟩
 ·exact .inl ho
 ·exact .inr ⟨g, cap, cur, hv, hg, hk _ _ _ _ hh h1 h2, r⟩
theorem TableHas.kept {w w' : World} {b0 tb : Nat} {ver set most : Int} {ca : Option Addr} {cc : Nat} {la : Option Addr} {lc : Nat} {cps : List CV} (h : TableHas w b0 tb ver set most ca cc la lc cps) (hk : ∀ (b : Nat) (c : Array Value) (e : TypeId) (fz : Nat × Nat), w.heap[b]? = some (.cells c e fz) → e ≠ 167 → e ≠ 118 → w'.heap[b]? = some (.cells c e fz)) : TableHas w' b0 tb ver set most ca cc la lc cps :=
 ⟨hk _ _ _ _ h.blk (by decide) (by decide), ownsRow_hk hk h.comps (by decide) (by decide), ownsRow_hk hk h.cols (by decide) (by decide),
  fun x hx => ⟨⟨ownsRow_hk hk (h.good x hx).1.row (by decide) (by decide), (h.good x hx).1.len, (h.good x hx).1.max, (h.good x hx).1.nil⟩, ⟨(h.good x hx).2.le, hk _ _ _ _ (h.good x hx).2.blk (by decide) (by decide)⟩⟩, h.nodup⟩
theorem TableNew.kept {w w' : World} {tb : Nat} {ver : Int} {cs : List Cmp} {set most : Int} (h : TableNew w tb ver cs set most) (hk : ∀ (b : Nat) (c : Array Value) (e : TypeId) (fz : Nat × Nat), w.heap[b]? = some (.cells c e fz) → e ≠ 167 → e ≠ 118 → w'.heap[b]? = some (.cells c e fz)) : TableNew w' tb ver cs set most := by
 obtain ⟨ca, cc, la, lc, cps, h, hn⟩ := h
 exact ⟨ca, cc, la, lc, cps, h.kept hk, hn⟩
theorem TableNew.drewN {w : World} {tb : Nat} {ver : Int} {cs : List Cmp} {set most : Int} (h : TableNew w tb ver cs set most) (n : Nat) : TableNew (w.drewN n) tb ver cs set most := h.kept (fun _ _ _ _ hh _ _ => hh)
theorem TableNew.sigAt {w : World} {tb : Nat} {ver : Int} {cs : List Cmp} {set most : Int} (h : TableNew w tb ver cs set most) : SigAt w tb set := by
 obtain ⟨ca, cc, la, lc, cps, h, hn⟩ := h
 exact ⟨_, h.blk, rfl⟩
theorem SigAt.kept {w w' : World} {tb : Nat} {set : Int} (h : SigAt w tb set) (hk : ∀ (b : Nat) (c : Array Value) (e : TypeId) (fz : Nat × Nat), w.heap[b]? = some (.cells c e fz) → e ≠ 167 → e ≠ 118 → w'.heap[b]? = some (.cells c e fz)) : SigAt w' tb set := by
 obtain ⟨cs, h, h2⟩ := h
 exact ⟨cs, hk _ _ _ _ h (by decide) (by decide), h2⟩
theorem SigAt.drewN {w : World} {tb : Nat} {set : Int} (h : SigAt w tb set) (n : Nat) : SigAt (w.drewN n) tb set := h
theorem GraphAt.below {B1 gb : Nat} {g : GS} {w w' : World} {mb wb : Nat} {ca : Option Addr} {cl cc : Nat} {ta : Option Addr} {tc : Nat} {bs ws : Lit → Option Lit} (h : GraphAt B1 gb g w mb wb ca cl cc ta tc bs ws) (hb : Below w.heap.size w w') : GraphAt B1 gb g w' mb wb ca cl cc ta tc bs ws :=
 { h with
  blk := keep hb h.blk
  comps := (h.comps.below hb).mono hb.size
  cty := h.cty.hk (KeepsTy.of_below hb)
  row := ownsRow_below h.row hb
  bySet := h.bySet.below hb
  byWay := h.byWay.below hb
  tab := fun t ht => ⟨(h.tab t ht).1.kept (fun b c e fz hh _ _ => keep hb hh), (h.tab t ht).2⟩
  wf := ⟨h.wf.1, h.wf.2.1, h.wf.2.2.1, h.wf.2.2.2.1, h.wf.2.2.2.2.1, Nat.le_trans h.wf.2.2.2.2.2.1 hb.size, h.wf.2.2.2.2.2.2⟩ }
theorem Graph.below {B1 gb : Nat} {g : GS} {mb wb : Nat} {ta : Option Addr} {tc : Nat} {w w' : World} (h : Graph B1 gb g mb wb ta tc w) (hb : Below w.heap.size w w') : Graph B1 gb g mb wb ta tc w' := by
 obtain ⟨ca, cl, cc, bs, ws, h⟩ := h
 exact ⟨ca, cl, cc, bs, ws, h.below hb⟩
def gfoot (gb mb wb : Nat) (ta : Option Addr) (b : Nat) : Prop := b = gb ∨ b = mb ∨ b = wb ∨ (Value.slice ta 0 0).ownBlock = some b
def GOut (gb mb wb : Nat) (ta ta' : Option Addr) (w w' : World) : Prop := Out (gfoot gb mb wb ta) w w' ∧ ∀ b, gfoot gb mb wb ta' b → gfoot gb mb wb ta b ∨ w.heap.size ≤ b
theorem GOut.trans {gb mb wb : Nat} {ta tb tc : Option Addr} {a b c : World} (h : GOut gb mb wb ta tb a b) (k : GOut gb mb wb tb tc b c) : GOut gb mb wb ta tc a c := by
 refine ⟨h.1.trans k.1 h.2, fun x hx => ?_⟩
 rcases k.2 x hx with h1 | h1
 ·exact h.2 x h1
 ·exact .inr (Nat.le_trans h.1.size h1)
theorem GOut.of_below {gb mb wb : Nat} {ta : Option Addr} {w w' : World} (h : Below w.heap.size w w') : GOut gb mb wb ta ta w w' := ⟨Out.of h, fun _ => .inl⟩
theorem ownBlock_slice (ta : Option Addr) (n m n' m' : Nat) : (Value.slice ta n m).ownBlock = (Value.slice ta n' m').ownBlock := by cases ta <;> rfl
theorem len_any (B1 gb : Nat) (g : GS) (w : World) {mb wb : Nat} {ta : Option Addr} {tc : Nat} (h : Graph B1 gb g mb wb ta tc w) : Calls Tryz.prog 90 #[.pointer (some ⟨gb, 0, none⟩)] w fun e w' => e = .returned (.int .i64 g.ts.length) ∧ w = w' := by
 obtain ⟨ca, cl, cc, bs, ws, h⟩ := h
 have c4 := cell_at h.blk 4
 simp at c4
 have H := Lib.hid h
 clear h
 go_enter Tryz.func90, Tryz.ntmps90
 go_wp2_with fail
 go_returns
 exact ⟨rfl, rfl⟩
def posI (o : Option Nat) : Int := match o with | some i => i | none => 0
theorem intAt_litN (o : Option Nat) : intAt (litN o) = posI o := by cases o <;> rfl
theorem some_litN (o : Option Nat) : (litN o).isSome = o.isSome := by cases o <;> rfl
theorem gfind_any (B1 gb : Nat) (g : GS) (s : Int) (w : World) {mb wb : Nat} {ta : Option Addr} {tc : Nat} (h : Graph B1 gb g mb wb ta tc w) (h0 : 0 ≤ s) (h1 : s ≤ 4294967295) : Calls Tryz.prog 85 #[.pointer (some ⟨gb, 0, none⟩), .int .u32 s] w fun e w' => e = .returned (.tuple #[.int .i64 (posI (posOf s g.sigs)), .bool (posOf s g.sigs).isSome]) ∧ w = w' := by
 obtain ⟨ca, cl, cc, bs, ws, h⟩ := h
 have c4 := cell_at h.blk 5
 simp at c4
 have hl := h.bySet.look_ok_int Tryz.law28 Tryz.underlying163 Tryz.underlying3 Tryz.zero3 (keyOf_int_mk Tryz.underlying28 (wf_u32 h0 h1))
 rw [h.hbs, intAt_litN, some_litN] at hl
 have H := Lib.hid h
 clear h
 go_enter Tryz.func85, Tryz.ntmps85
 go_wp2_with fail
 go_returns
 exact ⟨rfl, rfl⟩
def tabPtr (g : GS) (i : Int) : Option Addr := if 0 ≤ i then (g.ts[i.toNat]?).map fun t => ⟨t.1, 0, none⟩ else none
theorem tabPtr_none {g : GS} {i : Int} (h : i < 0 ∨ (g.ts.length : Int) ≤ i) : tabPtr g i = none := by
 unfold tabPtr
 split
 ·rw [List.getElem?_eq_none (by omega)]; rfl
 ·rfl
theorem tabPtr_some {g : GS} {k : Nat} {t : Nat × Int} (h : g.ts[k]? = some t) : tabPtr g k = some ⟨t.1, 0, none⟩ := by
 unfold tabPtr
 rw [if_pos (by omega), Int.toNat_natCast, h]; rfl
theorem GraphAt.cell {B1 gb : Nat} {g : GS} {w : World} {mb wb : Nat} {ca : Option Addr} {cl cc : Nat} {ta : Option Addr} {tc : Nat} {bs ws : Lit → Option Lit} (h : GraphAt B1 gb g w mb wb ca cl cc ta tc bs ws) {k : Nat} {t : Nat × Int} (hk : g.ts[k]? = some t) :
  ∃ q, ta = some ⟨q, 0, none⟩ ∧ w.cell? ⟨q, k, none⟩ = some (.pointer (some ⟨t.1, 0, none⟩)) := by
 have hl := (List.getElem?_eq_some_iff.1 hk).1
 rcases h.row.2 with ⟨hv, h0'⟩ | ⟨q, cap', cur, hv, hg, hh, hc1, hc2, hc3, hc4⟩
 ·omega
 ·cases hv
  refine ⟨q, rfl, ?_⟩
  rw [cell_at hh]
  have hu : (g.ts.map fun t => Value.pointer (some ⟨t.1, 0, none⟩))[k]? = some (.pointer (some ⟨t.1, 0, none⟩)) := by rw [List.getElem?_map, hk]; rfl
  rw [← hc4, List.getElem?_take] at hu
  split at hu
  ·simpa using hu
  ·cases hu
theorem table_any (B1 gb : Nat) (g : GS) (i : Int) (w : World) {mb wb : Nat} {ta : Option Addr} {tc : Nat} (h : Graph B1 gb g mb wb ta tc w) : Calls Tryz.prog 52 #[.pointer (some ⟨gb, 0, none⟩), .int .i64 i] w fun e w' => e = .returned (.pointer (tabPtr g i)) ∧ w = w' := by
 have h' := h
 obtain ⟨ca, cl, cc, bs, ws, h⟩ := h
 have hlen : g.ts.length ≤ 64 := by have := h.wf; omega
 rcases (by omega : i < 0 ∨ (0 ≤ i ∧ (g.ts.length : Int) ≤ i) ∨ (0 ≤ i ∧ i < (g.ts.length : Int))) with hi | ⟨hi, hi'⟩ | ⟨hi, hi'⟩
 ·have HT := Lib.hid (tabPtr_none (g := g) (i := i) (.inl hi))
  have H := Lib.hid h; clear h
  have H' := Lib.hid h'; clear h'
  go_enter Tryz.func52, Tryz.ntmps52
  go_wp2_with fail
  go_returns
  exact ⟨by rw [HT.out]; rfl, rfl⟩
 ·have HT := Lib.hid (tabPtr_none (g := g) (i := i) (.inr hi'))
  have H := Lib.hid h; clear h
  have H' := Lib.hid h'; clear h'
  go_enter Tryz.func52, Tryz.ntmps52
  go_wp2_with fail
  refine (len_any B1 gb g _ H'.out).mono ?_
  rintro e w' ⟨rfl, rfl⟩
  go_wp2_with fail
  go_returns
  exact ⟨by rw [HT.out]; rfl, rfl⟩
 ·obtain ⟨k, rfl⟩ := Int.eq_ofNat_of_zero_le hi
  obtain ⟨t, ht⟩ : ∃ t, g.ts[k]? = some t := ⟨_, List.getElem?_eq_getElem (by omega)⟩
  obtain ⟨q, rfl, hc⟩ := h.cell ht
  have HT := Lib.hid (tabPtr_some ht)
  have c4 := cell_at h.blk 4
  simp at c4
  have H := Lib.hid h; clear h
  have H' := Lib.hid h'; clear h' ht
  go_enter Tryz.func52, Tryz.ntmps52
  go_wp2_with fail
  refine (len_any B1 gb g _ H'.out).mono ?_
  rintro e w' ⟨rfl, rfl⟩
  go_wp2_with fail
  go_returns
  exact ⟨by rw [HT.out]; rfl, rfl⟩
theorem room_any (B1 gb : Nat) (g : GS) (w : World) {mb wb : Nat} {ta : Option Addr} {tc : Nat} (h : Graph B1 gb g mb wb ta tc w) : Calls Tryz.prog 118 #[.pointer (some ⟨gb, 0, none⟩)] w fun e w' => e = .returned (.int .i64 (g.archs - g.ts.length)) ∧ ∃ n, w' = w.drewN n := by
 obtain ⟨ca, cl, cc, bs, ws, h⟩ := h
 have c4 := cell_at h.blk 4
 have c2 := cell_at h.blk 2
 simp at c4 c2
 have hlen : g.ts.length ≤ 64 := by have := h.wf; omega
 have h1 := h.wf.2.2.1
 have h2 := h.wf.2.2.2.1
 have H := Lib.hid h; clear h
 go_enter Tryz.func118, Tryz.ntmps118
 go_wp2_with fail
 go_quiet (fail)
 go_wp2_with fail
 go_returns
 exact ⟨rfl, _, rfl⟩
end Go.Proofs.YtgebbmfoamkfnaaGreatDoor
namespace Go.Proofs.YtgebbmfoamkfnaaGreatDoor
open Go.RowKit
set_option linter.unusedVariables false
theorem sigs_get {g : GS} {k : Nat} {t : Nat × Int} (h : g.ts[k]? = some t) : g.sigs[k]? = some t.2 := by
 unfold GS.sigs; rw [List.getElem?_map, h]; rfl
def chkF (g : GS) (i c : Int) (b : Bool) : Int :=
 if i < 0 ∨ (g.ts.length : Int) ≤ i then 3 else if (findC c g.cs).isSome = false then 6 else if hasB (g.sigs.getD i.toNat 0) c = b then 7 else 0
end Go.Proofs.YtgebbmfoamkfnaaGreatDoor
