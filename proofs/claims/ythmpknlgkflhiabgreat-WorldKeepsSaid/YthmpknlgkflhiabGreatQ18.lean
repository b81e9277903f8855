/- A table's entities copied; a component's column found; its bytes. · A new table; table.Bytes; Get where there is nothing. · The law's awake: answers that the document fixes by number. · The law's test of great schemas; deeds as they lie; what TableRoom's rounds keep. -/
import Derived.Test.YthmpknlgkflhiabGreatQ17
namespace Go.Proofs.YthmpknlgkflhiabGreat
open Go.RowKit
set_option linter.unusedVariables false
section
variable {B : Nat} {w : World} {t : TD}
def cIdx (id : Int) : Nat → List CV → Int
 | _, [] => -1
 | k, x :: r => if x.c.id = id then (k : Int) else cIdx id (k + 1) r
theorem cIdx_skip {id : Int} {k : Nat} {x : CV} {r : List CV} (h : ¬ x.c.id = id) : cIdx id k (x :: r) = cIdx id (k + 1) r := by
 conv => lhs; unfold cIdx
 rw [if_neg h]
def colOf (l : List CV) (id : Int) : Option CV := l.find? fun x => decide (x.c.id = id)
theorem cIdx_none {id : Int} : ∀ (l : List CV) (k : Nat), colOf l id = none → cIdx id k l = -1
 | [], _, _ => rfl
 | x :: r, k, h => by
  unfold colOf at h
  rw [List.find?_cons] at h
  split at h
  ·cases h
  ·rename_i hc
   rw [cIdx_skip (by simpa using hc)]
   exact cIdx_none r (k + 1) h
theorem cIdx_some {id : Int} {x : CV} : ∀ (l : List CV) (k : Nat), colOf l id = some x → ∃ j, cIdx id k l = ((k + j : Nat) : Int) ∧ l[j]? = some x
 | [], _, h => by simp [colOf] at h
 | c :: r, k, h => by
  unfold colOf at h
  rw [List.find?_cons] at h
  split at h
  ·rename_i hc
   cases h
   exact ⟨0, by unfold cIdx; rw [if_pos (by simpa using hc)]; rfl, rfl⟩
  ·rename_i hc
   obtain ⟨j, h1, h2⟩ := cIdx_some r (k + 1) h
   exact ⟨j + 1, by unfold cIdx; rw [if_neg (by simpa using hc), h1]; congr 1; omega, by simpa using h2⟩
theorem findClo_any (i id : Int) (s : ByteArray) (a : Option Addr) (n c b : Nat) (p : Option Addr) (w : World) (hp : w.cell? ⟨b, 0, none⟩ = some (.int .i64 id)) :
  Calls Tryz.prog 130 #[.agg #[.int .i64 i, .string s, .slice a n c, .pointer p], .pointer (some ⟨b, 0, none⟩)] w fun e w' => e = .returned (.bool (i == id)) ∧ Below w.heap.size w w' := by
 have hpb : b < w.heap.size := World.block_lt_of_cell? w _ hp
 go_enter Tryz.func130, Tryz.ntmps130
 go_wp2
 go_ret
 exact ⟨rfl, by go_grown⟩
set_option maxRecDepth 100000 in
set_option maxHeartbeats 1000000 in
theorem ixCols_any (id : Int) (B : Nat) (cps : List CV) (a : Option Addr) (n cap b : Nat) (w : World) (hcs : w.ownsRow B 146 4 (.slice a n cap) n (cps.flatMap colL)) (hn : cps.length = n) (h24 : n ≤ 24) (hp : w.cell? ⟨b, 0, none⟩ = some (.int .i64 id)) :
  Calls Tryz.prog 129 #[.slice a n cap, .func (.func 130) #[] #[.pointer (some ⟨b, 0, none⟩)]] w fun e w' => e = .returned (.int .i64 (cIdx id 0 cps)) ∧ Below w.heap.size w w' := by
 have hpb : b < w.heap.size := World.block_lt_of_cell? w _ hp
 have HN := Lib.hid hn
 have HCS := Lib.hid hcs
 clear hn hcs
 go_enter Tryz.func129, Tryz.ntmps129
 go_wp2_with fail
 go_loopw [8] (fun i wr => ∃ (k : Nat), k ≤ n ∧ i = .int .i64 k ∧ cIdx id 0 cps = cIdx id k (cps.drop k) ∧ Below w.heap.size w wr) (fun i _ => n - (intOf i).toNat)
 case atStart => exact ⟨0, Nat.zero_le _, rfl, rfl, Below.refl _ _⟩
 case round =>
  obtain ⟨k, hk, rfl, hgo, hbw⟩ := hrel
  have HG := Lib.hid hgo
  clear hgo
  have hzr := hbw.size
  by_cases hlt : k < n
  ·obtain ⟨x, hx⟩ : ∃ x, cps[k]? = some x := ⟨_, List.getElem?_eq_getElem (by have := HN.out; omega)⟩
   obtain ⟨q, hq, _, hql, hqc⟩ := row_block (ownsRow_below HCS.out hbw) (by omega)
   obtain ⟨g0, g1, g2, g3⟩ := colL_at cps hx
   have z0 := hqc _ _ g0
   have z1 := hqc _ _ g1
   have z2 := hqc _ _ g2
   have z3 := hqc _ _ g3
   rw [hq]
   have hstep := Lib.hid (HG.out.trans (by rw [drop_get hx]))
   have i1 : (0 : Int) ≤ (k : Int) := by omega
   have i2 : (k : Int) < (n : Int) := by omega
   have hpw := (hbw.cell (p := ⟨b, 0, none⟩) hpb).trans hp
   clear hqc g0 g1 g2 g3 hq hx
   go_wp2_with fail
   refine (findClo_any _ id _ _ _ _ b _ _ hpw).mono ?_
   rintro e w1 ⟨rfl, hb1⟩
   clear z0 z1 z2 z3
   by_cases h : x.c.id = id
   ·have H1 : Hid (cIdx id 0 cps = k) := Lib.hid (by rw [hstep.out]; unfold cIdx; rw [if_pos h])
    have e1 : (x.c.id == id) = true := by simp [h]
    clear h
    go_wp2
    go_ret
    exact ⟨ret_intk H1.out.symm, hbw.trans (hb1.mono hzr)⟩
   ·have H1 := Lib.hid (hstep.out.trans (cIdx_skip h))
    have e1 : (x.c.id == id) = false := by simp [h]
    clear h
    go_wp2
    go_roundw
    case rel => exact ⟨k + 1, by omega, by go_num, H1.out, hbw.trans (hb1.mono hzr)⟩
    case measure => simp [intOf]; omega
  ·obtain rfl : k = n := by omega
   have H1 : Hid (cIdx id 0 cps = -1) := Lib.hid (by rw [HG.out, List.drop_eq_nil_of_le (by have := HN.out; omega)]; rfl)
   go_wp2
   go_ret
   exact ⟨ret_intk H1.out.symm, hbw⟩
def findErr (t : TD) (row comp : Int) : Int := if 0 ≤ row ∧ row < t.ents.length then (if (colOf t.cps comp).isSome then 0 else 6) else 3
def findVal (t : TD) (row comp : Int) : Value := if 0 ≤ row ∧ row < t.ents.length then (match colOf t.cps comp with
 | some x => .agg #[.int .i64 x.c.id, .string x.c.name, .slice x.fa x.fl x.fc, .pointer (some ⟨x.cb, 0, none⟩)]
 | none => .agg #[.int .i64 0, .string ByteArray.empty, .slice none 0 0, .pointer none]) else .agg #[.int .i64 0, .string ByteArray.empty, .slice none 0 0, .pointer none]
set_option maxRecDepth 100000 in
set_option maxHeartbeats 1000000 in
theorem tabFind_in (h : TabIn B w t) (row comp : Int) : Calls Tryz.prog 94 #[.pointer (some ⟨t.tb, 0, none⟩), .int .i64 row, .int .i64 comp] w fun e w' => e = .returned (.tuple #[findVal t row comp, .int .i64 (findErr t row comp)]) ∧ Below w.heap.size w w' := by
 have hbox := keepA (.cells #[.int .i64 0, .string ByteArray.empty, .slice none 0 0, .pointer none] 146) (heap_alloc_new w (.cells #[.int .i64 comp] 3))
 have hres := heap_alloc_new (w.alloc (.cells #[.int .i64 comp] 3)) (.cells #[.int .i64 0, .string ByteArray.empty, .slice none 0 0, .pointer none] 146)
 rw [World.size_alloc] at hres
 have hb0 : Below w.heap.size w ((w.alloc (.cells #[.int .i64 comp] 3)).alloc (.cells #[.int .i64 0, .string ByteArray.empty, .slice none 0 0, .pointer none] 146)) := by go_grown
 have h1 := h.below hb0
 have HAT := Lib.hid (tabAt_in h1 row)
 have HX := Lib.hid (And.intro hbox (And.intro hres hb0))
 have H1 := Lib.hid h1
 clear hbox hres hb0 h1 h
 go_enter Tryz.func94, Tryz.ntmps94
 go_wp2_with fail
 refine HAT.out.mono ?_
 rintro e w1 ⟨rfl, rfl⟩
 generalize (w.alloc (.cells #[.int .i64 comp] 3)).alloc (.cells #[.int .i64 0, .string ByteArray.empty, .slice none 0 0, .pointer none] 146) = W at *
 have f0 := free_at HX.out.2.1 0
 have f1 := free_at HX.out.2.1 1
 have f2 := free_at HX.out.2.1 2
 have f3 := free_at HX.out.2.1 3
 have r0 := cell_at HX.out.2.1 0
 have r1 := cell_at HX.out.2.1 1
 have r2 := cell_at HX.out.2.1 2
 have r3 := cell_at HX.out.2.1 3
 simp at r0 r1 r2 r3
 by_cases hrow : 0 ≤ row ∧ row < t.ents.length
 ·rw [if_pos hrow]
  have hc6 := H1.out.cells
  obtain ⟨_, _, _, _, _, _, c6, _⟩ := hc6
  have hbx : W.cell? ⟨w.heap.size, 0, none⟩ = some (.int .i64 comp) := by rw [cell_at HX.out.1]; rfl
  have HROW := Lib.hid hrow
  clear hrow
  go_wp2_with fail
  refine (ixCols_any comp B t.cps _ _ _ w.heap.size W H1.out.colsR rfl H1.out.n24 hbx).mono ?_
  rintro e w1 ⟨rfl, hb1⟩
  have hr1 := keep hb1 HX.out.2.1
  have hbel := HX.out.2.2.trans (hb1.mono HX.out.2.2.size)
  have h1 := H1.out.below hb1
  clear r0 r1 r2 r3 f0 f1 f2 f3 c6 hbx
  have f0 := free_at hr1 0
  have f1 := free_at hr1 1
  have f2 := free_at hr1 2
  have f3 := free_at hr1 3
  have r0 := cell_at hr1 0
  have r1 := cell_at hr1 1
  have r2 := cell_at hr1 2
  have r3 := cell_at hr1 3
  simp at r0 r1 r2 r3
  cases hcol : colOf t.cps comp with
  | none =>
   have HV := Lib.hid (show findVal t row comp = .agg #[.int .i64 0, .string ByteArray.empty, .slice none 0 0, .pointer none] by unfold findVal; rw [if_pos HROW.out, hcol])
   have HE := Lib.hid (show findErr t row comp = 6 by unfold findErr; rw [if_pos HROW.out, hcol]; rfl)
   rw [cIdx_none t.cps 0 hcol]
   clear hcol h1
   go_wp2_with fail
   refine bodyPost_ret (v := .tuple #[.agg #[.int .i64 0, .string ByteArray.empty, .slice none 0 0, .pointer none], .int .i64 6]) (by simp [results, Tryz.results94, go_sem, r0, r1, r2, r3]; rfl) rfl ?_
   exact ⟨by rw [HV.out, HE.out], (((hbel.setCell (by simp) _).setCell (by simp) _).setCell (by simp) _).setCell (by simp) _⟩
  | some x =>
   have HV := Lib.hid (show findVal t row comp = .agg #[.int .i64 x.c.id, .string x.c.name, .slice x.fa x.fl x.fc, .pointer (some ⟨x.cb, 0, none⟩)] by unfold findVal; rw [if_pos HROW.out, hcol])
   have HE := Lib.hid (show findErr t row comp = 0 by unfold findErr; rw [if_pos HROW.out, hcol]; rfl)
   obtain ⟨j, hj, hx⟩ := cIdx_some t.cps 0 hcol
   rw [hj, Nat.zero_add]
   have hjl : j < t.cps.length := (List.getElem?_eq_some_iff.1 hx).1
   obtain ⟨_, _, _, _, _, _, c6, _⟩ := h1.cells
   obtain ⟨q, hq, _, hql, hqc⟩ := row_block h1.colsR (by omega)
   obtain ⟨g0, g1, g2, g3⟩ := colL_at t.cps hx
   have z0 := hqc _ _ g0
   have z1 := hqc _ _ g1
   have z2 := hqc _ _ g2
   have z3 := hqc _ _ g3
   have hn24 := h1.n24
   obtain ⟨n, hn⟩ : ∃ n, t.cps.length = n := ⟨_, rfl⟩
   rw [hn] at c6 hjl hn24
   rw [hq] at c6
   have i1 : (0 : Int) ≤ (j : Int) := by omega
   have i2 : (j : Int) < (n : Int) := by omega
   clear hcol h1 hj hx hqc g0 g1 g2 g3 hq hn
   go_wp2_with fail
   refine bodyPost_ret (v := .tuple #[.agg #[.int .i64 x.c.id, .string x.c.name, .slice x.fa x.fl x.fc, .pointer (some ⟨x.cb, 0, none⟩)], .int .i64 0]) (by simp [results, Tryz.results94, go_sem, r0, r1, r2, r3]) rfl ?_
   exact ⟨by rw [HV.out, HE.out], (((hbel.setCell (by simp) _).setCell (by simp) _).setCell (by simp) _).setCell (by simp) _⟩
 ·have HV := Lib.hid (show findVal t row comp = .agg #[.int .i64 0, .string ByteArray.empty, .slice none 0 0, .pointer none] by unfold findVal; rw [if_neg hrow])
  have HE := Lib.hid (show findErr t row comp = 3 by unfold findErr; rw [if_neg hrow])
  rw [if_neg hrow]
  clear hrow
  go_wp2_with fail
  refine bodyPost_ret (v := .tuple #[.agg #[.int .i64 0, .string ByteArray.empty, .slice none 0 0, .pointer none], .int .i64 3]) (by simp [results, Tryz.results94, go_sem, r0, r1, r2, r3]; rfl) rfl ?_
  exact ⟨by rw [HV.out, HE.out], (((HX.out.2.2.setCell (by simp) _).setCell (by simp) _).setCell (by simp) _).setCell (by simp) _⟩
end
end Go.Proofs.YthmpknlgkflhiabGreat
namespace Go.Proofs.YthmpknlgkflhiabGreat
open Go.RowKit
set_option linter.unusedVariables false
theorem findC_id {i : Int} {c : Cmp} {cs : List Cmp} (h : findC i cs = some c) : c.id = i := by
 unfold findC at h
 have := List.find?_some h
 simpa using this
def newCD (most : Nat) (x : CV) : CD := ⟨(planSize x.c.fields).toNat, most, [], x.cb, none, 0, [], fun _ => 0⟩
theorem TabIn.of_new {w : World} {tb : Nat} {ver : Int} {cs : List Cmp} {set : Int} {most : Nat} (h : TableNew w tb ver cs set (most : Int)) (hok : tableOk ver cs set (most : Int) = true) (h0 : 0 ≤ set) (h1 : set ≤ 4294967295) :
  ∃ t : TD, TabIn tb w t ∧ t.tb = tb ∧ t.ver = ver ∧ t.set = set ∧ t.most = most ∧ t.kept = 0 ∧ t.ents = [] ∧ (idsTo set 24).map (findC · cs) = t.cs.map some := by
 obtain ⟨ca, cc, la, lc, cps, hh, he⟩ := h
 unfold tableOk at hok
 simp only [Bool.and_eq_true, decide_eq_true_eq, beq_iff_eq] at hok
 obtain ⟨⟨⟨⟨hsc, _⟩, hm1⟩, hm2⟩, _⟩ := hok
 have hlen : cps.length = (idsTo set 24).length := by have := congrArg List.length he; simpa using this.symm
 have h24 : cps.length ≤ 24 := by have := idsTo_len set 24; omega
 have hfind : ∀ x ∈ cps, ∃ i ∈ idsTo set 24, findC i cs = some x.c := by
  intro x hx
  have : some x.c ∈ (idsTo set 24).map (findC · cs) := by rw [he]; exact List.mem_map_of_mem (f := fun x : CV => some x.c) hx
  obtain ⟨i, hi, hic⟩ := List.mem_map.1 this
  exact ⟨i, hi, hic⟩
 have hlay : ∀ x ∈ cps, layCheck x.c.fields = 0 := by
  intro x hx
  obtain ⟨i, _, hi⟩ := hfind x hx
  exact schema_lay hsc _ (findC_mem hi)
 have hids : cps.map (·.c.id) = idsTo set 24 := by
  apply List.ext_getElem?
  intro k
  have hk := congrArg (fun l => l[k]?) he
  simp only [List.getElem?_map] at hk ⊢
  cases h1 : (idsTo set 24)[k]? with
  | none => rw [h1] at hk; cases h2 : cps[k]? with
   | none => rfl
   | some x => rw [h2] at hk; cases hk
  | some i =>
   rw [h1] at hk
   cases h2 : cps[k]? with
   | none => rw [h2] at hk; cases hk
   | some x =>
    rw [h2] at hk
    simp only [Option.map_some, Option.some.injEq] at hk ⊢
    exact findC_id hk
 have hcol : ∀ x ∈ cps, ColAt tb w (newCD most x) := by
  intro x hx
  obtain ⟨hf, hce⟩ := hh.good x hx
  have hl := hlay x hx
  obtain ⟨l8, la', l256⟩ := layCheck_zero hl
  obtain ⟨b0, _⟩ := planSize_bd l8 la'
  refine ⟨⟨?_, World.ownsRow_nil _ _ _ _, by have := hce.le; show tb ≤ x.cb; omega, by simp [newCD], by simp [newCD], by show (planSize x.c.fields).toNat ≤ 256; omega, by simp [newCD], by show most ≤ 65536; omega, by simp [newCD], by simp [newCD]⟩, by simp [newCD], by simp [newCD], by simp [newCD], by simp [newCD]⟩
  have := hce.blk
  show w.heap[x.cb]? = _
  rw [this]
  simp only [newCD, List.length_nil]
  rw [Int.toNat_of_nonneg b0]
  rfl
 have hfoot : ∀ (x : CV) (b : Nat), (newCD most x).foot b → b = x.cb := by
  intro x b hb
  rcases hb with hb | hb | hb
  ·exact hb
  ·cases hb
  ·cases hb
 refine ⟨⟨tb, ver, set, most, 0, [], none, 0, ca, cc, la, lc, cps, cps.map (newCD most)⟩, ⟨hh.blk, ownsRow_mono hh.comps (by omega), ownsRow_mono hh.cols (by omega), fun x hx => ?_, World.ownsRow_nil _ _ _ _, Nat.le_refl _, by simp, fun i x d hx hd => ?_, fun d hd => ?_, fun i j d e hij hd he' b hb hb' => ?_, hlay, h24, by show 1 ≤ most; omega, by show most ≤ 256; omega, by simp, h0, h1, hids⟩, rfl, rfl, rfl, rfl, rfl, rfl, by simp only [TD.cs]; rw [he]; simp⟩
 ·have hf := (hh.good x hx).1
  exact ⟨ownsRow_mono hf.row (by omega), hf.len, hf.max, hf.nil⟩
 ·simp only [List.getElem?_map, Option.map_eq_some_iff] at hd
  obtain ⟨y, hy, rfl⟩ := hd
  have : y = x := by have h2 : cps[i]? = some x := hx; rw [h2] at hy; cases hy; rfl
  subst this
  exact ⟨rfl, rfl, rfl, rfl⟩
 ·obtain ⟨x, hx, rfl⟩ := List.mem_map.1 hd
  exact hcol x hx
 ·simp only [List.getElem?_map, Option.map_eq_some_iff] at hd he'
  obtain ⟨x, hx, rfl⟩ := hd
  obtain ⟨y, hy, rfl⟩ := he'
  have h3 := hfoot x b hb
  have h4 := hfoot y b hb'
  have hnd := hh.nodup
  have e1 : (cps.map (·.cb))[i]? = some b := by rw [List.getElem?_map, hx, h3]; rfl
  have e2 : (cps.map (·.cb))[j]? = some b := by rw [List.getElem?_map, hy, h4]; rfl
  exact hij (nodup_at hnd e1 e2)
end Go.Proofs.YthmpknlgkflhiabGreat
namespace Go.Proofs.YthmpknlgkflhiabGreat
open Go.RowKit
set_option linter.unusedVariables false
def p16 (va : Option Addr) : List PW := [⟨1, va, 1, 1, [⟨false, 0, 7⟩]⟩]
def c16 : Cmp := ⟨1, ⟨#[97]⟩, [⟨⟨#[120]⟩, 6, 1⟩]⟩
theorem TabIn.not_foot {B : Nat} {w : World} {t : TD} (h : TabIn B w t) {b : Nat} {cs : Array Value} {ty : TypeId} {fr : Nat × Nat} (hb : w.heap[b]? = some (.cells cs ty fr)) (h1 : ty ≠ 143 ∧ ty ≠ 38 ∧ ty ≠ 202 ∧ ty ≠ 189 ∧ ty ≠ 5) : ¬ t.foot b := by
 obtain ⟨a1, a2, a3, a4, a5⟩ := h1
 rintro (rfl | hf | ⟨d, hd, hf⟩)
 ·rw [h.blk] at hb; cases hb; exact a1 rfl
 ·obtain ⟨cur, h2⟩ := row_type h.entsR hf
  rw [h2] at hb; cases hb; exact a2 rfl
 ·obtain ⟨cs', ty', fr', hh, ht⟩ := (h.colsA d hd).foot_ty hf
  rw [hh] at hb; cases hb
  rcases ht with rfl | rfl | rfl <;> contradiction
theorem parts16At {w : World} {pb ib : Nat} (hp : w.heap[pb]? = some (.cells #[.int .i64 1, .slice (some ⟨ib, 0, none⟩) 1 1] 48 (0, 0))) (hi : w.heap[ib]? = some (.cells #[.bool false, .int .u64 0, .int .u64 7] 67 (0, 0))) :
  PartsAt w.heap.size w (some ⟨pb, 0, none⟩) 1 1 (p16 (some ⟨ib, 0, none⟩)) := by
 refine ⟨rfl, Nat.le_refl _, by unfold maxLen; omega, fun p hpp => ?_, .inr ⟨pb, 0, rfl, lt_some hp, fun i p hpp => ?_⟩⟩
 ·simp only [p16, List.mem_cons, List.not_mem_nil, or_false] at hpp
  subst hpp
  refine ⟨rfl, Nat.le_refl _, by show 1 ≤ maxLen; unfold maxLen; omega, fun x hx => ?_, .inr ⟨ib, 0, rfl, lt_some hi, fun i x hx => ?_⟩⟩
  ·simp only [List.mem_cons, List.not_mem_nil, or_false] at hx
   subst hx
   exact wf_lo (by omega) (by omega)
  ·match i, hx with
   | 0, hx =>
    cases hx
    exact ⟨by rw [cell_at hi]; rfl, by rw [cell_at hi]; rfl, by rw [cell_at hi]; rfl⟩
   | n + 1, hx => simp at hx
 ·match i, hpp with
  | 0, hpp =>
   cases hpp
   exact ⟨by rw [cell_at hp]; rfl, by rw [cell_at hp]; rfl⟩
  | n + 1, hpp => simp [p16] at hpp
structure Aw (w0 : World) (B pb ib : Nat) (t : TD) (w : World) : Prop where
 tab : TabIn B w t
 hp : w.heap[pb]? = some (.cells #[.int .i64 1, .slice (some ⟨ib, 0, none⟩) 1 1] 48 (0, 0))
 hi : w.heap[ib]? = some (.cells #[.bool false, .int .u64 0, .int .u64 7] 67 (0, 0))
 bel : Below w0.heap.size w0 w
 hB : w0.heap.size ≤ B
 cs : t.cs = [c16]
 set : t.set = 2
 most : t.most = 2
theorem Aw.next {w0 w w' : World} {B pb ib : Nat} {t t' : TD} (h : Aw w0 B pb ib t w) (ho : Out t.foot w w') (ht : TabIn B w' t') (h1 : t'.cs = t.cs) (h2 : t'.set = t.set) (h3 : t'.most = t.most) : Aw w0 B pb ib t' w' :=
 ⟨ht, ho.keep h.hp (h.tab.not_foot h.hp (by decide)), ho.keep h.hi (h.tab.not_foot h.hi (by decide)), h.bel.trans (ho.below (fun b hb => Nat.le_trans h.hB (h.tab.foot_ge hb).1) h.bel.size), h.hB, h1.trans h.cs, h2.trans h.set, h3.trans h.most⟩
theorem Aw.below {w0 w w' : World} {B pb ib : Nat} {t : TD} (h : Aw w0 B pb ib t w) (hb : Below w.heap.size w w') : Aw w0 B pb ib t w' := h.next (Out.of hb) (h.tab.below hb) rfl rfl rfl
theorem Aw.parts {w0 w : World} {B pb ib : Nat} {t : TD} (h : Aw w0 B pb ib t w) : ∀ w', Out t.cfoot w w' → PartsAt w'.heap.size w' (some ⟨pb, 0, none⟩) 1 1 (p16 (some ⟨ib, 0, none⟩)) := by
 intro w' ho
 have ho' := ho.mono (G := t.foot) (fun x hx => .inl (TabIn.cfoot_foot hx))
 exact parts16At (ho'.keep h.hp (h.tab.not_foot h.hp (by decide))) (ho'.keep h.hi (h.tab.not_foot h.hi (by decide)))
theorem Aw.col {w0 w : World} {B pb ib : Nat} {t : TD} (h : Aw w0 B pb ib t w) : ∃ x d, t.cps = [x] ∧ x.c = c16 ∧ t.cols = [d] := by
 have hc := h.cs
 unfold TD.cs at hc
 have hl := congrArg List.length hc
 simp at hl
 obtain ⟨x, hx⟩ := List.length_eq_one_iff.1 hl
 have hl2 : t.cols.length = 1 := by rw [h.tab.len]; exact hl
 obtain ⟨d, hd⟩ := List.length_eq_one_iff.1 hl2
 rw [hx] at hc
 exact ⟨x, d, hx, by simpa using hc, hd⟩
end Go.Proofs.YthmpknlgkflhiabGreat
namespace Go.Proofs.YthmpknlgkflhiabGreat
open Go.RowKit
set_option linter.unusedVariables false
structure TA where
 kind : Int
 i : Int
 e : Int
 pa : Option Addr
 pl : Nat
 pc : Nat
 ps : List PW
def TActsAt (B : Nat) (w : World) (a : Option Addr) (len : Nat) (l : List TA) : Prop :=
 l.length = len ∧ len ≤ maxLen ∧ (∀ x ∈ l, PartsAt B w x.pa x.pl x.pc x.ps) ∧ (len = 0 ∨ ∃ b off, a = some ⟨b, off, none⟩ ∧ b < B ∧ ∀ (i : Nat) (x : TA), l[i]? = some x →
  w.cell? ⟨b, off + i * 4, none⟩ = some (.int .i64 x.kind) ∧ w.cell? ⟨b, off + i * 4 + 1, none⟩ = some (.int .i64 x.i) ∧ w.cell? ⟨b, off + i * 4 + 2, none⟩ = some (.int .u64 x.e) ∧ w.cell? ⟨b, off + i * 4 + 3, none⟩ = some (.slice x.pa x.pl x.pc))
theorem TActsAt.get {B : Nat} {w w' : World} {a : Option Addr} {len : Nat} {l : List TA} (h : TActsAt B w a len l) (hb : Below B w w') {k : Nat} (hk : k < len) :
  ∃ b off x, a = some ⟨b, off, none⟩ ∧ b < B ∧ l[k]? = some x ∧ PartsAt B w' x.pa x.pl x.pc x.ps ∧ w'.cell? ⟨b, off + k * 4, none⟩ = some (.int .i64 x.kind) ∧ w'.cell? ⟨b, off + k * 4 + 1, none⟩ = some (.int .i64 x.i) ∧ w'.cell? ⟨b, off + k * 4 + 2, none⟩ = some (.int .u64 x.e) ∧ w'.cell? ⟨b, off + k * 4 + 3, none⟩ = some (.slice x.pa x.pl x.pc) := by
 obtain ⟨h1, h2, h4, h3⟩ := h
 rcases h3 with h3 | ⟨b, off, ha, hB, hc⟩
 ·omega
 ·have hl : k < l.length := by omega
  obtain ⟨c0, c1, c2, c3⟩ := hc k _ (List.getElem?_eq_getElem hl)
  exact ⟨b, off, l[k], ha, hB, List.getElem?_eq_getElem hl, (h4 _ (List.getElem_mem hl)).below hb, (hb.cell (p := ⟨b, _, none⟩) hB).trans c0, (hb.cell (p := ⟨b, _, none⟩) hB).trans c1, (hb.cell (p := ⟨b, _, none⟩) hB).trans c2, (hb.cell (p := ⟨b, _, none⟩) hB).trans c3⟩
structure RoomS (w0 : World) (TB n : Nat) (t : TD) (w : World) : Prop where
 tab : TabIn TB w t
 tb : t.tb = TB
 most : t.most = n
 bel : Below w0.heap.size w0 w
 le : w0.heap.size ≤ TB
theorem RoomS.next {w0 w w' : World} {TB n : Nat} {t t' : TD} (h : RoomS w0 TB n t w) (ho : Out t.foot w w') (ht : TabIn TB w' t') (h1 : t'.tb = t.tb) (h2 : t'.most = t.most) : RoomS w0 TB n t' w' :=
 ⟨ht, h1.trans h.tb, h2.trans h.most, h.bel.trans (ho.below (fun b hb => Nat.le_trans h.le (h.tab.foot_ge hb).1) h.bel.size), h.le⟩
theorem RoomS.below {w0 w w' : World} {TB n : Nat} {t : TD} (h : RoomS w0 TB n t w) (hb : Below w.heap.size w w') : RoomS w0 TB n t w' := h.next (Out.of hb) (h.tab.below hb) rfl rfl
theorem RoomS.room {w0 w : World} {TB n : Nat} {t : TD} (h : RoomS w0 TB n t w) {fr : Nat} (hf : t.free = fr) : Calls Tryz.prog 77 #[.pointer (some ⟨TB, 0, none⟩)] w fun e w' => e = .returned (.int .i64 (fr : Int)) ∧ RoomS w0 TB n t w' := by
 have := tabRoom_in h.tab
 rw [h.tb, hf] at this
 exact this.mono fun e w' ⟨he, m, hm⟩ => ⟨he, by rw [hm]; exact h.below (below_drewN (Below.refl _ _) m)⟩
theorem RoomS.parts {w0 w : World} {TB n : Nat} {t : TD} (h : RoomS w0 TB n t w) {pa : Option Addr} {pl pc : Nat} {ps : List PW} (hp : PartsAt w0.heap.size w0 pa pl pc ps) : ∀ w', Out t.cfoot w w' → PartsAt w'.heap.size w' pa pl pc ps := by
 intro w' ho
 have hb : Below w0.heap.size w w' := ho.below (fun b hb => Nat.le_trans h.le (h.tab.foot_ge (TabIn.cfoot_foot hb)).1) h.bel.size
 have := h.bel.trans hb
 exact (hp.below this).mono this.size
end Go.Proofs.YthmpknlgkflhiabGreat
