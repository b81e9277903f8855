/- A table's entities copied; a component's column found; its bytes. · A new table; table.Bytes; Get where there is nothing. -/
import Derived.Test.YtoadihebdaooaaaGreatE19
namespace Go.Proofs.YtoadihebdaooaaaGreat
open Go.RowKit
set_option linter.unusedVariables false
def IsEnts (xs : List Int) (w : World) (e : Ending) (w' : World) : Prop := ∃ va vc, e = .returned (.slice va xs.length vc) ∧ w'.ownsRow w.heap.size 61 1 (.slice va xs.length vc) xs.length (xs.map (.int .u64)) ∧ Below w.heap.size w w'
set_option maxRecDepth 100000 in
theorem cloneEnts_any (B : Nat) (a : Option Addr) (cap : Nat) (xs : List Int) (w : World) (h : w.ownsRow B 61 1 (.slice a xs.length cap) xs.length (xs.map (.int .u64))) (hl : xs.length ≤ 100000) :
    Calls Tryz.prog 81 #[.slice a xs.length cap] w (IsEnts xs w) := by
  obtain ⟨i0, hi, hz0, hz1, hz2⟩ := info_parts Tryz.info61
  have hnn := fun (wx : World) (a : Option Addr) (n c : Nat) => Lib.run_eql_slice_nil (P := Tryz.prog) wx 76 61 a n c 0 0 Tryz.underlying76
  obtain ⟨L, hL⟩ : ∃ L, xs.length = L := ⟨_, rfl⟩
  rw [hL] at h hl ⊢
  rcases h.2 with ⟨hv, h0⟩ | ⟨g, cap', cur, hv, hg, hh, hc1, hc2, hc3, hc4⟩
  · subst h0
    cases hv
    obtain rfl := List.eq_nil_of_length_eq_zero hL
    go_enter Tryz.func81, Tryz.ntmps81
    go_wp2
    go_returns
    exact ⟨none, 0, rfl, World.ownsRow_nil _ _ _ _, Below.refl _ _⟩
  · cases hv
    have hcc : ∀ j u, (xs.map (Value.int .u64))[j]? = some u → (w.alloc (.cells #[] 61)).cell? ((⟨g, 0, none⟩ : Addr).add j) = some u := fun j u hu => by
      rw [show (⟨g, 0, none⟩ : Addr).add j = ⟨g, j, none⟩ from by simp [Addr.add]; omega, cell_at (keepA _ hh)]
      rw [← hc4, List.getElem?_take] at hu
      split at hu
      · simpa using hu
      · cases hu
    have hown : (w.alloc (.cells #[] 61)).ownsRow w.heap.size 61 1 (.slice (some ⟨w.heap.size, 0, none⟩) 0 0) 0 [] := World.ownsRow_made w #[] 0 (Nat.le_refl _) (by simp) (by simp)
    have hcl : (xs.map (Value.int .u64)).length = L * 1 := by rw [List.length_map, hL, Nat.mul_one]
    have HL := Lib.hid hL
    have HCC := Lib.hid hcc
    have HCL := Lib.hid hcl
    clear hL h hh hc1 hc2 hc3 hc4 hcc hcl
    go_enter Tryz.func81, Tryz.ntmps81
    go_wp2_with (at_builtin; refine wpList_append_own _ rfl (.tmp 5) (.tmp 6) 76 rfl w.heap.size 61 i0 (.int .u64 0) 1 8 Tryz.underlying76 hi hz0 hz1 hz2 rfl (by decide) (.slice (some ⟨w.heap.size, 0, none⟩) 0 0) 0 [] rfl hown ⟨g, 0, none⟩ L cap (xs.map (.int .u64)) rfl HCL.out HCC.out (by intro u hu; simp at hu; obtain ⟨_, _, rfl⟩ := hu; rfl) (by unfold maxLen; omega) (by omega) (by simp) ?_)
    intro v' w1 hown1 hg1 hnil
    obtain ⟨va, vc, hv⟩ := ownsRow_slice hown1
    rw [hv] at hown1 hnil ⊢
    clear hv
    have hbel : Below w.heap.size w w1 := ((Below.refl _ w).alloc (Nat.le_refl _) _).grown hg1 (by simp) (fun x hx => by simp [Value.ownBlock] at hx; omega)
    have HO := Lib.hid hown1
    clear hown1 hnil
    go_wp2
    go_returns
    refine ⟨va, vc, ?_, ?_, hbel⟩
    · exact ret_sl HL.out.symm
    · rw [HL.out]; exact HO.out
section
variable {B : Nat} {w : World} {t : TD}
set_option maxRecDepth 100000 in
theorem tabEnts_in (h : TabIn B w t) : Calls Tryz.prog 38 #[.pointer (some ⟨t.tb, 0, none⟩)] w (IsEnts t.ents w) := by
  have hr := h.room
  have hm := h.most2
  have HC := Lib.hid (cloneEnts_any B t.ea t.ec t.ents w h.entsR (by omega))
  obtain ⟨_, _, _, _, _, c5, _, _⟩ := h.cells
  clear h hr hm
  go_enter Tryz.func38, Tryz.ntmps38
  go_wp2_with fail
  refine HC.out.mono ?_
  rintro e w1 ⟨va, vc, rfl, ho, hb⟩
  have HO := Lib.hid (And.intro ho hb)
  clear ho hb
  go_wp2_with fail
  go_returns
  exact ⟨va, vc, rfl, HO.out.1, HO.out.2⟩
def cIdx (id : Int) : Nat → List CV → Int
  | _, [] => -1
  | k, x :: r => if x.c.id = id then (k : Int) else cIdx id (k + 1) r
theorem cIdx_skip {id : Int} {k : Nat} {x : CV} {r : List CV} (h : ¬ x.c.id = id) : cIdx id k (x :: r) = cIdx id (k + 1) r := by
  conv => lhs; unfold cIdx
  rw [if_neg h]
/-- The column of a component. -/
def colOf (l : List CV) (id : Int) : Option CV := l.find? fun x => decide (x.c.id = id)
theorem cIdx_none {id : Int} : ∀ (l : List CV) (k : Nat), colOf l id = none → cIdx id k l = -1
  | [], _, _ => rfl
  | x :: r, k, h => by
    unfold colOf at h
    rw [List.find?_cons] at h
    split at h
    · cases h
    · rename_i hc
      rw [cIdx_skip (by simpa using hc)]
      exact cIdx_none r (k + 1) h
theorem cIdx_some {id : Int} {x : CV} : ∀ (l : List CV) (k : Nat), colOf l id = some x → ∃ j, cIdx id k l = ((k + j : Nat) : Int) ∧ l[j]? = some x
  | [], _, h => by simp [colOf] at h
  | c :: r, k, h => by
    unfold colOf at h
    rw [List.find?_cons] at h
    split at h
    · rename_i hc
      cases h
      exact ⟨0, by unfold cIdx; rw [if_pos (by simpa using hc)]; rfl, rfl⟩
    · rename_i hc
      obtain ⟨j, h1, h2⟩ := cIdx_some r (k + 1) h
      exact ⟨j + 1, by unfold cIdx; rw [if_neg (by simpa using hc), h1]; congr 1; omega, by simpa using h2⟩
theorem findClo_any (i id : Int) (s : ByteArray) (a : Option Addr) (n c b : Nat) (p : Option Addr) (w : World) (hp : w.cell? ⟨b, 0, none⟩ = some (.int .i64 id)) :
    Calls Tryz.prog 122 #[.agg #[.int .i64 i, .string s, .slice a n c, .pointer p], .pointer (some ⟨b, 0, none⟩)] w fun e w' => e = .returned (.bool (i == id)) ∧ Below w.heap.size w w' := by
  have hpb : b < w.heap.size := World.block_lt_of_cell? w _ hp
  go_enter Tryz.func122, Tryz.ntmps122
  go_wp2
  go_ret
  exact ⟨rfl, by go_grown⟩
set_option maxRecDepth 100000 in
set_option maxHeartbeats 1000000 in
theorem ixCols_any (id : Int) (B : Nat) (cps : List CV) (a : Option Addr) (n cap b : Nat) (w : World) (hcs : w.ownsRow B 142 4 (.slice a n cap) n (cps.flatMap colL)) (hn : cps.length = n) (h24 : n ≤ 24) (hp : w.cell? ⟨b, 0, none⟩ = some (.int .i64 id)) :
    Calls Tryz.prog 121 #[.slice a n cap, .func (.func 122) #[] #[.pointer (some ⟨b, 0, none⟩)]] w fun e w' => e = .returned (.int .i64 (cIdx id 0 cps)) ∧ Below w.heap.size w w' := by
  have hpb : b < w.heap.size := World.block_lt_of_cell? w _ hp
  have HN := Lib.hid hn
  have HCS := Lib.hid hcs
  clear hn hcs
  go_enter Tryz.func121, Tryz.ntmps121
  go_wp2_with fail
  go_loopw [8] (fun i wr => ∃ (k : Nat), k ≤ n ∧ i = .int .i64 k ∧ cIdx id 0 cps = cIdx id k (cps.drop k) ∧ Below w.heap.size w wr) (fun i _ => n - (intOf i).toNat)
  case atStart => exact ⟨0, Nat.zero_le _, rfl, rfl, Below.refl _ _⟩
  case round =>
    obtain ⟨k, hk, rfl, hgo, hbw⟩ := hrel
    have HG := Lib.hid hgo
    clear hgo
    have hzr := hbw.size
    by_cases hlt : k < n
    · obtain ⟨x, hx⟩ : ∃ x, cps[k]? = some x := ⟨_, List.getElem?_eq_getElem (by have := HN.out; omega)⟩
      obtain ⟨q, hq, _, hql, hqc⟩ := row_block (ownsRow_below HCS.out hbw) (by omega)
      obtain ⟨g0, g1, g2, g3⟩ := colL_at cps hx
      have z0 := hqc _ _ g0
      have z1 := hqc _ _ g1
      have z2 := hqc _ _ g2
      have z3 := hqc _ _ g3
      rw [hq]
      have hstep := Lib.hid (HG.out.trans (by rw [drop_get hx]))
      have i1 : (0 : Int) ≤ (k : Int) := by omega
      have i2 : (k : Int) < (n : Int) := by omega
      have hpw := (hbw.cell (p := ⟨b, 0, none⟩) hpb).trans hp
      clear hqc g0 g1 g2 g3 hq hx
      go_wp2_with fail
      refine (findClo_any _ id _ _ _ _ b _ _ hpw).mono ?_
      rintro e w1 ⟨rfl, hb1⟩
      clear z0 z1 z2 z3
      by_cases h : x.c.id = id
      · have H1 : Hid (cIdx id 0 cps = k) := Lib.hid (by rw [hstep.out]; unfold cIdx; rw [if_pos h])
        have e1 : (x.c.id == id) = true := by simp [h]
        clear h
        go_wp2
        go_ret
        exact ⟨ret_intk H1.out.symm, hbw.trans (hb1.mono hzr)⟩
      · have H1 := Lib.hid (hstep.out.trans (cIdx_skip h))
        have e1 : (x.c.id == id) = false := by simp [h]
        clear h
        go_wp2
        go_roundw
        case rel => exact ⟨k + 1, by omega, by go_num, H1.out, hbw.trans (hb1.mono hzr)⟩
        case measure => simp [intOf]; omega
    · obtain rfl : k = n := by omega
      have H1 : Hid (cIdx id 0 cps = -1) := Lib.hid (by rw [HG.out, List.drop_eq_nil_of_le (by have := HN.out; omega)]; rfl)
      go_wp2
      go_ret
      exact ⟨ret_intk H1.out.symm, hbw⟩
/-- The answer of 'find'. -/
def findErr (t : TD) (row comp : Int) : Int := if 0 ≤ row ∧ row < t.ents.length then (if (colOf t.cps comp).isSome then 0 else 6) else 3
def findVal (t : TD) (row comp : Int) : Value := if 0 ≤ row ∧ row < t.ents.length then (match colOf t.cps comp with
  | some x => .agg #[.int .i64 x.c.id, .string x.c.name, .slice x.fa x.fl x.fc, .pointer (some ⟨x.cb, 0, none⟩)]
  | none => .agg #[.int .i64 0, .string ByteArray.empty, .slice none 0 0, .pointer none]) else .agg #[.int .i64 0, .string ByteArray.empty, .slice none 0 0, .pointer none]
set_option maxRecDepth 100000 in
set_option maxHeartbeats 1000000 in
theorem tabFind_in (h : TabIn B w t) (row comp : Int) : Calls Tryz.prog 82 #[.pointer (some ⟨t.tb, 0, none⟩), .int .i64 row, .int .i64 comp] w fun e w' => e = .returned (.tuple #[findVal t row comp, .int .i64 (findErr t row comp)]) ∧ Below w.heap.size w w' := by
  have hbox := keepA (.cells #[.int .i64 0, .string ByteArray.empty, .slice none 0 0, .pointer none] 142) (heap_alloc_new w (.cells #[.int .i64 comp] 3))
  have hres := heap_alloc_new (w.alloc (.cells #[.int .i64 comp] 3)) (.cells #[.int .i64 0, .string ByteArray.empty, .slice none 0 0, .pointer none] 142)
  rw [World.size_alloc] at hres
  have hb0 : Below w.heap.size w ((w.alloc (.cells #[.int .i64 comp] 3)).alloc (.cells #[.int .i64 0, .string ByteArray.empty, .slice none 0 0, .pointer none] 142)) := by go_grown
  have h1 := h.below hb0
  have HAT := Lib.hid (tabAt_in h1 row)
  have HX := Lib.hid (And.intro hbox (And.intro hres hb0))
  have H1 := Lib.hid h1
  clear hbox hres hb0 h1 h
  go_enter Tryz.func82, Tryz.ntmps82
  go_wp2_with fail
  refine HAT.out.mono ?_
  rintro e w1 ⟨rfl, rfl⟩
  generalize (w.alloc (.cells #[.int .i64 comp] 3)).alloc (.cells #[.int .i64 0, .string ByteArray.empty, .slice none 0 0, .pointer none] 142) = W at *
  have f0 := free_at HX.out.2.1 0
  have f1 := free_at HX.out.2.1 1
  have f2 := free_at HX.out.2.1 2
  have f3 := free_at HX.out.2.1 3
  have r0 := cell_at HX.out.2.1 0
  have r1 := cell_at HX.out.2.1 1
  have r2 := cell_at HX.out.2.1 2
  have r3 := cell_at HX.out.2.1 3
  simp at r0 r1 r2 r3
  by_cases hrow : 0 ≤ row ∧ row < t.ents.length
  · rw [if_pos hrow]
    have hc6 := H1.out.cells
    obtain ⟨_, _, _, _, _, _, c6, _⟩ := hc6
    have hbx : W.cell? ⟨w.heap.size, 0, none⟩ = some (.int .i64 comp) := by rw [cell_at HX.out.1]; rfl
    have HROW := Lib.hid hrow
    clear hrow
    go_wp2_with fail
    refine (ixCols_any comp B t.cps _ _ _ w.heap.size W H1.out.colsR rfl H1.out.n24 hbx).mono ?_
    rintro e w1 ⟨rfl, hb1⟩
    have hr1 := keep hb1 HX.out.2.1
    have hbel := HX.out.2.2.trans (hb1.mono HX.out.2.2.size)
    have h1 := H1.out.below hb1
    clear r0 r1 r2 r3 f0 f1 f2 f3 c6 hbx
    have f0 := free_at hr1 0
    have f1 := free_at hr1 1
    have f2 := free_at hr1 2
    have f3 := free_at hr1 3
    have r0 := cell_at hr1 0
    have r1 := cell_at hr1 1
    have r2 := cell_at hr1 2
    have r3 := cell_at hr1 3
    simp at r0 r1 r2 r3
    cases hcol : colOf t.cps comp with
    | none =>
      have HV := Lib.hid (show findVal t row comp = .agg #[.int .i64 0, .string ByteArray.empty, .slice none 0 0, .pointer none] by unfold findVal; rw [if_pos HROW.out, hcol])
      have HE := Lib.hid (show findErr t row comp = 6 by unfold findErr; rw [if_pos HROW.out, hcol]; rfl)
      rw [cIdx_none t.cps 0 hcol]
      clear hcol h1
      go_wp2_with fail
      refine bodyPost_ret (v := .tuple #[.agg #[.int .i64 0, .string ByteArray.empty, .slice none 0 0, .pointer none], .int .i64 6]) (by simp [results, Tryz.results82, go_sem, r0, r1, r2, r3]; rfl) rfl ?_
      exact ⟨by rw [HV.out, HE.out], (((hbel.setCell (by simp) _).setCell (by simp) _).setCell (by simp) _).setCell (by simp) _⟩
    | some x =>
      have HV := Lib.hid (show findVal t row comp = .agg #[.int .i64 x.c.id, .string x.c.name, .slice x.fa x.fl x.fc, .pointer (some ⟨x.cb, 0, none⟩)] by unfold findVal; rw [if_pos HROW.out, hcol])
      have HE := Lib.hid (show findErr t row comp = 0 by unfold findErr; rw [if_pos HROW.out, hcol]; rfl)
      obtain ⟨j, hj, hx⟩ := cIdx_some t.cps 0 hcol
      rw [hj, Nat.zero_add]
      have hjl : j < t.cps.length := (List.getElem?_eq_some_iff.1 hx).1
      obtain ⟨_, _, _, _, _, _, c6, _⟩ := h1.cells
      obtain ⟨q, hq, _, hql, hqc⟩ := row_block h1.colsR (by omega)
      obtain ⟨g0, g1, g2, g3⟩ := colL_at t.cps hx
      have z0 := hqc _ _ g0
      have z1 := hqc _ _ g1
      have z2 := hqc _ _ g2
      have z3 := hqc _ _ g3
      have hn24 := h1.n24
      obtain ⟨n, hn⟩ : ∃ n, t.cps.length = n := ⟨_, rfl⟩
      rw [hn] at c6 hjl hn24
      rw [hq] at c6
      have i1 : (0 : Int) ≤ (j : Int) := by omega
      have i2 : (j : Int) < (n : Int) := by omega
      clear hcol h1 hj hx hqc g0 g1 g2 g3 hq hn
      go_wp2_with fail
      refine bodyPost_ret (v := .tuple #[.agg #[.int .i64 x.c.id, .string x.c.name, .slice x.fa x.fl x.fc, .pointer (some ⟨x.cb, 0, none⟩)], .int .i64 0]) (by simp [results, Tryz.results82, go_sem, r0, r1, r2, r3]) rfl ?_
      exact ⟨by rw [HV.out, HE.out], (((hbel.setCell (by simp) _).setCell (by simp) _).setCell (by simp) _).setCell (by simp) _⟩
  · have HV := Lib.hid (show findVal t row comp = .agg #[.int .i64 0, .string ByteArray.empty, .slice none 0 0, .pointer none] by unfold findVal; rw [if_neg hrow])
    have HE := Lib.hid (show findErr t row comp = 3 by unfold findErr; rw [if_neg hrow])
    rw [if_neg hrow]
    clear hrow
    go_wp2_with fail
    refine bodyPost_ret (v := .tuple #[.agg #[.int .i64 0, .string ByteArray.empty, .slice none 0 0, .pointer none], .int .i64 3]) (by simp [results, Tryz.results82, go_sem, r0, r1, r2, r3]; rfl) rfl ?_
    exact ⟨by rw [HV.out, HE.out], (((HX.out.2.2.setCell (by simp) _).setCell (by simp) _).setCell (by simp) _).setCell (by simp) _⟩
end
end Go.Proofs.YtoadihebdaooaaaGreat
namespace Go.Proofs.YtoadihebdaooaaaGreat
open Go.RowKit
set_option linter.unusedVariables false
theorem findC_id {i : Int} {c : Cmp} {cs : List Cmp} (h : findC i cs = some c) : c.id = i := by
  unfold findC at h
  have := List.find?_some h
  simpa using this
def newCD (most : Nat) (x : CV) : CD := ⟨(planSize x.c.fields).toNat, most, [], x.cb, none, 0, [], fun _ => 0⟩
theorem TabIn.of_new {w : World} {tb : Nat} {ver : Int} {cs : List Cmp} {set : Int} {most : Nat} (h : TableNew w tb ver cs set (most : Int)) (hok : tableOk ver cs set (most : Int) = true) (h0 : 0 ≤ set) (h1 : set ≤ 4294967295) :
    ∃ t : TD, TabIn tb w t ∧ t.tb = tb ∧ t.ver = ver ∧ t.set = set ∧ t.most = most ∧ t.kept = 0 ∧ t.ents = [] ∧ (idsTo set 24).map (findC · cs) = t.cs.map some := by
  obtain ⟨ca, cc, la, lc, cps, hh, he⟩ := h
  unfold tableOk at hok
  simp only [Bool.and_eq_true, decide_eq_true_eq, beq_iff_eq] at hok
  obtain ⟨⟨⟨⟨hsc, _⟩, hm1⟩, hm2⟩, _⟩ := hok
  have hlen : cps.length = (idsTo set 24).length := by have := congrArg List.length he; simpa using this.symm
  have h24 : cps.length ≤ 24 := by have := idsTo_len set 24; omega
  have hfind : ∀ x ∈ cps, ∃ i ∈ idsTo set 24, findC i cs = some x.c := by
    intro x hx
    have : some x.c ∈ (idsTo set 24).map (findC · cs) := by rw [he]; exact List.mem_map_of_mem (f := fun x : CV => some x.c) hx
    obtain ⟨i, hi, hic⟩ := List.mem_map.1 this
    exact ⟨i, hi, hic⟩
  have hlay : ∀ x ∈ cps, layCheck x.c.fields = 0 := by
    intro x hx
    obtain ⟨i, _, hi⟩ := hfind x hx
    exact schema_lay hsc _ (findC_mem hi)
  have hids : cps.map (·.c.id) = idsTo set 24 := by
    apply List.ext_getElem?
    intro k
    have hk := congrArg (fun l => l[k]?) he
    simp only [List.getElem?_map] at hk ⊢
    cases h1 : (idsTo set 24)[k]? with
    | none => rw [h1] at hk; cases h2 : cps[k]? with
      | none => rfl
      | some x => rw [h2] at hk; cases hk
    | some i =>
      rw [h1] at hk
      cases h2 : cps[k]? with
      | none => rw [h2] at hk; cases hk
      | some x =>
        rw [h2] at hk
        simp only [Option.map_some, Option.some.injEq] at hk ⊢
        exact findC_id hk
  have hcol : ∀ x ∈ cps, ColAt tb w (newCD most x) := by
    intro x hx
    obtain ⟨hf, hce⟩ := hh.good x hx
    have hl := hlay x hx
    obtain ⟨l8, la', l256⟩ := layCheck_zero hl
    obtain ⟨b0, _⟩ := planSize_bd l8 la'
    refine ⟨⟨?_, World.ownsRow_nil _ _ _ _, by have := hce.le; show tb ≤ x.cb; omega, by simp [newCD], by simp [newCD], by show (planSize x.c.fields).toNat ≤ 256; omega, by simp [newCD], by show most ≤ 65536; omega, by simp [newCD], by simp [newCD]⟩, by simp [newCD], by simp [newCD], by simp [newCD], by simp [newCD]⟩
    have := hce.blk
    show w.heap[x.cb]? = _
    rw [this]
    simp only [newCD, List.length_nil]
    rw [Int.toNat_of_nonneg b0]
    rfl
  have hfoot : ∀ (x : CV) (b : Nat), (newCD most x).foot b → b = x.cb := by
    intro x b hb
    rcases hb with hb | hb | hb
    · exact hb
    · cases hb
    · cases hb
  refine ⟨⟨tb, ver, set, most, 0, [], none, 0, ca, cc, la, lc, cps, cps.map (newCD most)⟩, ⟨hh.blk, ownsRow_mono hh.comps (by omega), ownsRow_mono hh.cols (by omega), fun x hx => ?_, World.ownsRow_nil _ _ _ _, Nat.le_refl _, by simp, fun i x d hx hd => ?_, fun d hd => ?_, fun i j d e hij hd he' b hb hb' => ?_, hlay, h24, by show 1 ≤ most; omega, by show most ≤ 256; omega, by simp, h0, h1, hids⟩, rfl, rfl, rfl, rfl, rfl, rfl, by simp only [TD.cs]; rw [he]; simp⟩
  · have hf := (hh.good x hx).1
    exact ⟨ownsRow_mono hf.row (by omega), hf.len, hf.max, hf.nil⟩
  · simp only [List.getElem?_map, Option.map_eq_some_iff] at hd
    obtain ⟨y, hy, rfl⟩ := hd
    have : y = x := by have h2 : cps[i]? = some x := hx; rw [h2] at hy; cases hy; rfl
    subst this
    exact ⟨rfl, rfl, rfl, rfl⟩
  · obtain ⟨x, hx, rfl⟩ := List.mem_map.1 hd
    exact hcol x hx
  · simp only [List.getElem?_map, Option.map_eq_some_iff] at hd he'
    obtain ⟨x, hx, rfl⟩ := hd
    obtain ⟨y, hy, rfl⟩ := he'
    have h3 := hfoot x b hb
    have h4 := hfoot y b hb'
    have hnd := hh.nodup
    have e1 : (cps.map (·.cb))[i]? = some b := by rw [List.getElem?_map, hx, h3]; rfl
    have e2 : (cps.map (·.cb))[j]? = some b := by rw [List.getElem?_map, hy, h4]; rfl
    exact hij (nodup_at hnd e1 e2)
section
variable {B : Nat} {w : World} {t : TD}
set_option maxRecDepth 100000 in
theorem tabGet_no (h : TabIn B w t) (row comp : Int) (he : findErr t row comp ≠ 0) : Calls Tryz.prog 41 #[.pointer (some ⟨t.tb, 0, none⟩), .int .i64 row, .int .i64 comp] w fun e w' => e = .returned (.tuple #[.slice none 0 0, .int .i64 (findErr t row comp)]) ∧ Below w.heap.size w w' := by
  have hv : findVal t row comp = .agg #[.int .i64 0, .string ByteArray.empty, .slice none 0 0, .pointer none] := by
    unfold findErr at he
    unfold findVal
    split
    · rename_i h1
      rw [if_pos h1] at he
      cases hc : colOf t.cps comp with
      | none => rfl
      | some x => rw [hc] at he; exact absurd rfl he
    · rfl
  have HF := Lib.hid (tabFind_in h row comp)
  rw [hv] at HF
  obtain ⟨r, hr⟩ : ∃ r, findErr t row comp = r := ⟨_, rfl⟩
  rw [hr] at HF he ⊢
  have e1 : (r != 0) = true := by rw [bne_iff_ne]; exact he
  clear h hv hr he
  go_enter Tryz.func41, Tryz.ntmps41
  go_wp2_with fail
  refine HF.out.mono ?_
  rintro e w1 ⟨rfl, hb⟩
  have hz := hb.size
  go_wp2_with fail
  go_ret2
  exact ⟨rfl, hb.alloc hz _⟩
set_option maxRecDepth 100000 in
theorem tabBytes_in (h : TabIn B w t) (r : Nat) (i : Nat) (x : CV) (d : CD) (l : List UInt8) (comp : Int) (hr : r < t.ents.length) (hc : colOf t.cps comp = some x) (hx : t.cps[i]? = some x) (hd : t.cols[i]? = some d) (hl : d.rows[r]? = some l) :
    Calls Tryz.prog 44 #[.pointer (some ⟨t.tb, 0, none⟩), .int .i64 (r : Int), .int .i64 comp] w fun e w' => e = .returned (.tuple #[.string ⟨l.toArray⟩, .int .i64 0]) ∧ Below w.heap.size w w' := by
  have hv : findVal t (r : Int) comp = .agg #[.int .i64 x.c.id, .string x.c.name, .slice x.fa x.fl x.fc, .pointer (some ⟨x.cb, 0, none⟩)] := by unfold findVal; rw [if_pos ⟨by omega, by omega⟩, hc]
  have he : findErr t (r : Int) comp = 0 := by unfold findErr; rw [if_pos ⟨by omega, by omega⟩, hc]; rfl
  have hf := tabFind_in h (r : Int) comp
  rw [hv, he] at hf
  obtain ⟨k1, _, _, _⟩ := h.col i x d hx hd
  have HF := Lib.hid hf
  have HG := Lib.hid (fun (W : World) (hW : ColAt B W d) => colGet_any B W d r l hW hl)
  rw [k1] at HG
  have HC := Lib.hid (h.colsA d (List.mem_of_getElem? hd))
  clear h hv he hf hr hc hx hd hl k1
  go_enter Tryz.func44, Tryz.ntmps44
  go_wp2_with fail
  refine HF.out.mono ?_
  rintro e w1 ⟨rfl, hb⟩
  have hz := hb.size
  have hb2 := hb.alloc hz (.cells #[.int .i64 x.c.id, .string x.c.name, .slice x.fa x.fl x.fc, .pointer (some ⟨x.cb, 0, none⟩)] 142)
  have HB2 := Lib.hid hb2
  have HC2 := Lib.hid (HC.out.out (F := fun _ => False) (Out.of hb2) (fun _ _ => id))
  clear hb hb2 HC HF
  go_wp2_with fail
  refine (HG.out _ HC2.out).mono ?_
  rintro e w2 ⟨rfl, hb3⟩
  have HB3 := Lib.hid (HB2.out.trans (hb3.mono HB2.out.size))
  clear hb3
  go_wp2_with fail
  go_ret2
  exact ⟨rfl, HB3.out⟩
end
end Go.Proofs.YtoadihebdaooaaaGreat
