/- Contract of table.Drop. · A new table; table.Bytes; Get where there is nothing. · As B4, but for tables with rows: the graph knows only that the tables' blocks hold their sets. · Contracts of (*Graph).Sigs, check. -/
import Derived.Test.YtnhlnnehpmjeiaaGreatDoorP23
import Derived.DeepKeys4
import Derived.Deep.QuietTactic
import Derived.BigQuiet
import Derived.WalkSmall
import Derived.Deep.DeepCutAuto
namespace Go.Proofs.YtnhlnnehpmjeiaaGreatDoor
open Go.RowKit
set_option linter.unusedVariables false
theorem ret_ui {a b c d : Int} (h1 : a = c) (h2 : b = d) : Ending.returned (.tuple #[.int .u64 a, .int .i64 b]) = .returned (.tuple #[.int .u64 c, .int .i64 d]) := by rw [h1, h2]
def DropG (r m : Nat) (i : Nat) (d d' : CD) : Prop := ∀ l, d.rows[m]? = some l → d'.rows = (d.rows.set r l).take m ∧ d'.cb = d.cb ∧ d'.size = d.size ∧ d'.cap = d.cap
/-- The table with a row less. -/
def Dropped (B : Nat) (t : TD) (r m : Nat) (x : Int) (w w' : World) : Prop :=
  ∃ D, TabIn B w' { t with ents := (t.ents.set r x).take m, cols := D } ∧ (∀ (i : Nat) (d d' : CD), t.cols[i]? = some d → D[i]? = some d' → DropG r m i d d') ∧ Out t.foot w w' ∧
    ∀ b, TD.foot { t with ents := (t.ents.set r x).take m, cols := D } b → t.foot b ∨ w.heap.size ≤ b
section
variable {B : Nat} {w : World} {t : TD}
set_option maxRecDepth 100000 in
set_option maxHeartbeats 4000000 in
theorem tabDrop_ok (h : TabIn B w t) (r m : Nat) (hr : r ≤ m) (hm : t.ents.length = m + 1) (x : Int) (hx : t.ents[m]? = some x) :
    Calls Tryz.prog 164 #[.pointer (some ⟨t.tb, 0, none⟩), .int .i64 (r : Int)] w fun en w' => en = .returned (.tuple #[.int .u64 (if r = m then 0 else x), .int .i64 0]) ∧ Dropped B t r m x w w' := by
  have hc := tabAt_in h (r : Int)
  rw [if_pos ⟨by omega, by omega⟩] at hc
  have hroom := h.room
  have hm2 := h.most2
  have hn24 := h.n24
  have hlen := h.len
  have hmb : m < 256 := by omega
  have HC := Lib.hid hc
  have HH := Lib.hid h
  have HLEN := Lib.hid hlen
  have HM := Lib.hid hm
  have HXX := Lib.hid hx
  obtain ⟨c0, c1, c2, c3, c4, c5, c6, fz⟩ := h.cells
  rw [hm] at c5
  clear h hc hlen hm hx fz
  go_enter Tryz.func164, Tryz.ntmps164
  go_wp2_with fail
  refine HC.out.mono ?_
  rintro en w1 ⟨rfl, rfl⟩
  go_wp2_with fail
  clear c0 c1 c2 c3 c4 c5 c6
  obtain ⟨n, hn⟩ : ∃ n, t.cps.length = n := ⟨_, rfl⟩
  rw [hn] at hn24 ⊢
  have HN := Lib.hid hn
  clear hn
  go_loopw [28] (fun i wr => ∃ (k : Nat) (D : List CD), k ≤ n ∧ i = .int .i64 (k : Int) ∧ ColsS B w t (DropG r m) k D wr) (fun i _ => n - (intOf i).toNat)
  case atStart => exact ⟨0, t.cols, Nat.zero_le _, rfl, ColsS.start HH.out _⟩
  case round =>
    obtain ⟨k, D, hk, rfl, hst⟩ := hrel
    have HST := Lib.hid hst
    clear hst
    by_cases hlt : k < n
    · obtain ⟨x, hx⟩ : ∃ x, t.cps[k]? = some x := ⟨_, List.getElem?_eq_getElem (by have := HN.out; omega)⟩
      obtain ⟨d, hd⟩ : ∃ d, t.cols[k]? = some d := ⟨_, List.getElem?_eq_getElem (by have := HN.out; have := HLEN.out; omega)⟩
      obtain ⟨k1, k2, k3, k4⟩ := HH.out.col k x d hx hd
      obtain ⟨l, hl⟩ : ∃ l, d.rows[m]? = some l := ⟨_, List.getElem?_eq_getElem (by have := HM.out; omega)⟩
      have hM : ∀ b, t.cfoot b → Mut w b := fun b hb => HH.out.foot_mut (TabIn.cfoot_foot hb)
      have hcr := ownsRow_out HH.out.colsR HST.out.out (row_mut HH.out.colsR (.inr (.inl rfl)) hM)
      rw [HN.out] at hcr
      obtain ⟨q, hq, _, hql, hqc⟩ := row_block hcr (by omega)
      obtain ⟨g0, g1, g2, g3⟩ := colL_at t.cps hx
      have z0 := hqc _ _ g0
      have z1 := hqc _ _ g1
      have z2 := hqc _ _ g2
      have z3 := hqc _ _ g3
      rw [hq]
      have i1 : (0 : Int) ≤ (k : Int) := by omega
      have i2 : (k : Int) < (n : Int) := by omega
      have hsA := HST.out.below ((Below.refl _ wr).alloc (Nat.le_refl _) (.cells #[.int .i64 x.c.id, .string x.c.name, .slice x.fa x.fl x.fc, .pointer (some ⟨x.cb, 0, none⟩)] 258))
      have hcd := hsA.colsA k d ((hsA.rest k (Nat.le_refl _)).trans hd)
      have hsw := colSwap_any B _ d r m l hcd hr (by rw [k4, HM.out]) hl
      rw [k1] at hsw
      have HSW := Lib.hid hsw
      have HSA := Lib.hid hsA
      have HD := Lib.hid (And.intro hd (And.intro hl k1))
      clear hx hd k1 k2 k3 k4 hl hM hcr hqc g0 g1 g2 g3 hsA hcd hsw hq
      go_wp2_with fail
      refine HSW.out.mono ?_
      rintro en w8 ⟨rfl, gs8, hcol, hout, hfoot⟩
      have hst8 := HSA.out.step HD.out.1 hcol hout (fun b hb => .inl (hfoot b hb)) (show DropG r m k d _ from fun l' hl' => by
        rw [HD.out.2.1] at hl'
        cases hl'
        exact ⟨rfl, HD.out.2.2.symm, rfl, rfl⟩)
      have HST8 := Lib.hid hst8
      clear hcol hout hfoot hst8 HSW z0 z1 z2 z3
      go_wp2_with fail
      go_roundw
      case rel => exact ⟨k + 1, _, by omega, by go_num, HST8.out⟩
      case measure => simp [intOf]; omega
    · obtain rfl : k = n := by omega
      have hb0 := HST.out.out.keep HH.out.blk HH.out.cfoot_ne.1
      have he0 := ownsRow_out HH.out.entsR HST.out.out HH.out.cfoot_ne.2
      have c5 := cell_at hb0 5
      have f5 := free_at hb0 5
      simp at c5
      rw [HM.out] at c5 he0
      obtain ⟨q, hq, hset0, hfr, hql, hcap⟩ := ownsRow_set (r := r) (.int .u64 x) he0 (by omega)
      obtain ⟨q', hq', _, _, hqc⟩ := row_block he0 (by omega)
      have : q' = q := by rw [hq] at hq'; cases hq'; rfl
      subst this
      have z0 := hqc m (.int .u64 x) (by rw [List.getElem?_map, HXX.out]; rfl)
      rw [hq] at c5
      have i1 : (0 : Int) ≤ (m : Int) := by omega
      have i2 : (m : Int) < (m : Int) + 1 := by omega
      have i3 : (0 : Int) ≤ (r : Int) := by omega
      have i4 : (r : Int) < (m : Int) + 1 := by omega
      have i5 : (m : Int) ≤ (t.ec : Int) := by omega
      have hne : t.tb ≠ q' := fun e => by
        have h1 := ownsRow_ne_block3 he0 hb0 (fun cur he => by cases he)
        rw [hq] at h1
        exact h1 (by rw [e]; rfl)
      have hcr : ∃ y, wr.cell? ⟨q', r, none⟩ = some y := by
        obtain ⟨y, hy⟩ : ∃ y, t.ents[r]? = some y := ⟨_, List.getElem?_eq_getElem (by have := HM.out; omega)⟩
        exact ⟨_, hqc r (.int .u64 y) (by rw [List.getElem?_map, hy]; rfl)⟩
      obtain ⟨y, hy⟩ := hcr
      have hb1 := keepO (Only.at wr q' r (.int .u64 x)) hb0 hne
      have d5 := cell_at hb1 5
      have g5 := free_at hb1 5
      simp at d5
      rw [HM.out, hq] at d5
      have hzr := HST.out.out.size
      have hbt := lt_some hb0
      have HB0 := Lib.hid hb0
      have HB1 := Lib.hid hb1
      have HE0 := Lib.hid he0
      have HSET := Lib.hid hset0
      have HQ := Lib.hid hq
      have hlm : ((t.ents.set r x).take m).length = m := by rw [List.length_take, List.length_set]; have := HM.out; omega
      have hset1 := ownsRow_shrink hset0 (show m ≤ m + 1 by omega) (by omega)
      have hset2 := ownsRow_out hset1 (Out.only (F := fun b => b = t.tb) (Only.at (wr.setCell ⟨q', r, none⟩ (.int .u64 x)) t.tb 5 (.slice t.ea m t.ec)) rfl) (fun z hz he => by
        subst he
        exact ownsRow_ne_block3 hset1 hb1 (fun cur he => by cases he) hz.symm)
      have hblk2 := hset (wr.setCell ⟨q', r, none⟩ (.int .u64 x)) t.tb 5 (.slice t.ea m t.ec) _ _ _ hb1
      have hfin := HST.out.fin HH.out (by rw [HLEN.out, HN.out]) ((t.ents.set r x).take m) t.ea t.ec (w2 := (wr.setCell ⟨q', r, none⟩ (.int .u64 x)).setCell ⟨t.tb, 5, none⟩ (.slice t.ea m t.ec)) (by rw [hlm]; simpa using hblk2) (by rw [hlm, List.map_take, List.map_set]; exact hset2)
        ((Out.only (Only.at wr q' r (.int .u64 x)) (.inr (by rw [hq]; rfl))).trans (Out.only (F := fun b => b = t.tb) (Only.at (wr.setCell ⟨q', r, none⟩ (.int .u64 x)) t.tb 5 _) rfl) (fun z hz => .inl (.inl hz)))
        (fun b hb => .inl (by rw [hq] at hb ⊢; exact hb)) (fun i d d' hd hG => by
          have hxi : i < t.cps.length := by rw [← HLEN.out]; exact (List.getElem?_eq_some_iff.1 hd).1
          obtain ⟨x', hx'⟩ : ∃ x, t.cps[i]? = some x := ⟨_, List.getElem?_eq_getElem hxi⟩
          obtain ⟨k1, k2, k3, k4⟩ := HH.out.col i x' d hx' hd
          obtain ⟨l, hl⟩ : ∃ l, d.rows[m]? = some l := ⟨_, List.getElem?_eq_getElem (by have := HM.out; omega)⟩
          obtain ⟨g1, g2, g3, g4⟩ := hG l hl
          exact ⟨g2, g3, g4, by rw [g1, hlm, List.length_take, List.length_set, k4, HM.out]; omega⟩) (by rw [hlm]; have := HM.out; omega)
      have hput : ∀ (i : Nat) (d d' : CD), t.cols[i]? = some d → D[i]? = some d' → DropG r m i d d' := by
        intro i d d' hd hd'
        obtain ⟨d'', h1, h2⟩ := HST.out.done i d (by have := (List.getElem?_eq_some_iff.1 hd).1; have := HLEN.out; have := HN.out; omega) hd
        rw [h1] at hd'
        cases hd'
        exact h2
      have hdrop : Dropped B t r m x w ((wr.setCell ⟨q', r, none⟩ (.int .u64 x)).setCell ⟨t.tb, 5, none⟩ (.slice t.ea m t.ec)) := ⟨D, hfin.1, hput, hfin.2.1, hfin.2.2⟩
      rw [hq] at hdrop
      have HDROP := Lib.hid hdrop
      clear hb0 hb1 he0 hset0 hqc hq hq' hlm hset1 hset2 hblk2 hfin hput hdrop
      by_cases hrm : r = m
      · have e1 : ((r : Int) == (m : Int)) = true := by rw [hrm]; simp
        have HRM := Lib.hid hrm
        clear hrm
        go_wp2_with fail
        go_ret2
        have hd := HDROP.out
        rw [HRM.out] at hd
        exact ⟨ret_ui (by first | rfl | rw [if_pos HRM.out]) rfl, hd⟩
      · have e1 : ((r : Int) == (m : Int)) = false := by rw [beq_eq_false_iff_ne]; omega
        have HRM := Lib.hid hrm
        clear hrm
        go_wp2_with fail
        go_ret2
        exact ⟨ret_ui (by first | rfl | rw [if_neg HRM.out]) rfl, HDROP.out⟩
end
end Go.Proofs.YtnhlnnehpmjeiaaGreatDoor
namespace Go.Proofs.YtnhlnnehpmjeiaaGreatDoor
open Go.RowKit
set_option linter.unusedVariables false
theorem findC_id {i : Int} {c : Cmp} {cs : List Cmp} (h : findC i cs = some c) : c.id = i := by
  unfold findC at h
  have := List.find?_some h
  simpa using this
def newCD (most : Nat) (x : CV) : CD := ⟨(planSize x.c.fields).toNat, most, [], x.cb, none, 0, [], fun _ => 0⟩
theorem TabIn.of_new {w : World} {tb : Nat} {ver : Int} {cs : List Cmp} {set : Int} {most : Nat} (h : TableNew w tb ver cs set (most : Int)) (hok : tableOk ver cs set (most : Int) = true) (h0 : 0 ≤ set) (h1 : set ≤ 4294967295) :
    ∃ t : TD, TabIn tb w t ∧ t.tb = tb ∧ t.ver = ver ∧ t.set = set ∧ t.most = most ∧ t.kept = 0 ∧ t.ents = [] ∧ (idsTo set 24).map (findC · cs) = t.cs.map some := by
  obtain ⟨ca, cc, la, lc, cps, hh, he⟩ := h
  unfold tableOk at hok
  simp only [Bool.and_eq_true, decide_eq_true_eq, beq_iff_eq] at hok
  obtain ⟨⟨⟨⟨hsc, _⟩, hm1⟩, hm2⟩, _⟩ := hok
  have hlen : cps.length = (idsTo set 24).length := by have := congrArg List.length he; simpa using this.symm
  have h24 : cps.length ≤ 24 := by have := idsTo_len set 24; omega
  have hfind : ∀ x ∈ cps, ∃ i ∈ idsTo set 24, findC i cs = some x.c := by
    intro x hx
    have : some x.c ∈ (idsTo set 24).map (findC · cs) := by rw [he]; exact List.mem_map_of_mem (f := fun x : CV => some x.c) hx
    obtain ⟨i, hi, hic⟩ := List.mem_map.1 this
    exact ⟨i, hi, hic⟩
  have hlay : ∀ x ∈ cps, layCheck x.c.fields = 0 := by
    intro x hx
    obtain ⟨i, _, hi⟩ := hfind x hx
    exact schema_lay hsc _ (findC_mem hi)
  have hids : cps.map (·.c.id) = idsTo set 24 := by
    apply List.ext_getElem?
    intro k
    have hk := congrArg (fun l => l[k]?) he
    simp only [List.getElem?_map] at hk ⊢
    cases h1 : (idsTo set 24)[k]? with
    | none => rw [h1] at hk; cases h2 : cps[k]? with
      | none => rfl
      | some x => rw [h2] at hk; cases hk
    | some i =>
      rw [h1] at hk
      cases h2 : cps[k]? with
      | none => rw [h2] at hk; cases hk
      | some x =>
        rw [h2] at hk
        simp only [Option.map_some, Option.some.injEq] at hk ⊢
        exact findC_id hk
  have hcol : ∀ x ∈ cps, ColAt tb w (newCD most x) := by
    intro x hx
    obtain ⟨hf, hce⟩ := hh.good x hx
    have hl := hlay x hx
    obtain ⟨l8, la', l256⟩ := layCheck_zero hl
    obtain ⟨b0, _⟩ := planSize_bd l8 la'
    refine ⟨⟨?_, World.ownsRow_nil _ _ _ _, by have := hce.le; show tb ≤ x.cb; omega, by simp [newCD], by simp [newCD], by show (planSize x.c.fields).toNat ≤ 256; omega, by simp [newCD], by show most ≤ 65536; omega, by simp [newCD], by simp [newCD]⟩, by simp [newCD], by simp [newCD], by simp [newCD], by simp [newCD]⟩
    have := hce.blk
    show w.heap[x.cb]? = _
    rw [this]
    simp only [newCD, List.length_nil]
    rw [Int.toNat_of_nonneg b0]
    rfl
  have hfoot : ∀ (x : CV) (b : Nat), (newCD most x).foot b → b = x.cb := by
    intro x b hb
    rcases hb with hb | hb | hb
    · exact hb
    · cases hb
    · cases hb
  refine ⟨⟨tb, ver, set, most, 0, [], none, 0, ca, cc, la, lc, cps, cps.map (newCD most)⟩, ⟨hh.blk, ownsRow_mono hh.comps (by omega), ownsRow_mono hh.cols (by omega), fun x hx => ?_, World.ownsRow_nil _ _ _ _, Nat.le_refl _, by simp, fun i x d hx hd => ?_, fun d hd => ?_, fun i j d e hij hd he' b hb hb' => ?_, hlay, h24, by show 1 ≤ most; omega, by show most ≤ 256; omega, by simp, h0, h1, hids⟩, rfl, rfl, rfl, rfl, rfl, rfl, by simp only [TD.cs]; rw [he]; simp⟩
  · have hf := (hh.good x hx).1
    exact ⟨ownsRow_mono hf.row (by omega), hf.len, hf.max, hf.nil⟩
  · simp only [List.getElem?_map, Option.map_eq_some_iff] at hd
    obtain ⟨y, hy, rfl⟩ := hd
    have : y = x := by have h2 : cps[i]? = some x := hx; rw [h2] at hy; cases hy; rfl
    subst this
    exact ⟨rfl, rfl, rfl, rfl⟩
  · obtain ⟨x, hx, rfl⟩ := List.mem_map.1 hd
    exact hcol x hx
  · simp only [List.getElem?_map, Option.map_eq_some_iff] at hd he'
    obtain ⟨x, hx, rfl⟩ := hd
    obtain ⟨y, hy, rfl⟩ := he'
    have h3 := hfoot x b hb
    have h4 := hfoot y b hb'
    have hnd := hh.nodup
    have e1 : (cps.map (·.cb))[i]? = some b := by rw [List.getElem?_map, hx, h3]; rfl
    have e2 : (cps.map (·.cb))[j]? = some b := by rw [List.getElem?_map, hy, h4]; rfl
    exact hij (nodup_at hnd e1 e2)
end Go.Proofs.YtnhlnnehpmjeiaaGreatDoor
namespace Go.Proofs.YtnhlnnehpmjeiaaGreatDoor
open Go.RowKit
open Go.Maps (Keyed int_keyed keyOf_int_mk)
set_option linter.unusedVariables false
theorem own : ownKnob Tryz.prog.godebug = none := by kernel_rfl
theorem laidOut : laidOutB Tryz.prog = true := by kernel_rfl
theorem Tryz.law221 : Keyed Tryz.prog 221 := int_keyed Tryz.underlying221
theorem Tryz.zero3 (w : World) : (zeroValue 3).run Tryz.prog w = .ok (.int .i64 0) w := by kernel_rfl
def I64 (n : Int) : Prop := -9223372036854775808 ≤ n ∧ n ≤ 9223372036854775807
theorem wf_i64 {n : Int} (h : I64 n) : (Lit.int .i64 n).wf = true := WalkArith.wf_i64 h
set_option maxRecDepth 100000 in
theorem wf_u32 {n : Int} (h0 : 0 ≤ n) (h1 : n ≤ 4294967295) : (Lit.int .u32 n).wf = true := by
  simp [Lit.wf, IntKind.min, IntKind.max, IntKind.signed, IntKind.bits]; omega
def wayK (x : Int × Int × Bool) : Lit := .string (keyBytes [.int .i64 x.1, .int .i64 x.2.1, .bool x.2.2])
def WayWf (x : Int × Int × Bool) : Prop := I64 x.1 ∧ I64 x.2.1
/-- The first place of a set. -/
def posOf (s : Int) : List Int → Option Nat
  | [] => none
  | x :: r => if x = s then some 0 else (posOf s r).map (· + 1)
theorem posOf_get {s : Int} : ∀ {l : List Int} {i : Nat}, posOf s l = some i → l[i]? = some s
  | [], _, h => by cases h
  | x :: r, i, h => by
    unfold posOf at h
    split at h
    · rename_i hx
      cases h; simp [hx]
    · cases hp : posOf s r with
      | none => rw [hp] at h; cases h
      | some j =>
        rw [hp] at h; cases h
        simpa using posOf_get hp
theorem posOf_snoc (s x : Int) : ∀ l : List Int, posOf x (l ++ [s]) = match posOf x l with | some i => some i | none => if s = x then some l.length else none
  | [] => by simp [posOf]
  | y :: r => by
    simp only [List.cons_append, posOf]
    split
    · rfl
    · rw [posOf_snoc s x r]
      cases posOf x r with
      | some i => rfl
      | none =>
        simp only [Option.map_none]
        split <;> simp
/-- What a graph holds. -/
structure GS where
  ver : Int
  archs : Int
  rows : Int
  cs : List Cmp
  ts : List (Nat × Int)
  ways : Int × Int × Bool → Option Nat
  nw : Nat
def GS.sigs (g : GS) : List Int := g.ts.map (·.2)
def litN (o : Option Nat) : Option Lit := o.map fun i => .int .i64 i
/-- A table's block holds its set. -/
def SigAt (w : World) (tb : Nat) (set : Int) : Prop := ∃ cs : Array Value, w.heap[tb]? = some (.cells cs 254 (0, 0)) ∧ cs[2]? = some (.int .u32 set)
/-- A graph, in block gb; its schema lies below B1, all that is written from B1 on. -/
structure GraphAt (B1 gb : Nat) (g : GS) (w : World) (mb wb : Nat) (ca : Option Addr) (cl cc : Nat) (ta : Option Addr) (tc : Nat) (bs ws : Lit → Option Lit) : Prop where
  bg : B1 ≤ gb
  bm : B1 ≤ mb
  bw : B1 ≤ wb
  ne : mb ≠ wb
  blk : w.heap[gb]? = some (.cells #[.int .i64 g.ver, .slice ca cl cc, .int .i64 g.archs, .int .i64 g.rows, .slice ta g.ts.length tc, .map (some mb), .map (some wb)] 134 (0, 0))
  comps : CompsAt w.heap.size w ca cl g.cs
  cty : CompsTy w ca cl g.cs
  row : w.ownsRow B1 229 1 (.slice ta g.ts.length tc) g.ts.length (g.ts.map fun t => .pointer (some ⟨t.1, 0, none⟩))
  bySet : MapIs Tryz.prog w 221 3 mb g.ts.length bs
  byWay : MapIs Tryz.prog w 272 3 wb g.nw ws
  tab : ∀ t ∈ g.ts, SigAt w t.1 t.2 ∧ 0 ≤ t.2 ∧ t.2 ≤ 4294967295
  hbs : ∀ s : Int, bs (.int .u32 s) = litN (posOf s g.sigs)
  hws : ∀ x, WayWf x → ws (wayK x) = litN (g.ways x)
  wf : CompsWf g.cs ∧ (∀ c ∈ g.cs, c.fields.length ≤ 100000) ∧ 1 ≤ g.archs ∧ g.archs ≤ 64 ∧ (g.ts.length : Int) ≤ g.archs ∧ B1 ≤ w.heap.size ∧ g.nw ≤ 1000000
  wok : ∀ x n, g.ways x = some n → n < g.ts.length
  tlo : ∀ t ∈ g.ts, B1 ≤ t.1
  cn : (ca = none → cl = 0 ∧ cc = 0) ∧ cl ≤ 100000
def Graph (B1 gb : Nat) (g : GS) (mb wb : Nat) (ta : Option Addr) (tc : Nat) (w : World) : Prop := ∃ ca cl cc bs ws, GraphAt B1 gb g w mb wb ca cl cc ta tc bs ws
theorem ownsRow_hk {w w' : World} (hk : ∀ (b : Nat) (c : Array Value) (e : TypeId) (fz : Nat × Nat), w.heap[b]? = some (.cells c e fz) → e ≠ 134 → e ≠ 229 → w'.heap[b]? = some (.cells c e fz)) {b : Nat} {e : TypeId} {s : Nat} {v : Value} {n : Nat} {xs : List Value} (ho : w.ownsRow b e s v n xs) (h1 : e ≠ 134) (h2 : e ≠ 229) : w'.ownsRow b e s v n xs := by
  obtain ⟨hl, ho⟩ := ho
  refine ⟨hl, ?_⟩
  rcases ho with ho | ⟨g, cap, cur, hv, hg, hh, r⟩
  · exact .inl ho
  · exact .inr ⟨g, cap, cur, hv, hg, hk _ _ _ _ hh h1 h2, r⟩
theorem TableHas.kept {w w' : World} {b0 tb : Nat} {ver set most : Int} {ca : Option Addr} {cc : Nat} {la : Option Addr} {lc : Nat} {cps : List CV} (h : TableHas w b0 tb ver set most ca cc la lc cps) (hk : ∀ (b : Nat) (c : Array Value) (e : TypeId) (fz : Nat × Nat), w.heap[b]? = some (.cells c e fz) → e ≠ 134 → e ≠ 229 → w'.heap[b]? = some (.cells c e fz)) : TableHas w' b0 tb ver set most ca cc la lc cps :=
  ⟨hk _ _ _ _ h.blk (by decide) (by decide), ownsRow_hk hk h.comps (by decide) (by decide), ownsRow_hk hk h.cols (by decide) (by decide),
    fun x hx => ⟨⟨ownsRow_hk hk (h.good x hx).1.row (by decide) (by decide), (h.good x hx).1.len, (h.good x hx).1.max, (h.good x hx).1.nil⟩, ⟨(h.good x hx).2.le, hk _ _ _ _ (h.good x hx).2.blk (by decide) (by decide)⟩⟩, h.nodup⟩
theorem TableNew.kept {w w' : World} {tb : Nat} {ver : Int} {cs : List Cmp} {set most : Int} (h : TableNew w tb ver cs set most) (hk : ∀ (b : Nat) (c : Array Value) (e : TypeId) (fz : Nat × Nat), w.heap[b]? = some (.cells c e fz) → e ≠ 134 → e ≠ 229 → w'.heap[b]? = some (.cells c e fz)) : TableNew w' tb ver cs set most := by
  obtain ⟨ca, cc, la, lc, cps, h, hn⟩ := h
  exact ⟨ca, cc, la, lc, cps, h.kept hk, hn⟩
theorem TableNew.drewN {w : World} {tb : Nat} {ver : Int} {cs : List Cmp} {set most : Int} (h : TableNew w tb ver cs set most) (n : Nat) : TableNew (w.drewN n) tb ver cs set most := h.kept (fun _ _ _ _ hh _ _ => hh)
theorem TableNew.sigAt {w : World} {tb : Nat} {ver : Int} {cs : List Cmp} {set most : Int} (h : TableNew w tb ver cs set most) : SigAt w tb set := by
  obtain ⟨ca, cc, la, lc, cps, h, hn⟩ := h
  exact ⟨_, h.blk, rfl⟩
theorem SigAt.kept {w w' : World} {tb : Nat} {set : Int} (h : SigAt w tb set) (hk : ∀ (b : Nat) (c : Array Value) (e : TypeId) (fz : Nat × Nat), w.heap[b]? = some (.cells c e fz) → e ≠ 134 → e ≠ 229 → w'.heap[b]? = some (.cells c e fz)) : SigAt w' tb set := by
  obtain ⟨cs, h, h2⟩ := h
  exact ⟨cs, hk _ _ _ _ h (by decide) (by decide), h2⟩
theorem SigAt.drewN {w : World} {tb : Nat} {set : Int} (h : SigAt w tb set) (n : Nat) : SigAt (w.drewN n) tb set := h
theorem GraphAt.below {B1 gb : Nat} {g : GS} {w w' : World} {mb wb : Nat} {ca : Option Addr} {cl cc : Nat} {ta : Option Addr} {tc : Nat} {bs ws : Lit → Option Lit} (h : GraphAt B1 gb g w mb wb ca cl cc ta tc bs ws) (hb : Below w.heap.size w w') : GraphAt B1 gb g w' mb wb ca cl cc ta tc bs ws :=
  { h with
    blk := keep hb h.blk
    comps := (h.comps.below hb).mono hb.size
    cty := h.cty.hk (KeepsTy.of_below hb)
    row := ownsRow_below h.row hb
    bySet := h.bySet.below hb
    byWay := h.byWay.below hb
    tab := fun t ht => ⟨(h.tab t ht).1.kept (fun b c e fz hh _ _ => keep hb hh), (h.tab t ht).2⟩
    wf := ⟨h.wf.1, h.wf.2.1, h.wf.2.2.1, h.wf.2.2.2.1, h.wf.2.2.2.2.1, Nat.le_trans h.wf.2.2.2.2.2.1 hb.size, h.wf.2.2.2.2.2.2⟩ }
theorem Graph.below {B1 gb : Nat} {g : GS} {mb wb : Nat} {ta : Option Addr} {tc : Nat} {w w' : World} (h : Graph B1 gb g mb wb ta tc w) (hb : Below w.heap.size w w') : Graph B1 gb g mb wb ta tc w' := by
  obtain ⟨ca, cl, cc, bs, ws, h⟩ := h
  exact ⟨ca, cl, cc, bs, ws, h.below hb⟩
/-- The blocks that a graph's own deeds may change. -/
def gfoot (gb mb wb : Nat) (ta : Option Addr) (b : Nat) : Prop := b = gb ∨ b = mb ∨ b = wb ∨ (Value.slice ta 0 0).ownBlock = some b
/-- A graph's own deed: what stays; what it may change from now on. -/
def GOut (gb mb wb : Nat) (ta ta' : Option Addr) (w w' : World) : Prop := Out (gfoot gb mb wb ta) w w' ∧ ∀ b, gfoot gb mb wb ta' b → gfoot gb mb wb ta b ∨ w.heap.size ≤ b
theorem GOut.trans {gb mb wb : Nat} {ta tb tc : Option Addr} {a b c : World} (h : GOut gb mb wb ta tb a b) (k : GOut gb mb wb tb tc b c) : GOut gb mb wb ta tc a c := by
  refine ⟨h.1.trans k.1 h.2, fun x hx => ?_⟩
  rcases k.2 x hx with h1 | h1
  · exact h.2 x h1
  · exact .inr (Nat.le_trans h.1.size h1)
theorem GOut.of_below {gb mb wb : Nat} {ta : Option Addr} {w w' : World} (h : Below w.heap.size w w') : GOut gb mb wb ta ta w w' := ⟨Out.of h, fun _ => .inl⟩
theorem ownBlock_slice (ta : Option Addr) (n m n' m' : Nat) : (Value.slice ta n m).ownBlock = (Value.slice ta n' m').ownBlock := by cases ta <;> rfl
theorem len_any (B1 gb : Nat) (g : GS) (w : World) {mb wb : Nat} {ta : Option Addr} {tc : Nat} (h : Graph B1 gb g mb wb ta tc w) : Calls Tryz.prog 174 #[.pointer (some ⟨gb, 0, none⟩)] w fun e w' => e = .returned (.int .i64 g.ts.length) ∧ w = w' := by
  obtain ⟨ca, cl, cc, bs, ws, h⟩ := h
  have c4 := cell_at h.blk 4
  simp at c4
  have H := Lib.hid h
  clear h
  go_enter Tryz.func174, Tryz.ntmps174
  go_wp2_with fail
  go_returns
  exact ⟨rfl, rfl⟩
def posI (o : Option Nat) : Int := match o with | some i => i | none => 0
theorem intAt_litN (o : Option Nat) : intAt (litN o) = posI o := by cases o <;> rfl
theorem some_litN (o : Option Nat) : (litN o).isSome = o.isSome := by cases o <;> rfl
theorem gfind_any (B1 gb : Nat) (g : GS) (s : Int) (w : World) {mb wb : Nat} {ta : Option Addr} {tc : Nat} (h : Graph B1 gb g mb wb ta tc w) (h0 : 0 ≤ s) (h1 : s ≤ 4294967295) : Calls Tryz.prog 160 #[.pointer (some ⟨gb, 0, none⟩), .int .u32 s] w fun e w' => e = .returned (.tuple #[.int .i64 (posI (posOf s g.sigs)), .bool (posOf s g.sigs).isSome]) ∧ w = w' := by
  obtain ⟨ca, cl, cc, bs, ws, h⟩ := h
  have c4 := cell_at h.blk 5
  simp at c4
  have hl := h.bySet.look_ok_int Tryz.law221 Tryz.underlying130 Tryz.underlying3 Tryz.zero3 (keyOf_int_mk Tryz.underlying221 (wf_u32 h0 h1))
  rw [h.hbs, intAt_litN, some_litN] at hl
  have H := Lib.hid h
  clear h
  go_enter Tryz.func160, Tryz.ntmps160
  go_wp2_with fail
  go_returns
  exact ⟨rfl, rfl⟩
def tabPtr (g : GS) (i : Int) : Option Addr := if 0 ≤ i then (g.ts[i.toNat]?).map fun t => ⟨t.1, 0, none⟩ else none
theorem tabPtr_none {g : GS} {i : Int} (h : i < 0 ∨ (g.ts.length : Int) ≤ i) : tabPtr g i = none := by
  unfold tabPtr
  split
  · rw [List.getElem?_eq_none (by omega)]; rfl
  · rfl
theorem tabPtr_some {g : GS} {k : Nat} {t : Nat × Int} (h : g.ts[k]? = some t) : tabPtr g k = some ⟨t.1, 0, none⟩ := by
  unfold tabPtr
  rw [if_pos (by omega), Int.toNat_natCast, h]; rfl
theorem GraphAt.cell {B1 gb : Nat} {g : GS} {w : World} {mb wb : Nat} {ca : Option Addr} {cl cc : Nat} {ta : Option Addr} {tc : Nat} {bs ws : Lit → Option Lit} (h : GraphAt B1 gb g w mb wb ca cl cc ta tc bs ws) {k : Nat} {t : Nat × Int} (hk : g.ts[k]? = some t) :
    ∃ q, ta = some ⟨q, 0, none⟩ ∧ w.cell? ⟨q, k, none⟩ = some (.pointer (some ⟨t.1, 0, none⟩)) := by
  have hl := (List.getElem?_eq_some_iff.1 hk).1
  rcases h.row.2 with ⟨hv, h0'⟩ | ⟨q, cap', cur, hv, hg, hh, hc1, hc2, hc3, hc4⟩
  · omega
  · cases hv
    refine ⟨q, rfl, ?_⟩
    rw [cell_at hh]
    have hu : (g.ts.map fun t => Value.pointer (some ⟨t.1, 0, none⟩))[k]? = some (.pointer (some ⟨t.1, 0, none⟩)) := by rw [List.getElem?_map, hk]; rfl
    rw [← hc4, List.getElem?_take] at hu
    split at hu
    · simpa using hu
    · cases hu
theorem table_any (B1 gb : Nat) (g : GS) (i : Int) (w : World) {mb wb : Nat} {ta : Option Addr} {tc : Nat} (h : Graph B1 gb g mb wb ta tc w) : Calls Tryz.prog 154 #[.pointer (some ⟨gb, 0, none⟩), .int .i64 i] w fun e w' => e = .returned (.pointer (tabPtr g i)) ∧ w = w' := by
  have h' := h
  obtain ⟨ca, cl, cc, bs, ws, h⟩ := h
  have hlen : g.ts.length ≤ 64 := by have := h.wf; omega
  rcases (by omega : i < 0 ∨ (0 ≤ i ∧ (g.ts.length : Int) ≤ i) ∨ (0 ≤ i ∧ i < (g.ts.length : Int))) with hi | ⟨hi, hi'⟩ | ⟨hi, hi'⟩
  · have HT := Lib.hid (tabPtr_none (g := g) (i := i) (.inl hi))
    have H := Lib.hid h; clear h
    have H' := Lib.hid h'; clear h'
    go_enter Tryz.func154, Tryz.ntmps154
    go_wp2_with fail
    go_returns
    exact ⟨by rw [HT.out]; rfl, rfl⟩
  · have HT := Lib.hid (tabPtr_none (g := g) (i := i) (.inr hi'))
    have H := Lib.hid h; clear h
    have H' := Lib.hid h'; clear h'
    go_enter Tryz.func154, Tryz.ntmps154
    go_wp2_with fail
    refine (len_any B1 gb g _ H'.out).mono ?_
    rintro e w' ⟨rfl, rfl⟩
    go_wp2_with fail
    go_returns
    exact ⟨by rw [HT.out]; rfl, rfl⟩
  · obtain ⟨k, rfl⟩ := Int.eq_ofNat_of_zero_le hi
    obtain ⟨t, ht⟩ : ∃ t, g.ts[k]? = some t := ⟨_, List.getElem?_eq_getElem (by omega)⟩
    obtain ⟨q, rfl, hc⟩ := h.cell ht
    have HT := Lib.hid (tabPtr_some ht)
    have c4 := cell_at h.blk 4
    simp at c4
    have H := Lib.hid h; clear h
    have H' := Lib.hid h'; clear h' ht
    go_enter Tryz.func154, Tryz.ntmps154
    go_wp2_with fail
    refine (len_any B1 gb g _ H'.out).mono ?_
    rintro e w' ⟨rfl, rfl⟩
    go_wp2_with fail
    go_returns
    exact ⟨by rw [HT.out]; rfl, rfl⟩
theorem room_any (B1 gb : Nat) (g : GS) (w : World) {mb wb : Nat} {ta : Option Addr} {tc : Nat} (h : Graph B1 gb g mb wb ta tc w) : Calls Tryz.prog 192 #[.pointer (some ⟨gb, 0, none⟩)] w fun e w' => e = .returned (.int .i64 (g.archs - g.ts.length)) ∧ ∃ n, w' = w.drewN n := by
  obtain ⟨ca, cl, cc, bs, ws, h⟩ := h
  have c4 := cell_at h.blk 4
  have c2 := cell_at h.blk 2
  simp at c4 c2
  have hlen : g.ts.length ≤ 64 := by have := h.wf; omega
  have h1 := h.wf.2.2.1
  have h2 := h.wf.2.2.2.1
  have H := Lib.hid h; clear h
  go_enter Tryz.func192, Tryz.ntmps192
  go_wp2_with fail
  go_quiet (fail)
  go_wp2_with fail
  go_returns
  exact ⟨rfl, _, rfl⟩
end Go.Proofs.YtnhlnnehpmjeiaaGreatDoor
namespace Go.Proofs.YtnhlnnehpmjeiaaGreatDoor
open Go.RowKit
set_option linter.unusedVariables false
theorem sigs_get {g : GS} {k : Nat} {t : Nat × Int} (h : g.ts[k]? = some t) : g.sigs[k]? = some t.2 := by
  unfold GS.sigs; rw [List.getElem?_map, h]; rfl
def chkF (g : GS) (i c : Int) (b : Bool) : Int :=
  if i < 0 ∨ (g.ts.length : Int) ≤ i then 3 else if (findC c g.cs).isSome = false then 6 else if hasB (g.sigs.getD i.toNat 0) c = b then 7 else 0
end Go.Proofs.YtnhlnnehpmjeiaaGreatDoor
