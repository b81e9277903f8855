/- Contract of (*Graph).Make. · Contract of (*Graph).Step: the plain part. -/
import Derived.Test.YthmpknlgkflhiabGreatQ21
namespace Go.Proofs.YthmpknlgkflhiabGreat
open Go.RowKit
open Go.Maps (Keyed int_keyed keyOf_int_mk)
set_option linter.unusedVariables false
/-- What a method of the graph may turn: the graph's own block, its row of tables, its maps; nothing below B1. -/
def Turned (B1 : Nat) (w w' : World) : Prop :=
  Below B1 w w' ∧ ∀ (b : Nat) (c : Array Value) (e : TypeId) (fz : Nat × Nat), w.heap[b]? = some (.cells c e fz) → e ≠ 138 → e ≠ 89 → w'.heap[b]? = some (.cells c e fz)
theorem Turned.refl (B1 : Nat) (w : World) : Turned B1 w w := ⟨Below.refl _ _, fun _ _ _ _ h _ _ => h⟩
theorem Turned.trans {B1 : Nat} {a b c : World} (h : Turned B1 a b) (k : Turned B1 b c) : Turned B1 a c :=
  ⟨h.1.trans k.1, fun x y e fz hx h1 h2 => k.2 x y e fz (h.2 x y e fz hx h1 h2) h1 h2⟩
theorem Turned.of_below {B1 : Nat} {w w' : World} (h : Below w.heap.size w w') (hB : B1 ≤ w.heap.size) : Turned B1 w w' :=
  ⟨h.mono hB, fun b c e fz hb _ _ => keep h hb⟩
theorem Turned.row {B1 : Nat} {w w' : World} (h : Turned B1 w w') {b : Nat} {e : TypeId} {s : Nat} {v : Value} {n : Nat} {xs : List Value} (ho : w.ownsRow b e s v n xs) (h1 : e ≠ 138) (h2 : e ≠ 89) : w'.ownsRow b e s v n xs := by
  obtain ⟨hl, ho⟩ := ho
  refine ⟨hl, ?_⟩
  rcases ho with ho | ⟨g, cap, cur, hv, hg, hh, r⟩
  · exact .inl ho
  · exact .inr ⟨g, cap, cur, hv, hg, h.2 _ _ _ _ hh h1 h2, r⟩
theorem Turned.tab {B1 : Nat} {w w' : World} (h : Turned B1 w w') {tb : Nat} {set : Int} (ht : SigAt w tb set) : SigAt w' tb set :=
  ht.kept fun b c e fz hb h1 h2 => h.2 b c e fz hb h1 h2
theorem Turned.new {B1 : Nat} {w w' : World} (h : Turned B1 w w') {tb : Nat} {ver : Int} {cs : List Cmp} {set most : Int} (ht : TableNew w tb ver cs set most) : TableNew w' tb ver cs set most :=
  ht.kept fun b c e fz hb h1 h2 => h.2 b c e fz hb h1 h2
theorem Turned.ty {B1 : Nat} {w w' : World} (h : Turned B1 w w') : KeepsTy w w' := fun b c e fz hb he => h.2 b c e fz hb (by rcases he with rfl | rfl <;> decide) (by rcases he with rfl | rfl <;> decide)
def makeG (g : GS) (set : Int) (tb : Nat) : GS × Int × Int :=
  match posOf set g.sigs with
  | some i => (g, i, 0)
  | none => if tableOk g.ver g.cs set g.rows then (if g.archs = g.ts.length then (g, 0, 5) else ({ g with ts := g.ts ++ [(tb, set)] }, g.ts.length, 0)) else (g, 0, 6)
/-- Where a table has been made: how it lies. -/
def NewTab (g : GS) (set : Int) (tb : Nat) (w w' : World) : Prop := (makeG g set tb).1.ts = g.ts ++ [(tb, set)] → TableNew w' tb g.ver g.cs set g.rows ∧ w.heap.size ≤ tb ∧ tableOk g.ver g.cs set g.rows = true ∧ posOf set g.sigs = none
theorem newTab_old {g : GS} {set : Int} {tb : Nat} {w w' : World} (h : (makeG g set tb).1.ts = g.ts) : NewTab g set tb w w' := by
  intro e
  rw [h] at e
  have := congrArg List.length e
  simp at this
/-- The answer of 'Make'. -/
def IsMake (B1 gb : Nat) (g : GS) (mb wb : Nat) (ta : Option Addr) (set : Int) (w : World) (e : Ending) (w' : World) : Prop :=
  ∃ tb ta' tc', e = .returned (.tuple #[.int .i64 (makeG g set tb).2.1, .int .i64 (makeG g set tb).2.2]) ∧ Graph B1 gb (makeG g set tb).1 mb wb ta' tc' w' ∧ Turned B1 w w' ∧ GOut gb mb wb ta ta' w w' ∧ NewTab g set tb w w'
theorem tableNew_ok (ver : Int) (cs : List Cmp) (a : Option Addr) (len cap : Nat) (set most : Int) (w : World) (hcs : CompsAt w.heap.size w a len cs) (hw : CompsWf cs) (hf : ∀ c ∈ cs, c.fields.length ≤ 100000) (h0 : 0 ≤ set) (hs : set ≤ 4294967295) (hok : tableOk ver cs set most = true) :
    Calls Tryz.prog 104 #[.agg #[.int .i64 ver, .slice a len cap], .int .u32 set, .int .i64 most] w fun e w' => ∃ tb, e = .returned (.pointer (some ⟨tb, 0, none⟩)) ∧ TableNew w' tb ver cs set most ∧ w.heap.size ≤ tb ∧ Below w.heap.size w w' := by
  refine (tableNew_any ver cs a len cap set most w hcs hw hf h0 hs).mono ?_
  intro e w' h
  unfold IsTable at h
  rw [hok] at h
  obtain ⟨tb, he, hl, ht, hb⟩ := h
  exact ⟨tb, he, ht, hl, hb⟩
theorem tableNew_no (ver : Int) (cs : List Cmp) (a : Option Addr) (len cap : Nat) (set most : Int) (w : World) (hcs : CompsAt w.heap.size w a len cs) (hw : CompsWf cs) (hf : ∀ c ∈ cs, c.fields.length ≤ 100000) (h0 : 0 ≤ set) (hs : set ≤ 4294967295) (hok : tableOk ver cs set most = false) :
    Calls Tryz.prog 104 #[.agg #[.int .i64 ver, .slice a len cap], .int .u32 set, .int .i64 most] w fun e w' => e = .returned (.pointer none) ∧ Below w.heap.size w w' := by
  refine (tableNew_any ver cs a len cap set most w hcs hw hf h0 hs).mono ?_
  intro e w' h
  unfold IsTable at h
  rw [hok] at h
  exact h
theorem undrewG {w w' : World} {row : Option Nat} (h : w.drew.grownBy w' row) : w.grownBy w' row := ⟨h.os, h.tape, h.output, h.size, h.block⟩
section
variable {B1 gb : Nat} {g : GS} {W : World} {mb wb : Nat} {ca : Option Addr} {cl cc : Nat} {ta : Option Addr} {tc : Nat} {bs ws : Lit → Option Lit}
theorem GraphAt.mb_ne (h : GraphAt B1 gb g W mb wb ca cl cc ta tc bs ws) : mb ≠ gb ∧ wb ≠ gb := by
  obtain ⟨es, c, hm⟩ := h.bySet.obj
  obtain ⟨es', c', hw⟩ := h.byWay.obj
  have := h.blk
  constructor
  · intro e; subst e; rw [hm] at this; cases this
  · intro e; subst e; rw [hw] at this; cases this
/-- What Make leaves, when it has made a table. -/
theorem make_end (h : GraphAt B1 gb g W mb wb ca cl cc ta tc bs ws) {tb : Nat} {set : Int} (ht : SigAt W tb set) (h0 : 0 ≤ set) (h1 : set ≤ 4294967295) (hp : posOf set g.sigs = none) (hroom : (g.ts.length : Int) < g.archs) (hlo : B1 ≤ tb)
    {o : Obj} {w4 : World} {va : Option Addr} {vc : Nat} (hg4 : (W.alloc o).grownBy w4 (Value.slice ta g.ts.length tc).ownBlock)
    (ho4 : w4.ownsRow B1 89 1 (.slice va (g.ts.length + 1) vc) (g.ts.length + 1) ((g.ts.map fun t => .pointer (some ⟨t.1, 0, none⟩)) ++ [.pointer (some ⟨tb, 0, none⟩)]))
    (hva : ∀ b, (Value.slice va 0 0).ownBlock = some b → (Value.slice ta 0 0).ownBlock = some b ∨ W.heap.size ≤ b)
    {w6 : World} (hM : MapIs Tryz.prog w6 57 3 mb (g.ts.length + 1) (putF bs (.int .u32 set) (.int .i64 g.ts.length))) (hg6 : (w4.setCell ⟨gb, 4, none⟩ (.slice va (g.ts.length + 1) vc)).drew.grownBy w6 (some mb)) :
    Graph B1 gb { g with ts := g.ts ++ [(tb, set)] } mb wb va vc w6 ∧ Turned B1 W w6 ∧ GOut gb mb wb ta va W w6 := by
  have hg5 : (w4.setCell ⟨gb, 4, none⟩ (.slice va (g.ts.length + 1) vc)).grownBy w6 (some mb) := undrewG hg6
  have hrow : ∀ x, (Value.slice ta g.ts.length tc).ownBlock = some x → B1 ≤ x ∧ x < W.heap.size := h.row.lt
  obtain ⟨hmg, hwg⟩ := h.mb_ne
  have hBW := h.wf.2.2.2.2.2.1
  have hb4 : Below B1 W w4 := ((Below.refl B1 W).alloc hBW o).grown hg4 (by simp; omega) (fun x hx => (hrow x hx).1)
  have hb5 : Below B1 W (w4.setCell ⟨gb, 4, none⟩ (.slice va (g.ts.length + 1) vc)) := hb4.setCell h.bg _
  have hb6 : Below B1 W w6 := hb5.grown hg5 (by have := hb5.size; omega) (fun x hx => by cases hx; exact h.bm)
  have hT : Turned B1 W w6 := by
    refine ⟨hb6, fun b c e fz hb he1 he2 => ?_⟩
    have k1 : w4.heap[b]? = some (.cells c e fz) := keepG hg4 (keepA o hb) (ownsRow_ne_block h.row hb (fun cur hc => by cases hc; exact he2 rfl))
    have hbg : b ≠ gb := fun e' => by subst e'; have := h.blk; rw [hb] at this; cases this; exact he1 rfl
    have k2 := (hset_ne w4 ⟨gb, 4, none⟩ (.slice va (g.ts.length + 1) vc) b hbg).trans k1
    refine keepG hg5 k2 (fun e' => ?_)
    cases e'
    obtain ⟨es, cc', hm⟩ := h.bySet.obj
    rw [hm] at hb; cases hb
  have hO : GOut gb mb wb ta va W w6 := by
    have o1 : Out (gfoot gb mb wb ta) W (W.alloc o) := Out.of ((Below.refl _ _).alloc (Nat.le_refl _) o)
    have o2 : Out (gfoot gb mb wb ta) (W.alloc o) w4 := ⟨hg4.os, hg4.tape, hg4.output, hg4.size, fun i hi hn => hg4.block i hi (fun e => hn (.inr (.inr (.inr (by rw [ownBlock_slice ta 0 0 g.ts.length tc]; exact e.symm)))))⟩
    have o3 : Out (gfoot gb mb wb ta) w4 (w4.setCell ⟨gb, 4, none⟩ (.slice va (g.ts.length + 1) vc)) := Out.only (Only.at w4 gb 4 _) (.inl rfl)
    have o4 : Out (gfoot gb mb wb ta) (w4.setCell ⟨gb, 4, none⟩ (.slice va (g.ts.length + 1) vc)) w6 := ⟨hg5.os, hg5.tape, hg5.output, hg5.size, fun i hi hn => hg5.block i hi (fun e => hn (.inr (.inl (by cases e; rfl))))⟩
    refine ⟨((o1.trans o2 (fun _ => .inl)).trans o3 (fun _ => .inl)).trans o4 (fun _ => .inl), fun b hb => ?_⟩
    rcases hb with hb | hb | hb | hb
    · exact .inl (.inl hb)
    · exact .inl (.inr (.inl hb))
    · exact .inl (.inr (.inr (.inl hb)))
    · exact (hva b hb).elim (fun h => .inl (.inr (.inr (.inr h)))) .inr
  refine ⟨⟨ca, cl, cc, putF bs (.int .u32 set) (.int .i64 g.ts.length), ws, ?_⟩, hT, hO⟩
  have kg : w4.heap[gb]? = _ := keepG hg4 (keepA o h.blk) (ownsRow_ne_block h.row h.blk (fun cur hc => by cases hc))
  have kg5 := hset w4 gb 4 (.slice va (g.ts.length + 1) vc) _ _ _ kg
  have kg6 := keepG hg5 kg5 (by simpa using fun e => hmg e.symm)
  refine { bg := h.bg, bm := h.bm, bw := h.bw, ne := h.ne, blk := ?_, comps := (h.comps.ty h.cty hT.ty).mono hb6.size, cty := h.cty.hk hT.ty, row := ?_, bySet := ?_, byWay := ?_, tab := ?_, hbs := ?_, hws := h.hws, wf := ?_, wok := ?_, tlo := ?_, cn := h.cn }
  · simpa using kg6
  · have r5 : (w4.setCell ⟨gb, 4, none⟩ (.slice va (g.ts.length + 1) vc)).ownsRow B1 89 1 (.slice va (g.ts.length + 1) vc) (g.ts.length + 1) ((g.ts.map fun t => .pointer (some ⟨t.1, 0, none⟩)) ++ [.pointer (some ⟨tb, 0, none⟩)]) := by
      obtain ⟨hl, ho⟩ := ho4
      refine ⟨hl, ?_⟩
      rcases ho with ho | ⟨q, cap, cur, hv, hg, hh, r⟩
      · exact .inl ho
      · refine .inr ⟨q, cap, cur, hv, hg, ?_, r⟩
        rw [hset_ne _ _ _ _ (fun e => by simp at e; subst e; rw [kg] at hh; cases hh)]; exact hh
    have r6 := r5.kept hg5 (by
      obtain ⟨es, c', hm⟩ := h.bySet.obj
      rcases r5.2 with ⟨hv, _⟩ | ⟨q, cap, cur, hv, hg, hh, r⟩
      · rw [hv]; exact .inl rfl
      · rw [hv]
        refine .inr fun e => ?_
        simp [Value.ownBlock] at e
        subst e
        obtain ⟨es2, c2, hm2⟩ := hM.obj
        have hm4 : w4.heap[q]? = _ := keepG hg4 (keepA o hm) (ownsRow_ne_block h.row hm (fun cur hc => by cases hc))
        rw [hset_ne _ _ _ _ (by simpa using hmg), hm4] at hh
        cases hh)
    simpa using r6
  · simpa using hM
  · exact ((((h.byWay.alloc o).kept hg4 (by
      obtain ⟨es, c', hm⟩ := h.byWay.obj
      exact ownsRow_ne_block h.row hm (fun cur hc => by cases hc))).setCell (by simpa using hwg) _).kept hg5 (by simpa using h.ne.symm))
  · intro t htm
    rcases List.mem_append.1 htm with h' | h'
    · exact ⟨hT.tab (h.tab t h').1, (h.tab t h').2⟩
    · simp at h'
      subst h'
      exact ⟨hT.tab ht, h0, h1⟩
  · intro s
    show putF bs (.int .u32 set) (.int .i64 g.ts.length) (.int .u32 s) = litN (posOf s (List.map (·.2) (g.ts ++ [(tb, set)])))
    rw [List.map_append, show List.map (·.2) [(tb, set)] = [set] from rfl, posOf_snoc]
    by_cases hs : s = set
    · subst hs
      rw [putF_same, show posOf s (List.map (·.2) g.ts) = none from hp]
      simp [litN]
    · rw [putF_ne (by simpa using hs), h.hbs s]
      show litN (posOf s g.sigs) = litN (match posOf s (List.map (·.2) g.ts) with | some i => some i | none => if set = s then some (List.map (·.2) g.ts).length else none)
      have e : posOf s (List.map (·.2) g.ts) = posOf s g.sigs := rfl
      rw [e]
      cases posOf s g.sigs with
      | some i => rfl
      | none => simp [if_neg (fun (e : set = s) => hs e.symm)]
  · obtain ⟨a1, a2, a3, a4, a5, a6, a7⟩ := h.wf
    exact ⟨a1, a2, a3, a4, by simp; omega, by have := hb6.size; omega, a7⟩
  · intro x n hx
    have := h.wok x n hx
    simp; omega
  · intro t htm
    rcases List.mem_append.1 htm with h' | h'
    · exact h.tlo t h'
    · simp at h'
      subst h'
      exact hlo
end
theorem makeG_has {g : GS} {set : Int} {i : Nat} (h : posOf set g.sigs = some i) (tb : Nat) : makeG g set tb = (g, (i : Int), 0) := by unfold makeG; rw [h]
theorem makeG_no {g : GS} {set : Int} (h : posOf set g.sigs = none) (hk : tableOk g.ver g.cs set g.rows = false) (tb : Nat) : makeG g set tb = (g, 0, 6) := by unfold makeG; rw [h, hk]; rfl
theorem makeG_full {g : GS} {set : Int} (h : posOf set g.sigs = none) (hk : tableOk g.ver g.cs set g.rows = true) (hf : g.archs = g.ts.length) (tb : Nat) : makeG g set tb = (g, 0, 5) := by unfold makeG; rw [h, hk]; simp [hf]
theorem makeG_new {g : GS} {set : Int} (h : posOf set g.sigs = none) (hk : tableOk g.ver g.cs set g.rows = true) (hf : g.archs ≠ g.ts.length) (tb : Nat) : makeG g set tb = ({ g with ts := g.ts ++ [(tb, set)] }, (g.ts.length : Int), 0) := by unfold makeG; rw [h, hk]; simp [hf]
theorem Tryz.info89 : (Tryz.prog.info? 89).map (fun i => (i.zero, i.size, i.bytes)) = some (some (.pointer none), 1, 8) := by kernel_rfl
set_option maxRecDepth 100000 in
set_option maxHeartbeats 4000000 in
theorem make_any (B1 gb : Nat) (g : GS) (set : Int) (w : World) {mb wb : Nat} {ta : Option Addr} {tc : Nat} (hG : Graph B1 gb g mb wb ta tc w) (h0 : 0 ≤ set) (h1 : set ≤ 4294967295) : Calls Tryz.prog 62 #[.pointer (some ⟨gb, 0, none⟩), .int .u32 set] w (IsMake B1 gb g mb wb ta set w) := by
  obtain ⟨i0, hi, hz0, hz1, hz2⟩ := info_parts Tryz.info89
  have HG := Lib.hid hG
  clear hG
  have hBw : B1 ≤ w.heap.size := by obtain ⟨ca, cl, cc, bs, ws, h⟩ := HG.out; exact h.wf.2.2.2.2.2.1
  go_enter Tryz.func62, Tryz.ntmps62
  go_wp2_with fail
  refine (gfind_any B1 gb g set _ HG.out h0 h1).mono ?_
  rintro e w' ⟨rfl, rfl⟩
  cases hp : posOf set g.sigs with
  | some i =>
    have HP := Lib.hid (makeG_has hp 0)
    clear hp
    go_wp2_with fail
    go_returns
    exact ⟨0, _, _, by rw [HP.out]; rfl, by rw [HP.out]; exact HG.out, Turned.refl _ _, GOut.of_below (Below.refl _ _), newTab_old (by rw [HP.out])⟩
  | none =>
    have HPN := Lib.hid hp
    clear hp
    obtain ⟨ca, cl, cc, bs, ws, h⟩ := HG.out
    have c0 := cell_at h.blk 0
    have c1 := cell_at h.blk 1
    have c3 := cell_at h.blk 3
    simp at c0 c1 c3
    have hcW : CompsAt w.drew.heap.size w.drew ca cl g.cs := h.comps
    have HC := Lib.hid hcW
    have H := Lib.hid h
    clear h hcW
    go_upto_region 6 with (fail)
    go_cut [8] (fun s8 wx => Below w.heap.size w wx ∧ if tableOk g.ver g.cs set g.rows then ∃ tb, s8 = .pointer (some ⟨tb, 0, none⟩) ∧ TableNew wx tb g.ver g.cs set g.rows ∧ w.heap.size ≤ tb else s8 = .pointer none)
    case first =>
      cases hok : tableOk g.ver g.cs set g.rows
      · have HOK := Lib.hid hok
        clear hok
        go_region_held3 (fun w' => w'.cell? ⟨gb, 0, none⟩ = some (.int .i64 g.ver) ∧ w'.cell? ⟨gb, 1, none⟩ = some (.slice ca cl cc) ∧ w'.cell? ⟨gb, 3, none⟩ = some (.int .i64 g.rows))
          (first | go_keep | (refine ⟨?_, ?_, ?_⟩; (rw [cell_at (keep hbf H.out.blk)]; rfl); (rw [cell_at (keep hbf H.out.blk)]; rfl); (rw [cell_at (keep hbf H.out.blk)]; rfl)))
          (first | (go_at_call 104; refine (tableNew_no _ _ _ _ _ _ _ _ HC.out H.out.wf.1 H.out.wf.2.1 h0 h1 HOK.out).mono ?_; rintro e wf ⟨rfl, hbf⟩))
        all_goals
          go_wp2_with fail
          go_meet
          exact ⟨undrew hbf, by rw [HOK.out]; rfl⟩
      · have HOK := Lib.hid hok
        clear hok
        go_region_held3 (fun w' => w'.cell? ⟨gb, 0, none⟩ = some (.int .i64 g.ver) ∧ w'.cell? ⟨gb, 1, none⟩ = some (.slice ca cl cc) ∧ w'.cell? ⟨gb, 3, none⟩ = some (.int .i64 g.rows))
          (first | go_keep | (refine ⟨?_, ?_, ?_⟩; (rw [cell_at (keep hbf H.out.blk)]; rfl); (rw [cell_at (keep hbf H.out.blk)]; rfl); (rw [cell_at (keep hbf H.out.blk)]; rfl)))
          (first | (go_at_call 104; refine (tableNew_ok _ _ _ _ _ _ _ _ HC.out H.out.wf.1 H.out.wf.2.1 h0 h1 HOK.out).mono ?_; rintro e wf ⟨tb, rfl, htb, hlt, hbf⟩))
        all_goals
          go_wp2_with fail
          go_meet
          exact ⟨undrew hbf, by rw [HOK.out]; exact ⟨tb, rfl, htb, hlt⟩⟩
    case rest =>
      obtain ⟨hbc, hs8⟩ := hcut
      have HGc := Lib.hid (HG.out.below hbc)
      cases hok : tableOk g.ver g.cs set g.rows
      · rw [hok] at hs8
        subst hs8
        have HP := Lib.hid (makeG_no HPN.out hok 0)
        clear hok
        go_wp2_with fail
        go_returns
        exact ⟨0, _, _, by rw [HP.out]; rfl, by rw [HP.out]; exact HGc.out, Turned.of_below hbc hBw, GOut.of_below hbc, newTab_old (by rw [HP.out])⟩
      · rw [hok] at hs8
        obtain ⟨tb, rfl, htb, hlo⟩ := hs8
        have HLO : Hid (B1 ≤ tb) := Lib.hid (Nat.le_trans hBw hlo)
        have HLW : Hid (w.heap.size ≤ tb) := Lib.hid hlo
        clear hlo
        have HOK := Lib.hid hok
        clear hok
        go_wp2_with fail
        refine (room_any B1 gb g _ HGc.out).mono ?_
        rintro e wq ⟨rfl, nq, rfl⟩
        have hGW := HGc.out.below (below_drewN (Below.refl _ _) nq)
        have htW : TableNew (wc.drewN nq) tb g.ver g.cs set g.rows := htb.drewN _
        have hbW : Below w.heap.size w (wc.drewN nq) := below_drewN hbc nq
        generalize wc.drewN nq = W at hGW htW hbW ⊢
        clear htb hbc H HC c0 c1 c3
        have HGW := Lib.hid hGW
        obtain ⟨ca, cl, cc, bs, ws, h⟩ := hGW
        have hlen : g.ts.length ≤ 64 := by have := h.wf; omega
        have hroom' := h.wf.2.2.2.2.1
        by_cases hfull : g.archs = g.ts.length
        · have HP := Lib.hid (makeG_full HPN.out HOK.out hfull 0)
          have e1 : (g.archs - (g.ts.length : Int) == 0) = true := by simp; omega
          clear hfull h hroom'
          go_wp2_with fail
          go_returns
          exact ⟨0, _, _, by rw [HP.out]; rfl, by rw [HP.out]; exact HGW.out, Turned.of_below hbW hBw, GOut.of_below hbW, newTab_old (by rw [HP.out])⟩
        · have HP := Lib.hid (makeG_new HPN.out HOK.out hfull tb)
          have e1 : (g.archs - (g.ts.length : Int) == 0) = false := by simp; omega
          have hroom : (g.ts.length : Int) < g.archs := by omega
          have HR := Lib.hid hroom
          have c4 := cell_at h.blk 4
          simp at c4
          have hBW := h.wf.2.2.2.2.2.1
          have hownA : (W.alloc (.cells #[.pointer (some ⟨tb, 0, none⟩)] 89)).ownsRow B1 89 1 (.slice ta g.ts.length tc) g.ts.length (g.ts.map fun t => .pointer (some ⟨t.1, 0, none⟩)) := h.row.alloc _
          have H := Lib.hid h
          have h1c : ∀ u ∈ ([.pointer (some ⟨tb, 0, none⟩)] : List Value), u.oneCell' = true := by intro u hu; simp at hu; subst hu; rfl
          clear hfull h hroom hroom'
          go_wp2_with (at_builtin; refine wpList_append_lies _ rfl (.tmp 40) (.tmp 42) 136 rfl B1 89 i0 (.pointer none) 1 8 Tryz.underlying136 hi hz0 hz1 hz2 rfl (by decide) (.slice ta g.ts.length tc) g.ts.length (g.ts.map fun t => .pointer (some ⟨t.1, 0, none⟩)) rfl hownA ⟨W.heap.size, 0, none⟩ 1 1 [.pointer (some ⟨tb, 0, none⟩)] rfl rfl (cell_one_new _ _ _) h1c (by decide) (by unfold maxLen; omega) (by omega) (by simp; omega) (W.heap.size + 1) (by simp) ?_)
          intro gq vc w4 hown4 hg4 hat4 _
          have hva : ∀ b, (Value.slice (some ⟨gq, 0, none⟩) 0 0).ownBlock = some b → (Value.slice ta 0 0).ownBlock = some b ∨ W.heap.size ≤ b := by
            intro b hb
            obtain rfl : gq = b := by simpa [Value.ownBlock] using hb
            rcases hat4 with h4 | h4
            · exact .inl ((ownBlock_slice ta 0 0 g.ts.length tc).trans h4)
            · exact .inr (by omega)
          have HVA := Lib.hid hva
          clear hva hownA hat4
          have kg := keepG hg4 (keepA _ H.out.blk) (ownsRow_ne_block H.out.row H.out.blk (fun cur hc => by cases hc))
          have d4 := cell_at kg 4
          have f4 := free_at kg 4
          simp at d4
          have kg5 := hset w4 gb 4 (.slice (some ⟨gq, 0, none⟩) (g.ts.length + 1) vc) _ _ _ kg
          have s4 := cell_at kg5 4
          have s5 := cell_at kg5 5
          simp at s4 s5
          obtain ⟨hmg, hwg⟩ := H.out.mb_ne
          have hM5 : MapIs Tryz.prog (w4.setCell ⟨gb, 4, none⟩ (.slice (some ⟨gq, 0, none⟩) (g.ts.length + 1) vc)).drew 57 3 mb g.ts.length bs :=
            ((H.out.bySet.alloc _).kept hg4 (by
              obtain ⟨es, c', hm⟩ := H.out.bySet.obj
              exact ownsRow_ne_block H.out.row hm (fun cur hc => by cases hc))).setCell (by simpa using hmg) _
          have hnone : bs (.int .u32 set) = none := by rw [H.out.hbs, HPN.out]; rfl
          have hwv : (Lit.int .i64 (g.ts.length : Int)).wf = true := wf_i64 ⟨by omega, by omega⟩
          obtain ⟨w6, hup, hM6, hg6, hz6, _⟩ := hM5.store Tryz.law57 Tryz.underlying134 (by unfold maxLen; omega) (keyOf_int_mk Tryz.underlying57 (wf_u32 h0 h1)) (plainElem_int Tryz.underlying3 hwv)
          rw [hnone] at hM6
          have HTN := Lib.hid htW
          have HE := Lib.hid (make_end H.out htW.sigAt h0 h1 HPN.out HR.out HLO.out hg4 hown4 HVA.out (by simpa using hM6) hg6)
          have kg6 := keepG (undrewG hg6) kg5 (by simpa using fun e => hmg e.symm)
          have r4 := cell_at kg6 4
          simp at r4
          clear hM5 hnone hwv hM6 hg6 kg kg5 kg6 hg4 hown4 htW
          go_wp2_with fail
          go_region
          all_goals
            go_wp2_with fail
            go_returns
            exact ⟨tb, _, _, by rw [HP.out]; rfl, by rw [HP.out]; exact HE.out.1, (Turned.of_below hbW hBw).trans HE.out.2.1, (GOut.of_below hbW).trans HE.out.2.2, fun _ => ⟨HE.out.2.1.new HTN.out, HLW.out, HOK.out, HPN.out⟩⟩
end Go.Proofs.YthmpknlgkflhiabGreat
namespace Go.Proofs.YthmpknlgkflhiabGreat
open Go.RowKit
open Go.Maps (Keyed int_keyed keyOf_int_mk)
set_option linter.unusedVariables false
def putW (f : Int × Int × Bool → Option Nat) (x : Int × Int × Bool) (n : Nat) : Int × Int × Bool → Option Nat := fun y => if y = x then some n else f y
def stepSet (g : GS) (i c : Int) (b : Bool) : Int := if b then sWith (sWithout (g.sigs.getD i.toNat 0) c) c else sWithout (g.sigs.getD i.toNat 0) c
def stepG (g : GS) (i c : Int) (b : Bool) (tb : Nat) : GS × Int × Int :=
 if chkF g i c b ≠ 0 then (g, 0, chkF g i c b) else
 match g.ways (i, c, b) with
 | some n => (g, (n : Int), 0)
 | none =>
  if (makeG g (stepSet g i c b) tb).2.2 ≠ 0 then (g, 0, (makeG g (stepSet g i c b) tb).2.2) else
   ({ (makeG g (stepSet g i c b) tb).1 with
     ways := putW (putW g.ways (i, c, b) (makeG g (stepSet g i c b) tb).2.1.toNat) ((makeG g (stepSet g i c b) tb).2.1, c, !b) i.toNat
     nw := g.nw + 1 + if (g.ways ((makeG g (stepSet g i c b) tb).2.1, c, !b)).isSome then 0 else 1 }, (makeG g (stepSet g i c b) tb).2.1, 0)
def NewStep (g : GS) (i c : Int) (b : Bool) (tb : Nat) (w w' : World) : Prop := (stepG g i c b tb).1.ts = g.ts ++ [(tb, stepSet g i c b)] → TableNew w' tb g.ver g.cs (stepSet g i c b) g.rows ∧ w.heap.size ≤ tb ∧ tableOk g.ver g.cs (stepSet g i c b) g.rows = true ∧ posOf (stepSet g i c b) g.sigs = none
theorem newStep_old {g : GS} {i c : Int} {b : Bool} {tb : Nat} {w w' : World} (h : (stepG g i c b tb).1.ts = g.ts) : NewStep g i c b tb w w' := by
 intro e
 rw [h] at e
 have := congrArg List.length e
 simp at this
def IsStep (B1 gb : Nat) (g : GS) (mb wb : Nat) (ta : Option Addr) (i c : Int) (b : Bool) (w : World) (e : Ending) (w' : World) : Prop :=
 ∃ tb ta' tc', e = .returned (.tuple #[.int .i64 (stepG g i c b tb).2.1, .int .i64 (stepG g i c b tb).2.2]) ∧ Graph B1 gb (stepG g i c b tb).1 mb wb ta' tc' w' ∧ Turned B1 w w' ∧ GOut gb mb wb ta ta' w w' ∧ NewStep g i c b tb w w'
theorem makeG_ok {g : GS} {set : Int} {tb : Nat} (h : (makeG g set tb).2.2 = 0) :
  ∃ n : Nat, (makeG g set tb).2.1 = n ∧ n < (makeG g set tb).1.ts.length ∧ (makeG g set tb).1.ways = g.ways ∧ (makeG g set tb).1.nw = g.nw ∧ (makeG g set tb).1.cs = g.cs ∧ (makeG g set tb).1.sigs[n]? = some set ∧ g.ts.length ≤ (makeG g set tb).1.ts.length := by
 unfold makeG at h ⊢
 cases hp : posOf set g.sigs with
 | some i =>
  rw [hp] at h
  simp only
  have hg := posOf_get hp
  refine ⟨i, rfl, ?_, trivial, trivial, trivial, hg, Nat.le_refl _⟩
  have := (List.getElem?_eq_some_iff.1 hg).1
  simpa [GS.sigs] using this
 | none =>
  rw [hp] at h
  simp only at h ⊢
  split at h
  ·rename_i h1
   rw [if_pos h1]
   split at h
   ·simp at h
   ·rename_i h2
    rw [if_neg h2]
    refine ⟨g.ts.length, rfl, by simp, rfl, rfl, rfl, ?_, by simp⟩
    simp [GS.sigs]
  ·simp at h
theorem makeG_err {g : GS} {set : Int} {tb : Nat} (h : (makeG g set tb).2.2 ≠ 0) : (makeG g set tb).1 = g := by
 unfold makeG at h ⊢
 cases hp : posOf set g.sigs with
 | some i => rfl
 | none =>
  rw [hp] at h
  simp only at h ⊢
  split
  ·rename_i h1
   rw [if_pos h1] at h
   split
   ·rfl
   ·rename_i h2
    rw [if_neg h2] at h
    simp at h
  ·rfl
section
variable {B1 gb : Nat} {g : GS} {W : World} {mb wb : Nat} {ca : Option Addr} {cl cc : Nat} {ta : Option Addr} {tc : Nat} {bs ws : Lit → Option Lit}
theorem way_put (h : GraphAt B1 gb g W mb wb ca cl cc ta tc bs ws) {x : Int × Int × Bool} (hx : WayWf x) {n : Nat} (hn : n < g.ts.length) {cnt : Nat} (hcnt : cnt ≤ 1000000) {w' : World}
  (hM : MapIs Tryz.prog w' 212 3 wb cnt (putF ws (wayK x) (.int .i64 n))) (hg : W.grownBy w' (some wb)) :
  GraphAt B1 gb { g with ways := putW g.ways x n, nw := cnt } w' mb wb ca cl cc ta tc bs (putF ws (wayK x) (.int .i64 n)) ∧ Turned B1 W w' ∧ GOut gb mb wb ta ta W w' := by
 have hBW := h.wf.2.2.2.2.2.1
 have hb : Below B1 W w' := (Below.refl B1 W).grown hg hBW (fun y hy => by cases hy; exact h.bw)
 obtain ⟨es, c', hm⟩ := h.byWay.obj
 have hT : Turned B1 W w' := by
  refine ⟨hb, fun b c e fz hb' he1 he2 => keepG hg hb' (fun e' => ?_)⟩
  cases e'
  rw [hm] at hb'; cases hb'
 refine ⟨{ bg := h.bg, bm := h.bm, bw := h.bw, ne := h.ne, blk := ?_, comps := (h.comps.ty h.cty hT.ty).mono hb.size, cty := h.cty.hk hT.ty, row := ?_, bySet := ?_, byWay := hM, tab := fun t ht => ⟨hT.tab (h.tab t ht).1, (h.tab t ht).2⟩, hbs := h.hbs, hws := ?_, wf := ?_, wok := ?_, tlo := h.tlo, cn := h.cn }, hT, ⟨hg.os, hg.tape, hg.output, hg.size, fun k hk hn => hg.block k hk (fun e => hn (.inr (.inr (.inl (by cases e; rfl)))))⟩, fun b h => .inl h⟩
 ·exact keepG hg h.blk (by simpa using fun e => h.mb_ne.2 e.symm)
 ·exact h.row.kept hg (by
   rcases h.row.2 with ⟨hv, _⟩ | ⟨q, cap, cur, hv, hg', hh, r⟩
   ·rw [hv]; exact .inl rfl
   ·rw [hv]
    refine .inr fun e => ?_
    simp [Value.ownBlock] at e
    subst e
    rw [hm] at hh; cases hh)
 ·exact h.bySet.kept hg (by simpa using h.ne)
 ·intro y hy
  show putF ws (wayK x) (.int .i64 n) (wayK y) = litN (putW g.ways x n y)
  by_cases e : y = x
  ·subst e; rw [putF_same]; simp [putW, litN]
  ·rw [putF_ne (fun e' => e (wayK_inj hy hx e')), h.hws y hy]; simp [putW, e]
 ·obtain ⟨a1, a2, a3, a4, a5, a6, a7⟩ := h.wf
  exact ⟨a1, a2, a3, a4, a5, by have := hb.size; omega, hcnt⟩
 ·intro y m hy
  simp only [putW] at hy
  split at hy
  ·cases hy; exact hn
  ·exact h.wok y m hy
end
end Go.Proofs.YthmpknlgkflhiabGreat
