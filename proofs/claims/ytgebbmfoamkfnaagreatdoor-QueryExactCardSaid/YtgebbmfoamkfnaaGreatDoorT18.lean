/- Contract of (*Graph).Make. · Contract of (*Graph).Step: the plain part. · Contract of (*Graph).Step: the walk. · Contract of graph.New. · column.Clone with rows. -/
import Derived.Test.YtgebbmfoamkfnaaGreatDoorT17
import Derived.Laws.BitsAllLaws
import Derived.Test.YtgebbmfoamkfnaaGreatDoorT11
import Derived.Test.YtgebbmfoamkfnaaGreatDoorT13
import Derived.Test.YtgebbmfoamkfnaaGreatDoorT3
namespace Go.Proofs.YtgebbmfoamkfnaaGreatDoor
open Go.RowKit
open Go.Maps (Keyed int_keyed keyOf_int_mk)
set_option linter.unusedVariables false
/-- What a method of the graph may turn: the graph's own block, its row of tables, its maps; nothing below B1. -/
def Turned (B1 : Nat) (w w' : World) : Prop :=
  Below B1 w w' ∧ ∀ (b : Nat) (c : Array Value) (e : TypeId) (fz : Nat × Nat), w.heap[b]? = some (.cells c e fz) → e ≠ 167 → e ≠ 118 → w'.heap[b]? = some (.cells c e fz)
theorem Turned.refl (B1 : Nat) (w : World) : Turned B1 w w := ⟨Below.refl _ _, fun _ _ _ _ h _ _ => h⟩
theorem Turned.trans {B1 : Nat} {a b c : World} (h : Turned B1 a b) (k : Turned B1 b c) : Turned B1 a c :=
  ⟨h.1.trans k.1, fun x y e fz hx h1 h2 => k.2 x y e fz (h.2 x y e fz hx h1 h2) h1 h2⟩
theorem Turned.of_below {B1 : Nat} {w w' : World} (h : Below w.heap.size w w') (hB : B1 ≤ w.heap.size) : Turned B1 w w' :=
  ⟨h.mono hB, fun b c e fz hb _ _ => keep h hb⟩
theorem Turned.row {B1 : Nat} {w w' : World} (h : Turned B1 w w') {b : Nat} {e : TypeId} {s : Nat} {v : Value} {n : Nat} {xs : List Value} (ho : w.ownsRow b e s v n xs) (h1 : e ≠ 167) (h2 : e ≠ 118) : w'.ownsRow b e s v n xs := by
  obtain ⟨hl, ho⟩ := ho
  refine ⟨hl, ?_⟩
  rcases ho with ho | ⟨g, cap, cur, hv, hg, hh, r⟩
  · exact .inl ho
  · exact .inr ⟨g, cap, cur, hv, hg, h.2 _ _ _ _ hh h1 h2, r⟩
theorem Turned.tab {B1 : Nat} {w w' : World} (h : Turned B1 w w') {tb : Nat} {set : Int} (ht : SigAt w tb set) : SigAt w' tb set :=
  ht.kept fun b c e fz hb h1 h2 => h.2 b c e fz hb h1 h2
theorem Turned.new {B1 : Nat} {w w' : World} (h : Turned B1 w w') {tb : Nat} {ver : Int} {cs : List Cmp} {set most : Int} (ht : TableNew w tb ver cs set most) : TableNew w' tb ver cs set most :=
  ht.kept fun b c e fz hb h1 h2 => h.2 b c e fz hb h1 h2
theorem Turned.ty {B1 : Nat} {w w' : World} (h : Turned B1 w w') : KeepsTy w w' := fun b c e fz hb he => h.2 b c e fz hb (by rcases he with rfl | rfl <;> decide) (by rcases he with rfl | rfl <;> decide)
def makeG (g : GS) (set : Int) (tb : Nat) : GS × Int × Int :=
  match posOf set g.sigs with
  | some i => (g, i, 0)
  | none => if tableOk g.ver g.cs set g.rows then (if g.archs = g.ts.length then (g, 0, 5) else ({ g with ts := g.ts ++ [(tb, set)] }, g.ts.length, 0)) else (g, 0, 6)
/-- Where a table has been made: how it lies. -/
def NewTab (g : GS) (set : Int) (tb : Nat) (w w' : World) : Prop := (makeG g set tb).1.ts = g.ts ++ [(tb, set)] → TableNew w' tb g.ver g.cs set g.rows ∧ w.heap.size ≤ tb ∧ tableOk g.ver g.cs set g.rows = true ∧ posOf set g.sigs = none
theorem newTab_old {g : GS} {set : Int} {tb : Nat} {w w' : World} (h : (makeG g set tb).1.ts = g.ts) : NewTab g set tb w w' := by
  intro e
  rw [h] at e
  have := congrArg List.length e
  simp at this
/-- The answer of 'Make'. -/
def IsMake (B1 gb : Nat) (g : GS) (mb wb : Nat) (ta : Option Addr) (set : Int) (w : World) (e : Ending) (w' : World) : Prop :=
  ∃ tb ta' tc', e = .returned (.tuple #[.int .i64 (makeG g set tb).2.1, .int .i64 (makeG g set tb).2.2]) ∧ Graph B1 gb (makeG g set tb).1 mb wb ta' tc' w' ∧ Turned B1 w w' ∧ GOut gb mb wb ta ta' w w' ∧ NewTab g set tb w w'
theorem tableNew_ok (ver : Int) (cs : List Cmp) (a : Option Addr) (len cap : Nat) (set most : Int) (w : World) (hcs : CompsAt w.heap.size w a len cs) (hw : CompsWf cs) (hf : ∀ c ∈ cs, c.fields.length ≤ 100000) (h0 : 0 ≤ set) (hs : set ≤ 4294967295) (hok : tableOk ver cs set most = true) :
    Calls Tryz.prog 117 #[.agg #[.int .i64 ver, .slice a len cap], .int .u32 set, .int .i64 most] w fun e w' => ∃ tb, e = .returned (.pointer (some ⟨tb, 0, none⟩)) ∧ TableNew w' tb ver cs set most ∧ w.heap.size ≤ tb ∧ Below w.heap.size w w' := by
  refine (tableNew_any ver cs a len cap set most w hcs hw hf h0 hs).mono ?_
  intro e w' h
  unfold IsTable at h
  rw [hok] at h
  obtain ⟨tb, he, hl, ht, hb⟩ := h
  exact ⟨tb, he, ht, hl, hb⟩
theorem tableNew_no (ver : Int) (cs : List Cmp) (a : Option Addr) (len cap : Nat) (set most : Int) (w : World) (hcs : CompsAt w.heap.size w a len cs) (hw : CompsWf cs) (hf : ∀ c ∈ cs, c.fields.length ≤ 100000) (h0 : 0 ≤ set) (hs : set ≤ 4294967295) (hok : tableOk ver cs set most = false) :
    Calls Tryz.prog 117 #[.agg #[.int .i64 ver, .slice a len cap], .int .u32 set, .int .i64 most] w fun e w' => e = .returned (.pointer none) ∧ Below w.heap.size w w' := by
  refine (tableNew_any ver cs a len cap set most w hcs hw hf h0 hs).mono ?_
  intro e w' h
  unfold IsTable at h
  rw [hok] at h
  exact h
theorem undrewG {w w' : World} {row : Option Nat} (h : w.drew.grownBy w' row) : w.grownBy w' row := ⟨h.os, h.tape, h.output, h.size, h.block⟩
section
variable {B1 gb : Nat} {g : GS} {W : World} {mb wb : Nat} {ca : Option Addr} {cl cc : Nat} {ta : Option Addr} {tc : Nat} {bs ws : Lit → Option Lit}
theorem GraphAt.mb_ne (h : GraphAt B1 gb g W mb wb ca cl cc ta tc bs ws) : mb ≠ gb ∧ wb ≠ gb := by
  obtain ⟨es, c, hm⟩ := h.bySet.obj
  obtain ⟨es', c', hw⟩ := h.byWay.obj
  have := h.blk
  constructor
  · intro e; subst e; rw [hm] at this; cases this
  · intro e; subst e; rw [hw] at this; cases this
/-- What Make leaves, when it has made a table. -/
theorem make_end (h : GraphAt B1 gb g W mb wb ca cl cc ta tc bs ws) {tb : Nat} {set : Int} (ht : SigAt W tb set) (h0 : 0 ≤ set) (h1 : set ≤ 4294967295) (hp : posOf set g.sigs = none) (hroom : (g.ts.length : Int) < g.archs) (hlo : B1 ≤ tb)
    {o : Obj} {w4 : World} {va : Option Addr} {vc : Nat} (hg4 : (W.alloc o).grownBy w4 (Value.slice ta g.ts.length tc).ownBlock)
    (ho4 : w4.ownsRow B1 118 1 (.slice va (g.ts.length + 1) vc) (g.ts.length + 1) ((g.ts.map fun t => .pointer (some ⟨t.1, 0, none⟩)) ++ [.pointer (some ⟨tb, 0, none⟩)]))
    (hva : ∀ b, (Value.slice va 0 0).ownBlock = some b → (Value.slice ta 0 0).ownBlock = some b ∨ W.heap.size ≤ b)
    {w6 : World} (hM : MapIs Tryz.prog w6 28 3 mb (g.ts.length + 1) (putF bs (.int .u32 set) (.int .i64 g.ts.length))) (hg6 : (w4.setCell ⟨gb, 4, none⟩ (.slice va (g.ts.length + 1) vc)).drew.grownBy w6 (some mb)) :
    Graph B1 gb { g with ts := g.ts ++ [(tb, set)] } mb wb va vc w6 ∧ Turned B1 W w6 ∧ GOut gb mb wb ta va W w6 := by
  have hg5 : (w4.setCell ⟨gb, 4, none⟩ (.slice va (g.ts.length + 1) vc)).grownBy w6 (some mb) := undrewG hg6
  have hrow : ∀ x, (Value.slice ta g.ts.length tc).ownBlock = some x → B1 ≤ x ∧ x < W.heap.size := h.row.lt
  obtain ⟨hmg, hwg⟩ := h.mb_ne
  have hBW := h.wf.2.2.2.2.2.1
  have hb4 : Below B1 W w4 := ((Below.refl B1 W).alloc hBW o).grown hg4 (by simp; omega) (fun x hx => (hrow x hx).1)
  have hb5 : Below B1 W (w4.setCell ⟨gb, 4, none⟩ (.slice va (g.ts.length + 1) vc)) := hb4.setCell h.bg _
  have hb6 : Below B1 W w6 := hb5.grown hg5 (by have := hb5.size; omega) (fun x hx => by cases hx; exact h.bm)
  have hT : Turned B1 W w6 := by
    refine ⟨hb6, fun b c e fz hb he1 he2 => ?_⟩
    have k1 : w4.heap[b]? = some (.cells c e fz) := keepG hg4 (keepA o hb) (ownsRow_ne_block h.row hb (fun cur hc => by cases hc; exact he2 rfl))
    have hbg : b ≠ gb := fun e' => by subst e'; have := h.blk; rw [hb] at this; cases this; exact he1 rfl
    have k2 := (hset_ne w4 ⟨gb, 4, none⟩ (.slice va (g.ts.length + 1) vc) b hbg).trans k1
    refine keepG hg5 k2 (fun e' => ?_)
    cases e'
    obtain ⟨es, cc', hm⟩ := h.bySet.obj
    rw [hm] at hb; cases hb
  have hO : GOut gb mb wb ta va W w6 := by
    have o1 : Out (gfoot gb mb wb ta) W (W.alloc o) := Out.of ((Below.refl _ _).alloc (Nat.le_refl _) o)
    have o2 : Out (gfoot gb mb wb ta) (W.alloc o) w4 := ⟨hg4.os, hg4.tape, hg4.output, hg4.size, fun i hi hn => hg4.block i hi (fun e => hn (.inr (.inr (.inr (by rw [ownBlock_slice ta 0 0 g.ts.length tc]; exact e.symm)))))⟩
    have o3 : Out (gfoot gb mb wb ta) w4 (w4.setCell ⟨gb, 4, none⟩ (.slice va (g.ts.length + 1) vc)) := Out.only (Only.at w4 gb 4 _) (.inl rfl)
    have o4 : Out (gfoot gb mb wb ta) (w4.setCell ⟨gb, 4, none⟩ (.slice va (g.ts.length + 1) vc)) w6 := ⟨hg5.os, hg5.tape, hg5.output, hg5.size, fun i hi hn => hg5.block i hi (fun e => hn (.inr (.inl (by cases e; rfl))))⟩
    refine ⟨((o1.trans o2 (fun _ => .inl)).trans o3 (fun _ => .inl)).trans o4 (fun _ => .inl), fun b hb => ?_⟩
    rcases hb with hb | hb | hb | hb
    · exact .inl (.inl hb)
    · exact .inl (.inr (.inl hb))
    · exact .inl (.inr (.inr (.inl hb)))
    · exact (hva b hb).elim (fun h => .inl (.inr (.inr (.inr h)))) .inr
  refine ⟨⟨ca, cl, cc, putF bs (.int .u32 set) (.int .i64 g.ts.length), ws, ?_⟩, hT, hO⟩
  have kg : w4.heap[gb]? = _ := keepG hg4 (keepA o h.blk) (ownsRow_ne_block h.row h.blk (fun cur hc => by cases hc))
  have kg5 := hset w4 gb 4 (.slice va (g.ts.length + 1) vc) _ _ _ kg
  have kg6 := keepG hg5 kg5 (by simpa using fun e => hmg e.symm)
  refine { bg := h.bg, bm := h.bm, bw := h.bw, ne := h.ne, blk := ?_, comps := (h.comps.ty h.cty hT.ty).mono hb6.size, cty := h.cty.hk hT.ty, row := ?_, bySet := ?_, byWay := ?_, tab := ?_, hbs := ?_, hws := h.hws, wf := ?_, wok := ?_, tlo := ?_, cn := h.cn }
  · simpa using kg6
  · have r5 : (w4.setCell ⟨gb, 4, none⟩ (.slice va (g.ts.length + 1) vc)).ownsRow B1 118 1 (.slice va (g.ts.length + 1) vc) (g.ts.length + 1) ((g.ts.map fun t => .pointer (some ⟨t.1, 0, none⟩)) ++ [.pointer (some ⟨tb, 0, none⟩)]) := by
      obtain ⟨hl, ho⟩ := ho4
      refine ⟨hl, ?_⟩
      rcases ho with ho | ⟨q, cap, cur, hv, hg, hh, r⟩
      · exact .inl ho
      · refine .inr ⟨q, cap, cur, hv, hg, ?_, r⟩
        rw [hset_ne _ _ _ _ (fun e => by simp at e; subst e; rw [kg] at hh; cases hh)]; exact hh
    have r6 := r5.kept hg5 (by
      obtain ⟨es, c', hm⟩ := h.bySet.obj
      rcases r5.2 with ⟨hv, _⟩ | ⟨q, cap, cur, hv, hg, hh, r⟩
      · rw [hv]; exact .inl rfl
      · rw [hv]
        refine .inr fun e => ?_
        simp [Value.ownBlock] at e
        subst e
        obtain ⟨es2, c2, hm2⟩ := hM.obj
        have hm4 : w4.heap[q]? = _ := keepG hg4 (keepA o hm) (ownsRow_ne_block h.row hm (fun cur hc => by cases hc))
        rw [hset_ne _ _ _ _ (by simpa using hmg), hm4] at hh
        cases hh)
    simpa using r6
  · simpa using hM
  · exact ((((h.byWay.alloc o).kept hg4 (by
      obtain ⟨es, c', hm⟩ := h.byWay.obj
      exact ownsRow_ne_block h.row hm (fun cur hc => by cases hc))).setCell (by simpa using hwg) _).kept hg5 (by simpa using h.ne.symm))
  · intro t htm
    rcases List.mem_append.1 htm with h' | h'
    · exact ⟨hT.tab (h.tab t h').1, (h.tab t h').2⟩
    · simp at h'
      subst h'
      exact ⟨hT.tab ht, h0, h1⟩
  · intro s
    show putF bs (.int .u32 set) (.int .i64 g.ts.length) (.int .u32 s) = litN (posOf s (List.map (·.2) (g.ts ++ [(tb, set)])))
    rw [List.map_append, show List.map (·.2) [(tb, set)] = [set] from rfl, posOf_snoc]
    by_cases hs : s = set
    · subst hs
      rw [putF_same, show posOf s (List.map (·.2) g.ts) = none from hp]
      simp [litN]
    · rw [putF_ne (by simpa using hs), h.hbs s]
      show litN (posOf s g.sigs) = litN (match posOf s (List.map (·.2) g.ts) with | some i => some i | none => if set = s then some (List.map (·.2) g.ts).length else none)
      have e : posOf s (List.map (·.2) g.ts) = posOf s g.sigs := rfl
      rw [e]
      cases posOf s g.sigs with
      | some i => rfl
      | none => simp [if_neg (fun (e : set = s) => hs e.symm)]
  · obtain ⟨a1, a2, a3, a4, a5, a6, a7⟩ := h.wf
    exact ⟨a1, a2, a3, a4, by simp; omega, by have := hb6.size; omega, a7⟩
  · intro x n hx
    have := h.wok x n hx
    simp; omega
  · intro t htm
    rcases List.mem_append.1 htm with h' | h'
    · exact h.tlo t h'
    · simp at h'
      subst h'
      exact hlo
end
theorem makeG_has {g : GS} {set : Int} {i : Nat} (h : posOf set g.sigs = some i) (tb : Nat) : makeG g set tb = (g, (i : Int), 0) := by unfold makeG; rw [h]
theorem makeG_no {g : GS} {set : Int} (h : posOf set g.sigs = none) (hk : tableOk g.ver g.cs set g.rows = false) (tb : Nat) : makeG g set tb = (g, 0, 6) := by unfold makeG; rw [h, hk]; rfl
theorem makeG_full {g : GS} {set : Int} (h : posOf set g.sigs = none) (hk : tableOk g.ver g.cs set g.rows = true) (hf : g.archs = g.ts.length) (tb : Nat) : makeG g set tb = (g, 0, 5) := by unfold makeG; rw [h, hk]; simp [hf]
theorem makeG_new {g : GS} {set : Int} (h : posOf set g.sigs = none) (hk : tableOk g.ver g.cs set g.rows = true) (hf : g.archs ≠ g.ts.length) (tb : Nat) : makeG g set tb = ({ g with ts := g.ts ++ [(tb, set)] }, (g.ts.length : Int), 0) := by unfold makeG; rw [h, hk]; simp [hf]
theorem Tryz.info118 : (Tryz.prog.info? 118).map (fun i => (i.zero, i.size, i.bytes)) = some (some (.pointer none), 1, 8) := by kernel_rfl
set_option maxRecDepth 100000 in
set_option maxHeartbeats 4000000 in
theorem make_any (B1 gb : Nat) (g : GS) (set : Int) (w : World) {mb wb : Nat} {ta : Option Addr} {tc : Nat} (hG : Graph B1 gb g mb wb ta tc w) (h0 : 0 ≤ set) (h1 : set ≤ 4294967295) : Calls Tryz.prog 87 #[.pointer (some ⟨gb, 0, none⟩), .int .u32 set] w (IsMake B1 gb g mb wb ta set w) := by
  obtain ⟨i0, hi, hz0, hz1, hz2⟩ := info_parts Tryz.info118
  have HG := Lib.hid hG
  clear hG
  have hBw : B1 ≤ w.heap.size := by obtain ⟨ca, cl, cc, bs, ws, h⟩ := HG.out; exact h.wf.2.2.2.2.2.1
  go_enter Tryz.func87, Tryz.ntmps87
  go_wp2_with fail
  refine (gfind_any B1 gb g set _ HG.out h0 h1).mono ?_
  rintro e w' ⟨rfl, rfl⟩
  cases hp : posOf set g.sigs with
  | some i =>
    have HP := Lib.hid (makeG_has hp 0)
    clear hp
    go_wp2_with fail
    go_returns
    exact ⟨0, _, _, by rw [HP.out]; rfl, by rw [HP.out]; exact HG.out, Turned.refl _ _, GOut.of_below (Below.refl _ _), newTab_old (by rw [HP.out])⟩
  | none =>
    have HPN := Lib.hid hp
    clear hp
    obtain ⟨ca, cl, cc, bs, ws, h⟩ := HG.out
    have c0 := cell_at h.blk 0
    have c1 := cell_at h.blk 1
    have c3 := cell_at h.blk 3
    simp at c0 c1 c3
    have hcW : CompsAt w.drew.heap.size w.drew ca cl g.cs := h.comps
    have HC := Lib.hid hcW
    have H := Lib.hid h
    clear h hcW
    go_upto_region 6 with (fail)
    go_cut [8] (fun s8 wx => Below w.heap.size w wx ∧ if tableOk g.ver g.cs set g.rows then ∃ tb, s8 = .pointer (some ⟨tb, 0, none⟩) ∧ TableNew wx tb g.ver g.cs set g.rows ∧ w.heap.size ≤ tb else s8 = .pointer none)
    case first =>
      cases hok : tableOk g.ver g.cs set g.rows
      · have HOK := Lib.hid hok
        clear hok
        go_region_held3 (fun w' => w'.cell? ⟨gb, 0, none⟩ = some (.int .i64 g.ver) ∧ w'.cell? ⟨gb, 1, none⟩ = some (.slice ca cl cc) ∧ w'.cell? ⟨gb, 3, none⟩ = some (.int .i64 g.rows))
          (first | go_keep | (refine ⟨?_, ?_, ?_⟩; (rw [cell_at (keep hbf H.out.blk)]; rfl); (rw [cell_at (keep hbf H.out.blk)]; rfl); (rw [cell_at (keep hbf H.out.blk)]; rfl)))
          (first | (go_at_call 117; refine (tableNew_no _ _ _ _ _ _ _ _ HC.out H.out.wf.1 H.out.wf.2.1 h0 h1 HOK.out).mono ?_; rintro e wf ⟨rfl, hbf⟩))
        all_goals
          go_wp2_with fail
          go_meet
          exact ⟨undrew hbf, by rw [HOK.out]; rfl⟩
      · have HOK := Lib.hid hok
        clear hok
        go_region_held3 (fun w' => w'.cell? ⟨gb, 0, none⟩ = some (.int .i64 g.ver) ∧ w'.cell? ⟨gb, 1, none⟩ = some (.slice ca cl cc) ∧ w'.cell? ⟨gb, 3, none⟩ = some (.int .i64 g.rows))
          (first | go_keep | (refine ⟨?_, ?_, ?_⟩; (rw [cell_at (keep hbf H.out.blk)]; rfl); (rw [cell_at (keep hbf H.out.blk)]; rfl); (rw [cell_at (keep hbf H.out.blk)]; rfl)))
          (first | (go_at_call 117; refine (tableNew_ok _ _ _ _ _ _ _ _ HC.out H.out.wf.1 H.out.wf.2.1 h0 h1 HOK.out).mono ?_; rintro e wf ⟨tb, rfl, htb, hlt, hbf⟩))
        all_goals
          go_wp2_with fail
          go_meet
          exact ⟨undrew hbf, by rw [HOK.out]; exact ⟨tb, rfl, htb, hlt⟩⟩
    case rest =>
      obtain ⟨hbc, hs8⟩ := hcut
      have HGc := Lib.hid (HG.out.below hbc)
      cases hok : tableOk g.ver g.cs set g.rows
      · rw [hok] at hs8
        subst hs8
        have HP := Lib.hid (makeG_no HPN.out hok 0)
        clear hok
        go_wp2_with fail
        go_returns
        exact ⟨0, _, _, by rw [HP.out]; rfl, by rw [HP.out]; exact HGc.out, Turned.of_below hbc hBw, GOut.of_below hbc, newTab_old (by rw [HP.out])⟩
      · rw [hok] at hs8
        obtain ⟨tb, rfl, htb, hlo⟩ := hs8
        have HLO : Hid (B1 ≤ tb) := Lib.hid (Nat.le_trans hBw hlo)
        have HLW : Hid (w.heap.size ≤ tb) := Lib.hid hlo
        clear hlo
        have HOK := Lib.hid hok
        clear hok
        go_wp2_with fail
        refine (room_any B1 gb g _ HGc.out).mono ?_
        rintro e wq ⟨rfl, nq, rfl⟩
        have hGW := HGc.out.below (below_drewN (Below.refl _ _) nq)
        have htW : TableNew (wc.drewN nq) tb g.ver g.cs set g.rows := htb.drewN _
        have hbW : Below w.heap.size w (wc.drewN nq) := below_drewN hbc nq
        generalize wc.drewN nq = W at hGW htW hbW ⊢
        clear htb hbc H HC c0 c1 c3
        have HGW := Lib.hid hGW
        obtain ⟨ca, cl, cc, bs, ws, h⟩ := hGW
        have hlen : g.ts.length ≤ 64 := by have := h.wf; omega
        have hroom' := h.wf.2.2.2.2.1
        by_cases hfull : g.archs = g.ts.length
        · have HP := Lib.hid (makeG_full HPN.out HOK.out hfull 0)
          have e1 : (g.archs - (g.ts.length : Int) == 0) = true := by simp; omega
          clear hfull h hroom'
          go_wp2_with fail
          go_returns
          exact ⟨0, _, _, by rw [HP.out]; rfl, by rw [HP.out]; exact HGW.out, Turned.of_below hbW hBw, GOut.of_below hbW, newTab_old (by rw [HP.out])⟩
        · have HP := Lib.hid (makeG_new HPN.out HOK.out hfull tb)
          have e1 : (g.archs - (g.ts.length : Int) == 0) = false := by simp; omega
          have hroom : (g.ts.length : Int) < g.archs := by omega
          have HR := Lib.hid hroom
          have c4 := cell_at h.blk 4
          simp at c4
          have hBW := h.wf.2.2.2.2.2.1
          have hownA : (W.alloc (.cells #[.pointer (some ⟨tb, 0, none⟩)] 118)).ownsRow B1 118 1 (.slice ta g.ts.length tc) g.ts.length (g.ts.map fun t => .pointer (some ⟨t.1, 0, none⟩)) := h.row.alloc _
          have H := Lib.hid h
          have h1c : ∀ u ∈ ([.pointer (some ⟨tb, 0, none⟩)] : List Value), u.oneCell' = true := by intro u hu; simp at hu; subst hu; rfl
          clear hfull h hroom hroom'
          go_wp2_with (at_builtin; refine wpList_append_lies _ rfl (.tmp 40) (.tmp 42) 165 rfl B1 118 i0 (.pointer none) 1 8 Tryz.underlying165 hi hz0 hz1 hz2 rfl (by decide) (.slice ta g.ts.length tc) g.ts.length (g.ts.map fun t => .pointer (some ⟨t.1, 0, none⟩)) rfl hownA ⟨W.heap.size, 0, none⟩ 1 1 [.pointer (some ⟨tb, 0, none⟩)] rfl rfl (cell_one_new _ _ _) h1c (by decide) (by unfold maxLen; omega) (by omega) (by simp; omega) (W.heap.size + 1) (by simp) ?_)
          intro gq vc w4 hown4 hg4 hat4 _
          have hva : ∀ b, (Value.slice (some ⟨gq, 0, none⟩) 0 0).ownBlock = some b → (Value.slice ta 0 0).ownBlock = some b ∨ W.heap.size ≤ b := by
            intro b hb
            obtain rfl : gq = b := by simpa [Value.ownBlock] using hb
            rcases hat4 with h4 | h4
            · exact .inl ((ownBlock_slice ta 0 0 g.ts.length tc).trans h4)
            · exact .inr (by omega)
          have HVA := Lib.hid hva
          clear hva hownA hat4
          have kg := keepG hg4 (keepA _ H.out.blk) (ownsRow_ne_block H.out.row H.out.blk (fun cur hc => by cases hc))
          have d4 := cell_at kg 4
          have f4 := free_at kg 4
          simp at d4
          have kg5 := hset w4 gb 4 (.slice (some ⟨gq, 0, none⟩) (g.ts.length + 1) vc) _ _ _ kg
          have s4 := cell_at kg5 4
          have s5 := cell_at kg5 5
          simp at s4 s5
          obtain ⟨hmg, hwg⟩ := H.out.mb_ne
          have hM5 : MapIs Tryz.prog (w4.setCell ⟨gb, 4, none⟩ (.slice (some ⟨gq, 0, none⟩) (g.ts.length + 1) vc)).drew 28 3 mb g.ts.length bs :=
            ((H.out.bySet.alloc _).kept hg4 (by
              obtain ⟨es, c', hm⟩ := H.out.bySet.obj
              exact ownsRow_ne_block H.out.row hm (fun cur hc => by cases hc))).setCell (by simpa using hmg) _
          have hnone : bs (.int .u32 set) = none := by rw [H.out.hbs, HPN.out]; rfl
          have hwv : (Lit.int .i64 (g.ts.length : Int)).wf = true := wf_i64 ⟨by omega, by omega⟩
          obtain ⟨w6, hup, hM6, hg6, hz6, _⟩ := hM5.store Tryz.law28 Tryz.underlying163 (by unfold maxLen; omega) (keyOf_int_mk Tryz.underlying28 (wf_u32 h0 h1)) (plainElem_int Tryz.underlying3 hwv)
          rw [hnone] at hM6
          have HTN := Lib.hid htW
          have HE := Lib.hid (make_end H.out htW.sigAt h0 h1 HPN.out HR.out HLO.out hg4 hown4 HVA.out (by simpa using hM6) hg6)
          have kg6 := keepG (undrewG hg6) kg5 (by simpa using fun e => hmg e.symm)
          have r4 := cell_at kg6 4
          simp at r4
          clear hM5 hnone hwv hM6 hg6 kg kg5 kg6 hg4 hown4 htW
          go_wp2_with fail
          go_region
          all_goals
            go_wp2_with fail
            go_returns
            exact ⟨tb, _, _, by rw [HP.out]; rfl, by rw [HP.out]; exact HE.out.1, (Turned.of_below hbW hBw).trans HE.out.2.1, (GOut.of_below hbW).trans HE.out.2.2, fun _ => ⟨HE.out.2.1.new HTN.out, HLW.out, HOK.out, HPN.out⟩⟩
end Go.Proofs.YtgebbmfoamkfnaaGreatDoor
namespace Go.Proofs.YtgebbmfoamkfnaaGreatDoor
open Go.RowKit
open Go.Maps (Keyed int_keyed keyOf_int_mk)
set_option linter.unusedVariables false
def putW (f : Int × Int × Bool → Option Nat) (x : Int × Int × Bool) (n : Nat) : Int × Int × Bool → Option Nat := fun y => if y = x then some n else f y
def stepSet (g : GS) (i c : Int) (b : Bool) : Int := if b then sWith (sWithout (g.sigs.getD i.toNat 0) c) c else sWithout (g.sigs.getD i.toNat 0) c
def stepG (g : GS) (i c : Int) (b : Bool) (tb : Nat) : GS × Int × Int :=
 if chkF g i c b ≠ 0 then (g, 0, chkF g i c b) else
 match g.ways (i, c, b) with
 | some n => (g, (n : Int), 0)
 | none =>
  if (makeG g (stepSet g i c b) tb).2.2 ≠ 0 then (g, 0, (makeG g (stepSet g i c b) tb).2.2) else
   ({ (makeG g (stepSet g i c b) tb).1 with
     ways := putW (putW g.ways (i, c, b) (makeG g (stepSet g i c b) tb).2.1.toNat) ((makeG g (stepSet g i c b) tb).2.1, c, !b) i.toNat
     nw := g.nw + 1 + if (g.ways ((makeG g (stepSet g i c b) tb).2.1, c, !b)).isSome then 0 else 1 }, (makeG g (stepSet g i c b) tb).2.1, 0)
theorem makeG_ok {g : GS} {set : Int} {tb : Nat} (h : (makeG g set tb).2.2 = 0) :
  ∃ n : Nat, (makeG g set tb).2.1 = n ∧ n < (makeG g set tb).1.ts.length ∧ (makeG g set tb).1.ways = g.ways ∧ (makeG g set tb).1.nw = g.nw ∧ (makeG g set tb).1.cs = g.cs ∧ (makeG g set tb).1.sigs[n]? = some set ∧ g.ts.length ≤ (makeG g set tb).1.ts.length := by
 unfold makeG at h ⊢
 cases hp : posOf set g.sigs with
 | some i =>
  rw [hp] at h
  simp only
  have hg := posOf_get hp
  refine ⟨i, rfl, ?_, trivial, trivial, trivial, hg, Nat.le_refl _⟩
  have := (List.getElem?_eq_some_iff.1 hg).1
  simpa [GS.sigs] using this
 | none =>
  rw [hp] at h
  simp only at h ⊢
  split at h
  ·rename_i h1
   rw [if_pos h1]
   split at h
   ·simp at h
   ·rename_i h2
    rw [if_neg h2]
    refine ⟨g.ts.length, rfl, by simp, rfl, rfl, rfl, ?_, by simp⟩
    simp [GS.sigs]
  ·simp at h
end Go.Proofs.YtgebbmfoamkfnaaGreatDoor
namespace Go.Proofs.YtgebbmfoamkfnaaGreatDoor
open Go.RowKit
open Go.Maps (Keyed int_keyed keyOf_int_mk)
set_option linter.unusedVariables false
theorem bits_u32 (op : BinOp) (x y : Int) : 0 ≤ bits op .u32 x y ∧ bits op .u32 x y ≤ 4294967295 := by
 unfold bits
 cases op <;> simp [IntKind.wrap, IntKind.bits, IntKind.signed] <;> omega
theorem sWith_bd {s n : Int} (h0 : 0 ≤ s) (h1 : s ≤ 4294967295) : 0 ≤ sWith s n ∧ sWith s n ≤ 4294967295 := by
 unfold sWith; split
 ·exact bits_u32 _ _ _
 ·exact ⟨h0, h1⟩
theorem sWithout_bd {s n : Int} (h0 : 0 ≤ s) (h1 : s ≤ 4294967295) : 0 ≤ sWithout s n ∧ sWithout s n ≤ 4294967295 := by
 unfold sWithout; split
 ·exact bits_u32 _ _ _
 ·exact ⟨h0, h1⟩
theorem stepG_chk {g : GS} {i c : Int} {b : Bool} (h : chkF g i c b ≠ 0) (tb : Nat) : stepG g i c b tb = (g, 0, chkF g i c b) := by unfold stepG; rw [if_pos h]
theorem stepG_has {g : GS} {i c : Int} {b : Bool} (h : chkF g i c b = 0) {n : Nat} (hw : g.ways (i, c, b) = some n) (tb : Nat) : stepG g i c b tb = (g, (n : Int), 0) := by unfold stepG; rw [if_neg (by omega), hw]
theorem stepG_err {g : GS} {i c : Int} {b : Bool} (h : chkF g i c b = 0) (hw : g.ways (i, c, b) = none) (tb : Nat) (he : (makeG g (stepSet g i c b) tb).2.2 ≠ 0) : stepG g i c b tb = (g, 0, (makeG g (stepSet g i c b) tb).2.2) := by
 unfold stepG; rw [if_neg (by omega), hw]; simp only; rw [if_pos he]
theorem stepG_new {g : GS} {i c : Int} {b : Bool} (h : chkF g i c b = 0) (hw : g.ways (i, c, b) = none) (tb : Nat) (he : (makeG g (stepSet g i c b) tb).2.2 = 0) : stepG g i c b tb =
   ({ (makeG g (stepSet g i c b) tb).1 with
     ways := putW (putW g.ways (i, c, b) (makeG g (stepSet g i c b) tb).2.1.toNat) ((makeG g (stepSet g i c b) tb).2.1, c, !b) i.toNat
     nw := g.nw + 1 + if (g.ways ((makeG g (stepSet g i c b) tb).2.1, c, !b)).isSome then 0 else 1 }, (makeG g (stepSet g i c b) tb).2.1, 0) := by
 unfold stepG; rw [if_neg (by omega), hw]; simp only; rw [if_neg (by omega)]
end Go.Proofs.YtgebbmfoamkfnaaGreatDoor
namespace Go.Proofs.YtgebbmfoamkfnaaGreatDoor
open Go.RowKit
set_option linter.unusedVariables false
def newOk (ver : Int) (cs : List Cmp) (archs rows : Int) : Bool := (schemaCheck ver cs == 0) && decide (1 ≤ archs) && decide (archs ≤ 64) && decide (1 ≤ rows) && decide (rows ≤ 256)
def GS0 (ver : Int) (cs : List Cmp) (archs rows : Int) : GS := { ver := ver, archs := archs, rows := rows, cs := cs, ts := [], ways := fun _ => none, nw := 0 }
def IsNew (ver : Int) (cs : List Cmp) (archs rows : Int) (w : World) (e : Ending) (w' : World) : Prop :=
 Below w.heap.size w w' ∧ if newOk ver cs archs rows then ∃ B1 gb mb wb ta tc, e = .returned (.pointer (some ⟨gb, 0, none⟩)) ∧ w.heap.size ≤ B1 ∧ Graph B1 gb (GS0 ver cs archs rows) mb wb ta tc w' ∧ ∀ b, gfoot gb mb wb ta b → w.heap.size ≤ b else e = .returned (.pointer none)
set_option maxRecDepth 100000 in
set_option maxHeartbeats 2000000 in
theorem graphNew_any (ver : Int) (cs : List Cmp) (a : Option Addr) (len cap : Nat) (archs rows : Int) (w : World) (hcs : CompsAt w.heap.size w a len cs) (hw : CompsWf cs) (hl : len ≤ 100000) (hf : ∀ c ∈ cs, c.fields.length ≤ 100000) (hn : a = none → len = 0 ∧ cap = 0) :
  Calls Tryz.prog 45 #[.agg #[.int .i64 ver, .slice a len cap], .int .i64 archs, .int .i64 rows] w (IsNew ver cs archs rows w) := by
 have hmm := @run_makeMap Tryz.prog
 have hbel0 : Below w.heap.size w (w.alloc (.cells #[.int .i64 ver, .slice a len cap] 24)) := by go_grown
 go_enter Tryz.func45, Tryz.ntmps45
 go_wp2_with fail
 refine (schemaCheck_any ver cs _ _ _ _ ((hcs.below hbel0).mono hbel0.size) hw).mono ?_
 rintro e w1 ⟨rfl, hb1⟩
 have hs1 := keep hb1 (heap_alloc_new w (.cells #[.int .i64 ver, .slice a len cap] 24))
 have s0 := cell_at hs1 0
 have s1 := cell_at hs1 1
 simp at s0 s1
 have hbel1 : Below w.heap.size w w1 := hbel0.trans (hb1.mono hbel0.size)
 by_cases hsc : schemaCheck ver cs = 0
 ·have e1 : (schemaCheck ver cs != 0) = false := by simp [hsc]
  have HSC := Lib.hid hsc
  clear hsc
  rcases (by omega : archs < 1 ∨ (1 ≤ archs ∧ 64 < archs) ∨ (1 ≤ archs ∧ archs ≤ 64 ∧ rows < 1) ∨ (1 ≤ archs ∧ archs ≤ 64 ∧ 1 ≤ rows ∧ 256 < rows) ∨ (1 ≤ archs ∧ archs ≤ 64 ∧ 1 ≤ rows ∧ rows ≤ 256)) with h | ⟨h, h'⟩ | ⟨h, h', h2⟩ | ⟨h, h', h2, h3⟩ | ⟨h, h', h2, h3⟩
  ·have HT : Hid (newOk ver cs archs rows = false) := Lib.hid (by simp [newOk]; omega)
   go_wp2_with fail
   go_returns
   exact ⟨hbel1, by rw [HT.out]; rfl⟩
  ·have HT : Hid (newOk ver cs archs rows = false) := Lib.hid (by simp [newOk]; omega)
   go_wp2_with fail
   go_returns
   exact ⟨hbel1, by rw [HT.out]; rfl⟩
  ·have HT : Hid (newOk ver cs archs rows = false) := Lib.hid (by simp [newOk]; omega)
   go_wp2_with fail
   go_returns
   exact ⟨hbel1, by rw [HT.out]; rfl⟩
  ·have HT : Hid (newOk ver cs archs rows = false) := Lib.hid (by simp [newOk]; omega)
   go_wp2_with fail
   go_returns
   exact ⟨hbel1, by rw [HT.out]; rfl⟩
  ·have HT : Hid (newOk ver cs archs rows = true) := Lib.hid (by simp [newOk, HSC.out]; omega)
   go_wp2_with fail
   refine (schemaClone_any ver cs _ _ _ _ ((hcs.below hbel1).mono hbel1.size) hl hf hn).mono ?_
   rintro e w2 ⟨va, vc, rfl, hcs2, hvn, hb2, hty2⟩
   have hbel2 : Below w.heap.size w w2 := hbel1.trans (hb2.mono hbel1.size)
   go_wp2_with fail
   go_returns
   refine ⟨((hbel2.alloc hbel2.size _).alloc (by have := hbel2.size; simp; omega) _).alloc (by have := hbel2.size; simp; omega) _, ?_⟩
   rw [HT.out]
   refine ⟨w2.heap.size, w2.heap.size + 2, w2.heap.size, w2.heap.size + 1, none, 0, ?_, hbel2.size, ⟨va, len, vc, fun _ => none, fun _ => none, ?_⟩, fun b hb => by have := hbel2.size; rcases hb with h | h | h | h <;> first | omega | (cases h)⟩
   ·rfl
   ·refine { bg := by omega, bm := by omega, bw := by omega, ne := by omega, blk := ?_, comps := ?_, cty := hty2.hk (KeepsTy.of_below (((Below.refl _ w2).alloc (Nat.le_refl _) _).alloc (by simp) _ |>.alloc (by simp; omega) _)), row := World.ownsRow_nil _ _ _ _, bySet := ?_, byWay := ?_, tab := (fun t ht => by cases ht), hbs := fun s => rfl, hws := fun x hx => rfl, wf := ⟨hw, hf, h, h', by simp [GS0]; omega, by simp; omega, by simp [GS0]⟩, wok := (fun x n hx => by cases hx), tlo := (fun t ht => by cases ht), cn := ⟨hvn, hl⟩ }
    ·have := heap_alloc_new ((w2.alloc (.map #[] 0)).alloc (.map #[] 0)) (.cells #[.int .i64 ver, .slice va len vc, .int .i64 archs, .int .i64 rows, .slice none 0 0, .map (some w2.heap.size), .map (some (w2.heap.size + 1))] 167)
     rw [World.size_alloc, World.size_alloc] at this
     exact this
    ·exact (hcs2.below (((Below.refl _ w2).alloc (Nat.le_refl _) _).alloc (by simp) _ |>.alloc (by simp; omega) _)).mono (by simp; omega)
    ·exact ((MapIs.made w2 Tryz.prog 28 3).alloc _).alloc _
    ·have := (MapIs.made (w2.alloc (.map #[] 0)) Tryz.prog 340 3).alloc (.cells #[.int .i64 ver, .slice va len vc, .int .i64 archs, .int .i64 rows, .slice none 0 0, .map (some w2.heap.size), .map (some (w2.heap.size + 1))] 167)
     rw [World.size_alloc] at this
     exact this
 ·have e1 : (schemaCheck ver cs != 0) = true := by simp [hsc]
  have HT : Hid (newOk ver cs archs rows = false) := Lib.hid (by simp [newOk, hsc])
  clear hsc
  go_wp2_with fail
  go_returns
  exact ⟨hbel1, by rw [HT.out]; rfl⟩
end Go.Proofs.YtgebbmfoamkfnaaGreatDoor
namespace Go.Proofs.YtgebbmfoamkfnaaGreatDoor
open Go.RowKit
set_option linter.unusedVariables false
structure CCl (w0 : World) (U : Nat) (d : CD) (va : Option Addr) (vc k : Nat) (gs : List Nat) (cf : Nat → Nat) (wx : World) : Prop where
 t : wx.heap[U]? = some (.cells #[.int .i64 d.size, .int .i64 d.cap, .int .i64 d.rows.length, .slice va k vc] 223 (0, 0))
 own : wx.ownsRow (U + 1) 156 1 (.slice va k vc) k (gs.map (chunkV d.size cf))
 below : Below w0.heap.size w0 wx
 len : gs.length = k
 nd : gs.Nodup
 good : ∀ (i g' : Nat), gs[i]? = some g' → U + 1 ≤ g' ∧ 16 * d.size ≤ cf g' ∧ ∃ g arr arr', d.gs[i]? = some g ∧ w0.heap[g]? = some (.cells arr 5 (0, 0)) ∧ wx.heap[g']? = some (.cells arr' 5 (0, 0)) ∧ arr'.size = cf g' ∧ (∀ u ∈ arr'.toList.take (16 * d.size), u.oneCell' = true) ∧ arr'.toList.take (16 * d.size) = arr.toList.take (16 * d.size)
section
variable {w0 : World} {U : Nat} {d : CD} {va : Option Addr} {vc k : Nat} {gs : List Nat} {cf : Nat → Nat} {wx : World}
theorem CCl.keepB (h : CCl w0 U d va vc k gs cf wx) {w' : World} (hb : Below wx.heap.size wx w') : CCl w0 U d va vc k gs cf w' :=
 ⟨keep hb h.t, ownsRow_below h.own hb, h.below.trans (hb.mono h.below.size), h.len, h.nd, fun i g' hi => by
  obtain ⟨h1, h2, g, arr, arr', h3, h4, h5, h6⟩ := h.good i g' hi
  exact ⟨h1, h2, g, arr, arr', h3, h4, keep hb h5, h6⟩⟩
theorem CCl.app (h : CCl w0 U d va vc k gs cf wx) (hU : w0.heap.size ≤ U) {g : Nat} {arr arr' : Array Value} {gn cn : Nat} (hg : d.gs[k]? = some g) (ha : w0.heap[g]? = some (.cells arr 5 (0, 0))) (hn : wx.heap[gn]? = some (.cells arr' 5 (0, 0))) (hsz : arr'.size = cn) (hcn : 16 * d.size ≤ cn)
  (hone : ∀ u ∈ arr'.toList.take (16 * d.size), u.oneCell' = true) (heq : arr'.toList.take (16 * d.size) = arr.toList.take (16 * d.size)) (hgn : U + 1 ≤ gn) (hnew : gn ∉ gs)
  {w' : World} {q cap : Nat} (hgr : wx.grownBy w' (Value.slice va k vc).ownBlock) (ho : w'.ownsRow (U + 1) 156 1 (.slice (some ⟨q, 0, none⟩) (k + 1) cap) (k + 1) (gs.map (chunkV d.size cf) ++ [.slice (some ⟨gn, 0, none⟩) (16 * d.size) cn])) :
  CCl w0 U d (some ⟨q, 0, none⟩) cap (k + 1) (gs ++ [gn]) (fun x => if x = gn then cn else cf x) (w'.setCell ⟨U, 3, none⟩ (.slice (some ⟨q, 0, none⟩) (k + 1) cap)) := by
 have ht' := keepG hgr h.t (ownsRow_ne_block h.own h.t (fun cur he => by cases he))
 have hno : ∀ x ∈ gs, x ≠ gn := fun x hx e => hnew (e ▸ hx)
 refine ⟨?_, ?_, ?_, ?_, ?_, ?_⟩
 ·exact hset _ _ _ _ _ _ _ ht'
 ·rw [List.map_append]
  have e1 : gs.map (chunkV d.size fun x => if x = gn then cn else cf x) = gs.map (chunkV d.size cf) := List.map_congr_left (fun x hx => by unfold chunkV; simp only [if_neg (hno x hx)])
  have e2 : [gn].map (chunkV d.size fun x => if x = gn then cn else cf x) = [.slice (some ⟨gn, 0, none⟩) (16 * d.size) cn] := by simp [chunkV]
  rw [e1, e2]
  exact ownsRow_setCell_below ho (by simp) _
 ·refine (h.below.grown hgr h.below.size (fun x hx => ?_)).setCell hU _
  have := (h.own.lt x hx).1; omega
 ·rw [List.length_append, h.len]; rfl
 ·rw [List.nodup_append]
  refine ⟨h.nd, by simp, fun a ha b hb => ?_⟩
  obtain rfl := List.mem_singleton.1 hb
  exact hno a ha
 ·intro i g' hi
  have hk : ∀ b cs, wx.heap[b]? = some (.cells cs 5 (0, 0)) → b ≠ U → (w'.setCell ⟨U, 3, none⟩ (.slice (some ⟨q, 0, none⟩) (k + 1) cap)).heap[b]? = some (.cells cs 5 (0, 0)) := fun b cs hb hbU => by
   rw [hset_ne _ _ _ _ (by simpa using hbU)]
   exact keepG hgr hb (ownsRow_ne_block h.own hb (fun cur he => by cases he))
  rcases Nat.lt_or_ge i gs.length with hlt | hge
  ·rw [List.getElem?_append_left hlt] at hi
   obtain ⟨h1, h2, g, arr, arr', h3, h4, h5, h6, h7⟩ := h.good i g' hi
   have hne := hno g' (List.mem_of_getElem? hi)
   simp only [if_neg hne]
   exact ⟨h1, h2, g, arr, arr', h3, h4, hk g' _ h5 (by omega), h6, h7⟩
  ·have hil := (List.getElem?_eq_some_iff.1 hi).1
   simp at hil
   obtain rfl : i = gs.length := by omega
   rw [List.getElem?_append_right (Nat.le_refl _), Nat.sub_self] at hi
   simp at hi
   subst hi
   simp only [if_pos]
   exact ⟨hgn, hcn, g, arr, arr', by rw [h.len]; exact hg, ha, hk gn _ hn (by omega), hsz, hone, heq⟩
theorem CCl.fin {B : Nat} (h : CCl w0 U d va vc d.gs.length gs cf wx) (hd : ColAt B w0 d) (hU : w0.heap.size ≤ U) : ColAt w0.heap.size wx { d with cb := U, va := va, vc := vc, gs := gs, cf := cf } := by
 have hlen := h.len
 refine ⟨⟨by rw [hlen]; exact h.t, by rw [hlen]; exact ownsRow_mono h.own (by omega), hU, h.nd, fun g' hg' => ?_, hd.mem.hsz, hd.mem.hn, hd.mem.hcap, by rw [hlen]; exact hd.mem.hgl, fun g' hg' => ?_⟩, by rw [hlen]; exact hd.num, fun i row hr g' hg' k x hx => ?_, hd.sz, hd.hle⟩
 ·obtain ⟨i, hi⟩ := List.getElem?_of_mem hg'
  obtain ⟨h1, h2, g, arr, arr', h3, h4, h5, h6, h7, h8⟩ := h.good i g' hi
  exact ⟨by omega, arr', h5, h6, h7⟩
 ·obtain ⟨i, hi⟩ := List.getElem?_of_mem hg'
  exact (h.good i g' hi).2.1
 ·obtain ⟨h1, h2, g, arr, arr', h3, h4, h5, h6, h7, h8⟩ := h.good (i / 16) g' hg'
  have hc := hd.cell i row hr g h3 k x hx
  have hkl := (List.getElem?_eq_some_iff.1 hx).1
  have hsz := hd.sz row (List.mem_of_getElem? hr)
  have hoff : i % 16 * d.size ≤ 15 * d.size := Nat.mul_le_mul_right _ (by omega)
  have hin : i % 16 * d.size + k < 16 * d.size := by omega
  rw [cell_at h4] at hc
  rw [cell_at h5]
  have e1 : (arr'.toList.take (16 * d.size))[i % 16 * d.size + k]? = arr'[i % 16 * d.size + k]? := by rw [List.getElem?_take, if_pos hin]; simp
  have e2 : (arr.toList.take (16 * d.size))[i % 16 * d.size + k]? = arr[i % 16 * d.size + k]? := by rw [List.getElem?_take, if_pos hin]; simp
  rw [← e1, h8, e2]
  exact hc
end
end Go.Proofs.YtgebbmfoamkfnaaGreatDoor
