/- Contract of table.Add. · Contract of table.Drop. -/
import Derived.Test.YthmpknlgkflhiabGreatQ16
import Derived.Test.YthmpknlgkflhiabGreatQ4
namespace Go.Proofs.YthmpknlgkflhiabGreat
open Go.RowKit
set_option linter.unusedVariables false
theorem ret_ii {a b c d : Int} (h1 : a = c) (h2 : b = d) : Ending.returned (.tuple #[.int .i64 a, .int .i64 b]) = .returned (.tuple #[.int .i64 c, .int .i64 d]) := by rw [h1, h2]
theorem Tryz.info38 : (Tryz.prog.info? 38).map (fun i => (i.zero, i.size, i.bytes)) = some (some (.int .u64 0), 1, 8) := by kernel_rfl
def PutG (ps : List PW) (cps : List CV) (i : Nat) (d d' : CD) : Prop := ∀ x, cps[i]? = some x → d'.rows = d.rows ++ [rowOf ps x] ∧ d'.cb = d.cb ∧ d'.size = d.size ∧ d'.cap = d.cap
def Added (B : Nat) (t : TD) (e : Int) (ps : List PW) (w w' : World) : Prop :=
 ∃ ea ec D, TabIn B w' { t with ents := t.ents ++ [e], ea := ea, ec := ec, cols := D } ∧ (∀ (i : Nat) (d d' : CD), t.cols[i]? = some d → D[i]? = some d' → PutG ps t.cps i d d') ∧ Out t.foot w w' ∧
  ∀ b, TD.foot { t with ents := t.ents ++ [e], ea := ea, ec := ec, cols := D } b → t.foot b ∨ w.heap.size ≤ b
def add_list (PB : Nat) (fa : Option Addr) (fl fc : Nat) (pa : Option Addr) (pl pc : Nat) (id : Int) (va : Option Addr) (vl vc : Nat) (row : ByteArray) : List (Value → World → Prop) :=
 [IsV (.pointer (some ⟨PB, 0, none⟩)),
  IsV (.pointer (some ⟨PB, 2, none⟩)),
  IsV (.slice fa fl fc),
  IsV (.slice pa pl pc),
  IsV (.pointer (some ⟨PB, 0, none⟩)),
  IsV (.pointer (some ⟨PB, 0, none⟩)),
  IsV (.int .i64 id),
  IsV (.slice va vl vc),
  IsV (.tuple #[.string row, .int .i64 0]),
  IsV (.tuple #[.string row, .int .i64 0]),
  IsV (.string row),
  IsV (.int .i64 0),
  IsV (.string row),
  IsV (.int .i64 0)]
theorem add_list_lasts (PB : Nat) (fa : Option Addr) (fl fc : Nat) (pa : Option Addr) (pl pc : Nat) (id : Int) (va : Option Addr) (vl vc : Nat) (row : ByteArray) : ∀ p ∈ add_list PB  fa  fl fc  pa  pl pc  id  va  vl vc  row , Lasts p := by
 simp only [add_list, List.mem_cons, List.not_mem_nil, or_false]
 rintro p hp
 repeat (rcases hp with rfl | hp; exact lasts_v _)
section
variable {B : Nat} {w : World} {t : TD}
set_option maxRecDepth 100000 in
set_option maxHeartbeats 4000000 in
theorem tabAdd_ok (h : TabIn B w t) (e : Int) (ps : List PW) (pa : Option Addr) (pl pc : Nat) (hps : ∀ w', Out t.cfoot w w' → PartsAt w'.heap.size w' pa pl pc ps) (hl : pl ≤ 100000) (herr : addErr t e ps = 0) :
  Calls Tryz.prog 42 #[.pointer (some ⟨t.tb, 0, none⟩), .int .u64 e, .slice pa pl pc] w fun en w' => en = .returned (.tuple #[.int .i64 (t.ents.length : Int), .int .i64 0]) ∧ Added B t e ps w w' := by
 obtain ⟨i0, hi, hz0, hz1, hz2⟩ := info_parts Tryz.info38
 have hB : B ≤ w.heap.size := by have := h.hB; have := lt_some h.blk; omega
 have hc := tabCheck_in h e ps pa pl pc (hps w (Out.refl _ _)) hl
 rw [herr] at hc
 obtain ⟨hfree, hok⟩ := add_ok h.ids herr
 have hroom := h.room
 have hm2 := h.most2
 have hn24 := h.n24
 have hlen := h.len
 have HC := Lib.hid hc
 have HH := Lib.hid h
 have HPS := Lib.hid hps
 have HOK := Lib.hid hok
 have HFREE := Lib.hid hfree
 have HLEN := Lib.hid hlen
 clear h hc hok hps hfree hlen herr
 go_enter Tryz.func42, Tryz.ntmps42
 go_wp2_with fail
 refine HC.out.mono ?_
 rintro en w1 ⟨rfl, hb1⟩
 have H1 := Lib.hid (HH.out.below hb1)
 have HB1 := Lib.hid hb1
 obtain ⟨c0, c1, c2, c3, c4, c5, c6, fz⟩ := H1.out.cells
 clear HC hb1 fz
 go_wp2_with fail
 clear c0 c1 c2 c3 c4 c5 c6
 obtain ⟨n, hn⟩ : ∃ n, t.cps.length = n := ⟨_, rfl⟩
 rw [hn] at hn24 ⊢
 have HN := Lib.hid hn
 clear hn
 go_loopw [25] (fun i wr => ∃ (k : Nat) (D : List CD), k ≤ n ∧ i = .int .i64 (k : Int) ∧ ColsS B w t (PutG ps t.cps) k D wr) (fun i _ => n - (intOf i).toNat)
 case atStart => exact ⟨0, t.cols, Nat.zero_le _, rfl, (ColsS.start HH.out _).below HB1.out⟩
 case round =>
  obtain ⟨k, D, hk, rfl, hst⟩ := hrel
  have HST := Lib.hid hst
  clear hst
  by_cases hlt : k < n
  ·obtain ⟨x, hx⟩ : ∃ x, t.cps[k]? = some x := ⟨_, List.getElem?_eq_getElem (by have := HN.out; omega)⟩
   obtain ⟨d, hd⟩ : ∃ d, t.cols[k]? = some d := ⟨_, List.getElem?_eq_getElem (by have := HN.out; have := HLEN.out; omega)⟩
   obtain ⟨p, hpo, hpm, hpc, hpf, hrow⟩ := HOK.out x (List.mem_of_getElem? hx)
   obtain ⟨k1, k2, k3, k4⟩ := HH.out.col k x d hx hd
   have hM : ∀ b, t.cfoot b → Mut w b := fun b hb => HH.out.foot_mut (TabIn.cfoot_foot hb)
   have hcr := ownsRow_out HH.out.colsR HST.out.out (row_mut HH.out.colsR (.inr (.inl rfl)) hM)
   have hfx := (HH.out.fields x (List.mem_of_getElem? hx)).out HST.out.out hM
   rw [HN.out] at hcr
   obtain ⟨q, hq, _, hql, hqc⟩ := row_block hcr (by omega)
   obtain ⟨g0, g1, g2, g3⟩ := colL_at t.cps hx
   have z0 := hqc _ _ g0
   have z1 := hqc _ _ g1
   have z2 := hqc _ _ g2
   have z3 := hqc _ _ g3
   rw [hq]
   have i1 : (0 : Int) ≤ (k : Int) := by omega
   have i2 : (k : Int) < (n : Int) := by omega
   have hlay := HH.out.lay x (List.mem_of_getElem? hx)
   obtain ⟨row, hrw⟩ : ∃ row : ByteArray, row = ⟨(packF x.c.fields p.val).toArray⟩ := ⟨_, rfl⟩
   have hrs : row.size = d.size := by
    rw [hrw, k2]
    show (packF x.c.fields p.val).toArray.size = _
    rw [List.size_toArray, packF_len hlay (by have := (fit_zero hpf).2.1; omega)]
   have hrl : row.data.toList = rowOf ps x := by rw [hrw, hrow]
   have HX := Lib.hid hx
   have HD := Lib.hid hd
   have HK := Lib.hid (And.intro k1 (And.intro k3 k4))
   have HPP := Lib.hid (And.intro hpo (And.intro hpm hpf))
   have HRW := Lib.hid (And.intro hrw (And.intro hrs hrl))
   have hzr := HST.out.out.size
   have HFA := Lib.hid (And.intro (fieldsAt_row hfx.row hfx.len hfx.max) (row_cap hfx.row))
   clear hx hd hpo hpm hpc hpf hrow k1 k2 k3 k4 hM hcr hfx hqc g0 g1 g2 g3 hlay hrw hrs hrl hq
   go_wp2_with fail
   have hA := heap_alloc_new wr (.cells #[.int .i64 x.c.id, .string x.c.name, .slice x.fa x.fl x.fc, .pointer (some ⟨x.cb, 0, none⟩)] 146)
   have hAb : Below wr.heap.size wr (wr.alloc (.cells #[.int .i64 x.c.id, .string x.c.name, .slice x.fa x.fl x.fc, .pointer (some ⟨x.cb, 0, none⟩)] 146)) := (Below.refl _ _).alloc (Nat.le_refl _) _
   clear z0 z1 z2 z3
   generalize wr.alloc (.cells #[.int .i64 x.c.id, .string x.c.name, .slice x.fa x.fl x.fc, .pointer (some ⟨x.cb, 0, none⟩)] 146) = wA at *
   obtain ⟨PB, hPB⟩ : ∃ PB, wr.heap.size = PB := ⟨_, rfl⟩
   have hA' : wA.heap[PB]? = some (.cells #[.int .i64 x.c.id, .string x.c.name, .slice x.fa x.fl x.fc, .pointer (some ⟨x.cb, 0, none⟩)] 146 (0, 0)) := by rw [← hPB]; exact hA
   rw [hPB]
   have HA := Lib.hid hA'
   have HAB := Lib.hid hAb
   have HPB := Lib.hid hPB
   clear hA hAb hPB hA'
   refine wp_region_frame (by kernel_rfl) (by kernel_rfl) (by kernel_rfl) (byList (add_list PB x.fa x.fl x.fc pa pl pc x.c.id p.va p.vl p.vc row)) (lasts_list (add_list_lasts PB x.fa x.fl x.fc pa pl pc x.c.id p.va p.vl p.vc row)) ?_ ?_
   ·intro vs w' iq o A F hb ho hd
    have m10 : A.tmps[10]?.getD undef = (.pointer (some ⟨PB, 0, none⟩)) := F.m (by kernel_rfl) rfl
    have m2 : A.tmps[2]?.getD undef = (.slice pa pl pc) := F.m (by kernel_rfl) rfl
    have G := F.light (n := 62) (by kernel_rfl)
    clear F
    have h7 := keep hb HA.out
    have c0 := cell_at h7 0
    have c2 := cell_at h7 2
    simp at c0 c2
    have hbw := HAB.out.trans (hb.mono HAB.out.size)
    revert ho hd
    match iq with
    | 0 =>
     intro ho hd
     obtain rfl := (Option.some.inj ho).symm
     clear hd ho
     refine step_open rfl ?_
     clear G
     exact step_run (v := (.pointer (some ⟨PB, 0, none⟩))) (by go_simp) rfl
    | 1 =>
     intro ho hd
     obtain rfl := (Option.some.inj ho).symm
     have d0 : vs 0 = (.pointer (some ⟨PB, 0, none⟩)) := hd ⟨0, .data⟩ (by simp) rfl
     clear hd ho
     have h30 := G.h (j := 0) (d := 30) rfl (by decide) d0
     refine step_open rfl ?_
     clear G
     exact step_run (v := (.pointer (some ⟨PB, 2, none⟩))) (by go_simp) rfl
    | 2 =>
     intro ho hd
     obtain rfl := (Option.some.inj ho).symm
     have d1 : vs 1 = (.pointer (some ⟨PB, 2, none⟩)) := hd ⟨1, .data⟩ (by simp) rfl
     clear hd ho
     have h31 := G.h (j := 1) (d := 31) rfl (by decide) d1
     refine step_open rfl ?_
     clear G
     exact step_run (v := (.slice x.fa x.fl x.fc)) (by go_simp) rfl
    | 3 =>
     intro ho hd
     obtain rfl := (Option.some.inj ho).symm
     clear hd ho
     refine step_open rfl ?_
     clear G
     exact step_run (v := (.slice pa pl pc)) (by go_simp) rfl
    | 4 =>
     intro ho hd
     obtain rfl := (Option.some.inj ho).symm
     clear hd ho
     refine step_open rfl ?_
     clear G
     exact step_run (v := (.pointer (some ⟨PB, 0, none⟩))) (by go_simp) rfl
    | 5 =>
     intro ho hd
     obtain rfl := (Option.some.inj ho).symm
     have d4 : vs 4 = (.pointer (some ⟨PB, 0, none⟩)) := hd ⟨4, .data⟩ (by simp) rfl
     clear hd ho
     have h34 := G.h (j := 4) (d := 34) rfl (by decide) d4
     refine step_open rfl ?_
     clear G
     exact step_run (v := (.pointer (some ⟨PB, 0, none⟩))) (by go_simp) rfl
    | 6 =>
     intro ho hd
     obtain rfl := (Option.some.inj ho).symm
     have d5 : vs 5 = (.pointer (some ⟨PB, 0, none⟩)) := hd ⟨5, .data⟩ (by simp) rfl
     clear hd ho
     have h35 := G.h (j := 5) (d := 35) rfl (by decide) d5
     refine step_open rfl ?_
     clear G
     exact step_run (v := (.int .i64 x.c.id)) (by go_simp) rfl
    | 7 =>
     intro ho hd
     obtain rfl := (Option.some.inj ho).symm
     have d3 : vs 3 = (.slice pa pl pc) := hd ⟨3, .data⟩ (by simp) rfl
     have d6 : vs 6 = (.int .i64 x.c.id) := hd ⟨6, .data⟩ (by simp) rfl
     clear hd ho
     have h33 := G.h (j := 3) (d := 33) rfl (by decide) d3
     have h36 := G.h (j := 6) (d := 36) rfl (by decide) d6
     refine step_open rfl ?_
     clear G
     go_simp
     refine (value_any x.c.id ps p _ _ _ _ (HPS.out _ (HST.out.out.trans (Out.of (F := fun _ => False) hbw) (fun _ => False.elim))) HPP.out.1).mono ?_
     rintro e w2 ⟨rfl, hb2⟩
     exact ⟨_, rfl, rfl, hb2⟩
    | 8 =>
     intro ho hd
     obtain rfl := (Option.some.inj ho).symm
     have d2 : vs 2 = (.slice x.fa x.fl x.fc) := hd ⟨2, .data⟩ (by simp) rfl
     have d7 : vs 7 = (.slice p.va p.vl p.vc) := hd ⟨7, .data⟩ (by simp) rfl
     clear hd ho
     have h32 := G.h (j := 2) (d := 32) rfl (by decide) d2
     have h37 := G.h (j := 7) (d := 37) rfl (by decide) d7
     refine step_open rfl ?_
     clear G
     go_simp
     refine (pack_ok x.c.fields _ _ _ _ _ _ p.val _ ((HFA.out.1.below hbw).mono (by have := hbw.size; omega)) HFA.out.2 ((HPS.out _ (HST.out.out.trans (Out.of (F := fun _ => False) hbw) (fun _ => False.elim))).2.2.2.1 p HPP.out.2.1) HPP.out.2.2).mono ?_
     rintro e w2 ⟨rfl, hb2⟩
     rw [← HRW.out.1]
     exact ⟨_, rfl, rfl, hb2⟩
    | 9 =>
     intro ho hd
     obtain rfl := (Option.some.inj ho).symm
     have d8 : vs 8 = (.tuple #[.string row, .int .i64 0]) := hd ⟨8, .data⟩ (by simp) rfl
     clear hd ho
     have h38 := G.h (j := 8) (d := 38) rfl (by decide) d8
     refine step_open rfl ?_
     clear G
     exact step_run (v := (.tuple #[.string row, .int .i64 0])) (by go_simp) rfl
    | 10 =>
     intro ho hd
     obtain rfl := (Option.some.inj ho).symm
     have d9 : vs 9 = (.tuple #[.string row, .int .i64 0]) := hd ⟨9, .data⟩ (by simp) rfl
     clear hd ho
     have h29 := G.h (j := 9) (d := 29) rfl (by decide) d9
     refine step_open rfl ?_
     clear G
     exact step_run (v := (.string row)) (by go_simp) rfl
    | 11 =>
     intro ho hd
     obtain rfl := (Option.some.inj ho).symm
     have d9 : vs 9 = (.tuple #[.string row, .int .i64 0]) := hd ⟨9, .data⟩ (by simp) rfl
     clear hd ho
     have h29 := G.h (j := 9) (d := 29) rfl (by decide) d9
     refine step_open rfl ?_
     clear G
     exact step_run (v := (.int .i64 0)) (by go_simp) rfl
    | 12 =>
     intro ho hd
     obtain rfl := (Option.some.inj ho).symm
     have d10 : vs 10 = (.string row) := hd ⟨10, .data⟩ (by simp) rfl
     clear hd ho
     have h39 := G.h (j := 10) (d := 39) rfl (by decide) d10
     refine step_open rfl ?_
     clear G
     exact step_run (v := (.string row)) (by go_simp) rfl
    | 13 =>
     intro ho hd
     obtain rfl := (Option.some.inj ho).symm
     have d11 : vs 11 = (.int .i64 0) := hd ⟨11, .data⟩ (by simp) rfl
     clear hd ho
     have h40 := G.h (j := 11) (d := 40) rfl (by decide) d11
     refine step_open rfl ?_
     clear G
     exact step_run (v := (.int .i64 0)) (by go_simp) rfl
    | n + 14 =>
     intro ho hd
     simp at ho
   ·intro vs w7 hb hR
    have hv : vs 12 = .string row := hR 12 (by simp)
    have h7 := keep hb HA.out
    have hb7 := HAB.out.trans (hb.mono HAB.out.size)
    have HB7 := Lib.hid hb7
    have q3 := cell_at h7 3
    simp at q3
    simp only [putAll, Act.put, List.setIfInBounds_toArray, List.set_cons_succ, List.set_cons_zero]
    rw [hv]
    generalize vs 0 = y0
    generalize vs (0 + 1) = y1
    generalize vs (0 + 1 + 1) = y2
    generalize vs (0 + 1 + 1 + 1) = y3
    clear hR hb hv hb7
    go_wp2_with fail
    have hs7 : ColsS B w t (PutG ps t.cps) k D w7 := HST.out.below HB7.out
    have hcd := hs7.colsA k d ((hs7.rest k (Nat.le_refl _)).trans HD.out)
    have hfr := HFREE.out
    have happ := colAppend_any B w7 d row hcd HRW.out.2.1 (by rw [HK.out.2.1, HK.out.2.2]; unfold TD.free at hfr; omega) (by have := hs7.out.size; omega)
    rw [HK.out.1] at happ
    have HAPP := Lib.hid happ
    have HS7 := Lib.hid hs7
    clear hs7 hcd happ hfr q3
    refine HAPP.out.mono ?_
    rintro en w8 ⟨rfl, va8, vc8, gs8, cf8, hcol, hout, hfoot⟩
    have hst8 := HS7.out.step HD.out hcol hout hfoot (show PutG ps t.cps k d _ from fun y hy => by
     rw [HX.out] at hy
     cases hy
     exact ⟨by rw [HRW.out.2.2], HK.out.1.symm, rfl, rfl⟩)
    have HST8 := Lib.hid hst8
    clear hcol hout hfoot hst8 HAPP
    go_wp2_with fail
    go_roundw
    case rel => exact ⟨k + 1, _, by omega, by go_num, HST8.out⟩
    case measure => simp [intOf]; omega
  ·obtain rfl : k = n := by omega
   have hb0 := HST.out.out.keep HH.out.blk HH.out.cfoot_ne.1
   have he0 := ownsRow_out HH.out.entsR HST.out.out HH.out.cfoot_ne.2
   have c5 := cell_at hb0 5
   have f5 := free_at hb0 5
   simp at c5
   have hzr := HST.out.out.size
   have hbt := lt_some hb0
   obtain ⟨L, hL⟩ : ∃ L, t.ents.length = L := ⟨_, rfl⟩
   rw [hL] at c5
   have hown : (wr.alloc (.cells #[.int .u64 e] 38)).ownsRow B 38 1 (.slice t.ea L t.ec) L (t.ents.map (.int .u64)) := by rw [← hL]; exact he0.alloc _
   have hLm : L ≤ 256 := by omega
   have hw1 : IntKind.i64.wrap ((L : Int) + 1 - 1) = (L : Int) := by rw [IntWalk.i64_in _ (by omega)]; omega
   have hw2 : IntKind.i64.wrap (L : Int) = (L : Int) := IntWalk.i64_in _ (by omega)
   have HL := Lib.hid hL
   have HOWN := Lib.hid hown
   have HB0 := Lib.hid hb0
   have HE0 := Lib.hid he0
   clear hL hown hb0 he0
   have hm1 : L + 1 ≤ maxLen := by unfold maxLen; omega
   go_wp2_with (at_builtin; go_loud (refine wpList_append_lies _ (by rfl) _ _ 33 (by rfl) B 38 i0 (.int .u64 0) 1 8 Tryz.underlying33 hi hz0 hz1 hz2 rfl (by omega) (.slice t.ea L t.ec) L _ (by rfl) HOWN.out ⟨wr.heap.size, 0, none⟩ 1 1 [.int .u64 e] (by rfl) (by rfl) ?c1 ?c2 (by omega) hm1 (by omega) ?c5 (wr.heap.size + 1) (by simp) ?_))
   case c1 =>
    intro j u hj
    match j, hj with
    | 0, hj => simp at hj; subst hj; simp [Addr.add]
   case c2 => intro u hu; simp at hu; subst hu; rfl
   case c5 => simp; omega
   intro g cap w6 hown6 hg6 hat6 hlt6
   have hne : some t.tb ≠ (Value.slice t.ea L t.ec).ownBlock := by
    have := ownsRow_ne_block3 HE0.out HB0.out (fun cur he => by cases he)
    rw [HL.out] at this
    exact this
   have hb6 := keepG hg6 (keepA (.cells #[.int .u64 e] 38) HB0.out) hne
   have d5 := cell_at hb6 5
   have g5 := free_at hb6 5
   rw [HL.out] at d5
   simp at d5
   have hout6 : Out (fun b => b = t.tb ∨ (Value.slice t.ea t.ents.length t.ec).ownBlock = some b) wr (w6.setCell ⟨t.tb, 5, none⟩ (.slice (some ⟨g, 0, none⟩) (L + 1) cap)) := by
    have h1 : Out (fun b => b = t.tb ∨ (Value.slice t.ea t.ents.length t.ec).ownBlock = some b) wr w6 := ⟨hg6.os, hg6.tape, hg6.output, by have := hg6.size; simp at this; omega, fun j hj hF => (hg6.block j (by simp; omega) (fun e => hF (.inr (by rw [HL.out]; exact e.symm)))).trans (by rw [halloc, if_neg (by omega)])⟩
    exact h1.trans (Out.only (Only.at w6 t.tb 5 _) (.inl rfl)) (fun x h => .inl h)
   have hblk6 := hset w6 t.tb 5 (.slice (some ⟨g, 0, none⟩) (L + 1) cap) _ _ _ hb6
   have hown7 := ownsRow_out hown6 (Out.only (F := fun b => b = t.tb) (Only.at w6 t.tb 5 (.slice (some ⟨g, 0, none⟩) (L + 1) cap)) rfl) (fun x hx he => by
    subst he
    exact ownsRow_ne_block3 hown6 hb6 (fun cur he => by cases he) hx.symm)
   have hlen : (t.ents ++ [e]).length = L + 1 := by rw [List.length_append, HL.out]; rfl
   have hfin := HST.out.fin HH.out (by rw [HLEN.out, HN.out]) (t.ents ++ [e]) (some ⟨g, 0, none⟩) cap (w2 := w6.setCell ⟨t.tb, 5, none⟩ (.slice (some ⟨g, 0, none⟩) (L + 1) cap)) (by rw [hlen]; simpa using hblk6) (by rw [hlen, List.map_append]; exact hown7) hout6 (fun b hb => by
    have hb' : g = b := by simpa [Value.ownBlock] using hb
    subst hb'
    rcases hat6 with h1 | h1
    ·exact .inl (by rw [HL.out]; exact h1)
    ·exact .inr (by omega)) (fun i d d' hd hG => by
    have hxi : i < t.cps.length := by rw [← HLEN.out]; exact (List.getElem?_eq_some_iff.1 hd).1
    obtain ⟨x, hx⟩ : ∃ x, t.cps[i]? = some x := ⟨_, List.getElem?_eq_getElem hxi⟩
    obtain ⟨k1, k2, k3, k4⟩ := HH.out.col i x d hx hd
    obtain ⟨g1, g2, g3, g4⟩ := hG x hx
    exact ⟨g2, g3, g4, by rw [g1, List.length_append, hlen, k4, HL.out]; rfl⟩) (by have h1 := HFREE.out; have h2 := HL.out; unfold TD.free at h1; omega)
   have hput : ∀ (i : Nat) (d d' : CD), t.cols[i]? = some d → D[i]? = some d' → PutG ps t.cps i d d' := by
    intro i d d' hd hd'
    obtain ⟨d'', h1, h2⟩ := HST.out.done i d (by have := (List.getElem?_eq_some_iff.1 hd).1; have := HLEN.out; have := HN.out; omega) hd
    rw [h1] at hd'
    cases hd'
    exact h2
   have HFIN := Lib.hid hfin
   have HPUT := Lib.hid hput
   clear hfin hput hout6 hblk6 hown7 hown6 hg6 hat6 hlt6 hb6 hne hlen c5 f5
   go_wp2_with fail
   go_ret2
   exact ⟨ret_ii (by rw [HL.out]) rfl, _, _, D, HFIN.out.1, HPUT.out, HFIN.out.2.1, HFIN.out.2.2⟩
end
end Go.Proofs.YthmpknlgkflhiabGreat
namespace Go.Proofs.YthmpknlgkflhiabGreat
open Go.RowKit
set_option linter.unusedVariables false
theorem ret_ui {a b c d : Int} (h1 : a = c) (h2 : b = d) : Ending.returned (.tuple #[.int .u64 a, .int .i64 b]) = .returned (.tuple #[.int .u64 c, .int .i64 d]) := by rw [h1, h2]
def DropG (r m : Nat) (i : Nat) (d d' : CD) : Prop := ∀ l, d.rows[m]? = some l → d'.rows = (d.rows.set r l).take m ∧ d'.cb = d.cb ∧ d'.size = d.size ∧ d'.cap = d.cap
def Dropped (B : Nat) (t : TD) (r m : Nat) (x : Int) (w w' : World) : Prop :=
 ∃ D, TabIn B w' { t with ents := (t.ents.set r x).take m, cols := D } ∧ (∀ (i : Nat) (d d' : CD), t.cols[i]? = some d → D[i]? = some d' → DropG r m i d d') ∧ Out t.foot w w' ∧
  ∀ b, TD.foot { t with ents := (t.ents.set r x).take m, cols := D } b → t.foot b ∨ w.heap.size ≤ b
section
variable {B : Nat} {w : World} {t : TD}
set_option maxRecDepth 100000 in
set_option maxHeartbeats 4000000 in
theorem tabDrop_ok (h : TabIn B w t) (r m : Nat) (hr : r ≤ m) (hm : t.ents.length = m + 1) (x : Int) (hx : t.ents[m]? = some x) :
  Calls Tryz.prog 84 #[.pointer (some ⟨t.tb, 0, none⟩), .int .i64 (r : Int)] w fun en w' => en = .returned (.tuple #[.int .u64 (if r = m then 0 else x), .int .i64 0]) ∧ Dropped B t r m x w w' := by
 have hc := tabAt_in h (r : Int)
 rw [if_pos ⟨by omega, by omega⟩] at hc
 have hroom := h.room
 have hm2 := h.most2
 have hn24 := h.n24
 have hlen := h.len
 have hmb : m < 256 := by omega
 have HC := Lib.hid hc
 have HH := Lib.hid h
 have HLEN := Lib.hid hlen
 have HM := Lib.hid hm
 have HXX := Lib.hid hx
 obtain ⟨c0, c1, c2, c3, c4, c5, c6, fz⟩ := h.cells
 rw [hm] at c5
 clear h hc hlen hm hx fz
 go_enter Tryz.func84, Tryz.ntmps84
 go_wp2_with fail
 refine HC.out.mono ?_
 rintro en w1 ⟨rfl, rfl⟩
 go_wp2_with fail
 clear c0 c1 c2 c3 c4 c5 c6
 obtain ⟨n, hn⟩ : ∃ n, t.cps.length = n := ⟨_, rfl⟩
 rw [hn] at hn24 ⊢
 have HN := Lib.hid hn
 clear hn
 go_loopw [28] (fun i wr => ∃ (k : Nat) (D : List CD), k ≤ n ∧ i = .int .i64 (k : Int) ∧ ColsS B w t (DropG r m) k D wr) (fun i _ => n - (intOf i).toNat)
 case atStart => exact ⟨0, t.cols, Nat.zero_le _, rfl, ColsS.start HH.out _⟩
 case round =>
  obtain ⟨k, D, hk, rfl, hst⟩ := hrel
  have HST := Lib.hid hst
  clear hst
  by_cases hlt : k < n
  ·obtain ⟨x, hx⟩ : ∃ x, t.cps[k]? = some x := ⟨_, List.getElem?_eq_getElem (by have := HN.out; omega)⟩
   obtain ⟨d, hd⟩ : ∃ d, t.cols[k]? = some d := ⟨_, List.getElem?_eq_getElem (by have := HN.out; have := HLEN.out; omega)⟩
   obtain ⟨k1, k2, k3, k4⟩ := HH.out.col k x d hx hd
   obtain ⟨l, hl⟩ : ∃ l, d.rows[m]? = some l := ⟨_, List.getElem?_eq_getElem (by have := HM.out; omega)⟩
   have hM : ∀ b, t.cfoot b → Mut w b := fun b hb => HH.out.foot_mut (TabIn.cfoot_foot hb)
   have hcr := ownsRow_out HH.out.colsR HST.out.out (row_mut HH.out.colsR (.inr (.inl rfl)) hM)
   rw [HN.out] at hcr
   obtain ⟨q, hq, _, hql, hqc⟩ := row_block hcr (by omega)
   obtain ⟨g0, g1, g2, g3⟩ := colL_at t.cps hx
   have z0 := hqc _ _ g0
   have z1 := hqc _ _ g1
   have z2 := hqc _ _ g2
   have z3 := hqc _ _ g3
   rw [hq]
   have i1 : (0 : Int) ≤ (k : Int) := by omega
   have i2 : (k : Int) < (n : Int) := by omega
   have hsA := HST.out.below ((Below.refl _ wr).alloc (Nat.le_refl _) (.cells #[.int .i64 x.c.id, .string x.c.name, .slice x.fa x.fl x.fc, .pointer (some ⟨x.cb, 0, none⟩)] 146))
   have hcd := hsA.colsA k d ((hsA.rest k (Nat.le_refl _)).trans hd)
   have hsw := colSwap_any B _ d r m l hcd hr (by rw [k4, HM.out]) hl
   rw [k1] at hsw
   have HSW := Lib.hid hsw
   have HSA := Lib.hid hsA
   have HD := Lib.hid (And.intro hd (And.intro hl k1))
   clear hx hd k1 k2 k3 k4 hl hM hcr hqc g0 g1 g2 g3 hsA hcd hsw hq
   go_wp2_with fail
   refine HSW.out.mono ?_
   rintro en w8 ⟨rfl, gs8, hcol, hout, hfoot⟩
   have hst8 := HSA.out.step HD.out.1 hcol hout (fun b hb => .inl (hfoot b hb)) (show DropG r m k d _ from fun l' hl' => by
    rw [HD.out.2.1] at hl'
    cases hl'
    exact ⟨rfl, HD.out.2.2.symm, rfl, rfl⟩)
   have HST8 := Lib.hid hst8
   clear hcol hout hfoot hst8 HSW z0 z1 z2 z3
   go_wp2_with fail
   go_roundw
   case rel => exact ⟨k + 1, _, by omega, by go_num, HST8.out⟩
   case measure => simp [intOf]; omega
  ·obtain rfl : k = n := by omega
   have hb0 := HST.out.out.keep HH.out.blk HH.out.cfoot_ne.1
   have he0 := ownsRow_out HH.out.entsR HST.out.out HH.out.cfoot_ne.2
   have c5 := cell_at hb0 5
   have f5 := free_at hb0 5
   simp at c5
   rw [HM.out] at c5 he0
   obtain ⟨q, hq, hset0, hfr, hql, hcap⟩ := ownsRow_set (r := r) (.int .u64 x) he0 (by omega)
   obtain ⟨q', hq', _, _, hqc⟩ := row_block he0 (by omega)
   have : q' = q := by rw [hq] at hq'; cases hq'; rfl
   subst this
   have z0 := hqc m (.int .u64 x) (by rw [List.getElem?_map, HXX.out]; rfl)
   rw [hq] at c5
   have i1 : (0 : Int) ≤ (m : Int) := by omega
   have i2 : (m : Int) < (m : Int) + 1 := by omega
   have i3 : (0 : Int) ≤ (r : Int) := by omega
   have i4 : (r : Int) < (m : Int) + 1 := by omega
   have i5 : (m : Int) ≤ (t.ec : Int) := by omega
   have hne : t.tb ≠ q' := fun e => by
    have h1 := ownsRow_ne_block3 he0 hb0 (fun cur he => by cases he)
    rw [hq] at h1
    exact h1 (by rw [e]; rfl)
   have hcr : ∃ y, wr.cell? ⟨q', r, none⟩ = some y := by
    obtain ⟨y, hy⟩ : ∃ y, t.ents[r]? = some y := ⟨_, List.getElem?_eq_getElem (by have := HM.out; omega)⟩
    exact ⟨_, hqc r (.int .u64 y) (by rw [List.getElem?_map, hy]; rfl)⟩
   obtain ⟨y, hy⟩ := hcr
   have hb1 := keepO (Only.at wr q' r (.int .u64 x)) hb0 hne
   have d5 := cell_at hb1 5
   have g5 := free_at hb1 5
   simp at d5
   rw [HM.out, hq] at d5
   have hzr := HST.out.out.size
   have hbt := lt_some hb0
   have HB0 := Lib.hid hb0
   have HB1 := Lib.hid hb1
   have HE0 := Lib.hid he0
   have HSET := Lib.hid hset0
   have HQ := Lib.hid hq
   have hlm : ((t.ents.set r x).take m).length = m := by rw [List.length_take, List.length_set]; have := HM.out; omega
   have hset1 := ownsRow_shrink hset0 (show m ≤ m + 1 by omega) (by omega)
   have hset2 := ownsRow_out hset1 (Out.only (F := fun b => b = t.tb) (Only.at (wr.setCell ⟨q', r, none⟩ (.int .u64 x)) t.tb 5 (.slice t.ea m t.ec)) rfl) (fun z hz he => by
    subst he
    exact ownsRow_ne_block3 hset1 hb1 (fun cur he => by cases he) hz.symm)
   have hblk2 := hset (wr.setCell ⟨q', r, none⟩ (.int .u64 x)) t.tb 5 (.slice t.ea m t.ec) _ _ _ hb1
   have hfin := HST.out.fin HH.out (by rw [HLEN.out, HN.out]) ((t.ents.set r x).take m) t.ea t.ec (w2 := (wr.setCell ⟨q', r, none⟩ (.int .u64 x)).setCell ⟨t.tb, 5, none⟩ (.slice t.ea m t.ec)) (by rw [hlm]; simpa using hblk2) (by rw [hlm, List.map_take, List.map_set]; exact hset2)
    ((Out.only (Only.at wr q' r (.int .u64 x)) (.inr (by rw [hq]; rfl))).trans (Out.only (F := fun b => b = t.tb) (Only.at (wr.setCell ⟨q', r, none⟩ (.int .u64 x)) t.tb 5 _) rfl) (fun z hz => .inl (.inl hz)))
    (fun b hb => .inl (by rw [hq] at hb ⊢; exact hb)) (fun i d d' hd hG => by
     have hxi : i < t.cps.length := by rw [← HLEN.out]; exact (List.getElem?_eq_some_iff.1 hd).1
     obtain ⟨x', hx'⟩ : ∃ x, t.cps[i]? = some x := ⟨_, List.getElem?_eq_getElem hxi⟩
     obtain ⟨k1, k2, k3, k4⟩ := HH.out.col i x' d hx' hd
     obtain ⟨l, hl⟩ : ∃ l, d.rows[m]? = some l := ⟨_, List.getElem?_eq_getElem (by have := HM.out; omega)⟩
     obtain ⟨g1, g2, g3, g4⟩ := hG l hl
     exact ⟨g2, g3, g4, by rw [g1, hlm, List.length_take, List.length_set, k4, HM.out]; omega⟩) (by rw [hlm]; have := HM.out; omega)
   have hput : ∀ (i : Nat) (d d' : CD), t.cols[i]? = some d → D[i]? = some d' → DropG r m i d d' := by
    intro i d d' hd hd'
    obtain ⟨d'', h1, h2⟩ := HST.out.done i d (by have := (List.getElem?_eq_some_iff.1 hd).1; have := HLEN.out; have := HN.out; omega) hd
    rw [h1] at hd'
    cases hd'
    exact h2
   have hdrop : Dropped B t r m x w ((wr.setCell ⟨q', r, none⟩ (.int .u64 x)).setCell ⟨t.tb, 5, none⟩ (.slice t.ea m t.ec)) := ⟨D, hfin.1, hput, hfin.2.1, hfin.2.2⟩
   rw [hq] at hdrop
   have HDROP := Lib.hid hdrop
   clear hb0 hb1 he0 hset0 hqc hq hq' hlm hset1 hset2 hblk2 hfin hput hdrop
   by_cases hrm : r = m
   ·have e1 : ((r : Int) == (m : Int)) = true := by rw [hrm]; simp
    have HRM := Lib.hid hrm
    clear hrm
    go_wp2_with fail
    go_ret2
    have hd := HDROP.out
    rw [HRM.out] at hd
    exact ⟨ret_ui (by first | rfl | rw [if_pos HRM.out]) rfl, hd⟩
   ·have e1 : ((r : Int) == (m : Int)) = false := by rw [beq_eq_false_iff_ne]; omega
    have HRM := Lib.hid hrm
    clear hrm
    go_wp2_with fail
    go_ret2
    exact ⟨ret_ui (by first | rfl | rw [if_neg HRM.out]) rfl, HDROP.out⟩
end
end Go.Proofs.YthmpknlgkflhiabGreat
