/- query.Rows; a nil cache's Tables. · QueryParts: its plain law: who lives is asked for, or not. · world.CheckCaps. · world.New: the walk. -/
import Derived.Test.YtgebbmfoamkfnaaGreatDoorP38
import Derived.Test.YtgebbmfoamkfnaaGreatDoorP30
import Derived.Test.YtgebbmfoamkfnaaGreatDoorP37
import Derived.Deep.RegionHeld3
namespace Go.Proofs.YtgebbmfoamkfnaaGreatDoor
open Go.RowKit
set_option linter.unusedVariables false
/-- A schema as a value. -/
def IsSch (ver : Int) (cs : List Cmp) (n : Nat) (v : Value) (w : World) : Prop := ∃ va vc, v = .agg #[.int .i64 ver, .slice va n vc] ∧ CompsAt w.heap.size w va n cs
theorem lasts_sch (ver : Int) (cs : List Cmp) (n : Nat) : Lasts (IsSch ver cs n) := fun _ _ _ ⟨va, vc, h1, h2⟩ hb => ⟨va, vc, h1, (h2.below hb).mono hb.size⟩
def rq_list (wb : Nat) (ver : Int) (cs : List Cmp) (n : Nat) (al no ck : Int) : List (Value → World → Prop) :=
  [IsV (.pointer (some ⟨wb, 0, none⟩)), IsSch ver cs n, IsV (.agg #[.int .u32 al, .int .u32 no]), IsV (.int .i64 ck), IsV (.int .i64 ck)]
theorem rq_list_lasts (wb : Nat) (ver : Int) (cs : List Cmp) (n : Nat) (al no ck : Int) : ∀ p ∈ rq_list wb ver cs n al no ck, Lasts p := by
  simp only [rq_list, List.mem_cons, List.not_mem_nil, or_false]
  rintro p hp
  repeat (rcases hp with rfl | hp; first | exact lasts_v _ | exact lasts_sch _ _ _)
  first | exact hp ▸ lasts_v _ | skip
/-- A row of an answer; what it says of whom. -/
structure RQ where
  ent : Int
  pa : Option Addr
  pn : Nat
  pc : Nat
def rqCells (r : RQ) : List Value := [.int .u64 r.ent, .slice r.pa r.pn r.pc]
def WS.rowN (S : WS) (al : Int) (e : Int) : Nat := match S.rowAt e with
  | some (s, row) => ((cvOf s row).filter fun p => hasB al p.1).length
  | none => 0
def RowsOk (S : WS) (al : Int) (l : List Int) (R : List RQ) : Prop := R.map (·.ent) = l ∧ ∀ r ∈ R, r.pn = S.rowN al r.ent
theorem RowsOk.snoc {S : WS} {al : Int} {l : List Int} {R : List RQ} (h : RowsOk S al l R) (r : RQ) (hr : r.pn = S.rowN al r.ent) : RowsOk S al (l ++ [r.ent]) (R ++ [r]) := by
  refine ⟨by rw [List.map_append, h.1]; rfl, fun x hx => ?_⟩
  rcases List.mem_append.1 hx with hx | hx
  · exact h.2 x hx
  · rw [List.mem_singleton.1 hx]; exact hr
theorem Tryz.infoQR : (Tryz.prog.info? 61).map (fun i => (i.zero, i.size, i.bytes)) = some (some (.agg #[.int .u64 0, .slice none 0 0]), 2, 32) := by kernel_rfl
theorem cv_count (al : Int) (ps : List PW) : ((cv ps).filter fun p => hasB al p.1).length = (ps.filter fun p => hasB al p.comp).length := by
  unfold cv
  rw [List.filter_map, List.length_map]; rfl
theorem cvOf_len (s : Int) (row : List (List WI)) : (cvOf s row).length ≤ 100000 := by
  unfold cvOf
  rw [List.length_zip]
  have : (idsTo s 24).length ≤ 24 := idsTo_len s 24
  omega
section
variable {w w' : World} {d : WD} {N : Nat}
/-- The parts of whoever lives, or none. -/
theorem wParts_live (h : WIn w d N) (al : Int) {e : Int} (he : e ∈ d.x.ix.liveL) : ∀ W, Below w.heap.size w W → Calls Tryz.prog 57 #[.pointer (some ⟨d.wb, 0, none⟩), .int .u64 e] W fun en w' => ∃ pa n pc ps c, en = .returned (.tuple #[.slice pa n pc, .int .i64 c]) ∧ PO W.heap.size w' pa n pc ps ∧ n ≤ 100000 ∧ (ps.filter fun p => hasB al p.comp).length = d.S.rowN al e ∧ Below W.heap.size W w' := by
  intro W hb
  have hW := h.below hb
  rcases h.cases he with ⟨i, t, hp, ht⟩ | ⟨i, r, t, hp, ht⟩
  · refine (wParts_wait hW e he hp).mono ?_
    rintro en w2 ⟨rfl, hb2⟩
    refine ⟨none, 0, 0, [], 7, rfl, ⟨World.ownsRow_nil _ _ _ _, by simp, rfl⟩, by omega, ?_, hb2⟩
    unfold WS.rowN
    rw [rowAt_wait (show d.S.who e = _ from WMid.who_wait h hp ht)]
    rfl
  · obtain ⟨v, row, hv, hvr, hV, hrl, _, hw, _⟩ := WMid.who_row h hp ht
    have hra := h.rowAt_row hp ht hw
    refine (wParts_ok hW e he hra).mono ?_
    rintro en w2 ⟨pa, pc, ps, rfl, hpo, hcv, hb2⟩
    refine ⟨pa, _, pc, ps, 0, rfl, hpo, cvOf_len _ _, ?_, hb2⟩
    unfold WS.rowN
    rw [hra, ← cv_count, hcv]
/-- The answer of 'Rows'. -/
def IsRows (S : WS) (al : Int) (l : List Int) (w : World) (e : Ending) (w' : World) : Prop := ∃ va vc R, e = .returned (.tuple #[.slice va l.length vc, .int .i64 0]) ∧ RowsOk S al l R ∧ w'.ownsRow w.heap.size 61 2 (.slice va l.length vc) l.length (R.flatMap rqCells) ∧ Below w.heap.size w w'
def IsRowsE (c : Int) (S : WS) (al : Int) (l : List Int) (w : World) (e : Ending) (w' : World) : Prop :=
  if c ≠ 0 then e = .returned (.tuple #[.slice none 0 0, .int .i64 c]) ∧ Below w.heap.size w w' else IsRows S al l w e w'
set_option maxRecDepth 100000 in
set_option maxHeartbeats 4000000 in
theorem qRows_any (h : WIn w d N) (al no : Int) (hq : QWf (al, no)) : Calls Tryz.prog 19 #[.pointer (some ⟨d.wb, 0, none⟩), .agg #[.int .u32 al, .int .u32 no]] w (IsRowsE (checkQ d.S.ver d.S.cs al no) d.S al (d.S.matchL al no) w) := by
  obtain ⟨i0, hi, hz0, hz1, hz2⟩ := info_parts Tryz.infoQR
  have hb0 : Below w.heap.size w (w.alloc (.cells #[.int .u32 al, .int .u32 no] 30)) := (Below.refl _ w).alloc (Nat.le_refl _) _
  have hqb := heap_alloc_new w (.cells #[.int .u32 al, .int .u32 no] 30)
  have h1 := h.below hb0
  have hgr : CompsWf d.g.cs ∧ d.g.cs.length ≤ 100000 := by
    obtain ⟨ca, cl, cc, bs, ws, hg⟩ := h.raw.gr
    exact ⟨hg.wf.1, by rw [hg.comps.1]; exact hg.cn.2⟩
  obtain ⟨W0, hW0⟩ : ∃ W0, w.alloc (.cells #[.int .u32 al, .int .u32 no] 30) = W0 := ⟨_, rfl⟩
  have hsz0 : w.heap.size + 1 = W0.heap.size := by rw [← hW0]; simp
  rw [hW0] at hb0 hqb h1
  have HSC := Lib.hid (fun W (hb : Below W0.heap.size W0 W) => wSchema_any (h1.below hb))
  have HCK := Lib.hid (fun W va vc (hc : CompsAt W.heap.size W va d.g.cs.length d.g.cs) => qCheck_any d.g.ver d.g.cs va d.g.cs.length vc al no W hc hgr.1 hgr.2 hq)
  have HMA := Lib.hid (fun W (hb : Below W0.heap.size W0 W) => wMatch_any (h1.below hb) al no hq.1.1 hq.1.2 hq.2.1 hq.2.2)
  have HPA : Hid (∀ e ∈ d.S.matchL al no, ∀ W, Below W0.heap.size W0 W → Calls Tryz.prog 57 #[.pointer (some ⟨d.wb, 0, none⟩), .int .u64 e] W fun en w' => ∃ pa n pc ps c, en = .returned (.tuple #[.slice pa n pc, .int .i64 c]) ∧ PO W.heap.size w' pa n pc ps ∧ n ≤ 100000 ∧ (ps.filter fun p => hasB al p.comp).length = d.S.rowN al e ∧ Below W.heap.size W w') := Lib.hid (fun e he W hb => wParts_live h1 al (List.mem_filter.1 he).1 W hb)
  have hlen : (d.S.matchL al no).length ≤ 257 := Nat.le_trans (List.length_filter_le _ _) (WMid.lbd h)
  obtain ⟨ck, hck⟩ : ∃ ck, checkQ d.g.ver d.g.cs al no = ck := ⟨_, rfl⟩
  have hck' : checkQ d.S.ver d.S.cs al no = ck := hck
  rw [hck'] 
  rw [hck] at HCK
  clear hck hck' h h1 hgr
  generalize d.S.matchL al no = L at *
  generalize d.S = S at *
  generalize d.g.cs = cs at *
  generalize d.g.ver = ver at *
  generalize d.wb = wb at *
  obtain ⟨⟨al0, al1⟩, no0, no1⟩ := hq
  have HQB := Lib.hid hqb
  have HB0 := Lib.hid hb0
  obtain ⟨n, hn⟩ : ∃ n, L.length = n := ⟨_, rfl⟩
  have HLN := Lib.hid hn
  rw [hn] at hlen
  clear hqb hb0 hn
  go_enter Tryz.func19, Tryz.ntmps19
  go_wp2_with fail
  clear hW0
  refine wp_region_frame (by kernel_rfl) (by kernel_rfl) (by kernel_rfl) (byList (rq_list wb ver cs cs.length al no ck)) (lasts_list (rq_list_lasts wb ver cs cs.length al no ck)) ?_ ?_
  · intro vs w' iq o A F hb ho hd
    have m0 : A.tmps[0]?.getD undef = (.pointer (some ⟨wb, 0, none⟩)) := F.m (by kernel_rfl) rfl
    have m3 : A.tmps[3]?.getD undef = (.pointer (some ⟨w.heap.size, 0, none⟩)) := F.m (by kernel_rfl) rfl
    have G := F.light (n := 48) (by kernel_rfl)
    clear F
    have z0 := cell_at (keep hb HQB.out) 0
    have z1 := cell_at (keep hb HQB.out) 1
    simp at z0 z1
    revert ho hd
    match iq with
    | 0 => intro ho hd; obtain rfl := (Option.some.inj ho).symm; clear hd ho; refine step_open rfl ?_; clear G; exact step_run (v := (.pointer (some ⟨wb, 0, none⟩))) (by go_simp) rfl
    | 1 => intro ho hd; obtain rfl := (Option.some.inj ho).symm; have d0 : vs 0 = (.pointer (some ⟨wb, 0, none⟩)) := hd ⟨0, .data⟩ (by simp) rfl; clear hd ho; have h14 := G.h (j := 0) (d := 14) rfl (by decide) d0; refine step_open rfl ?_; clear G; go_simp; refine (HSC.out _ hb).mono ?_; rintro e w9 ⟨va, vc, rfl, hcs9, hb9⟩; exact ⟨_, rfl, ⟨va, vc, rfl, by have := hcs9.1; exact hcs9⟩, hb9⟩
    | 2 => intro ho hd; obtain rfl := (Option.some.inj ho).symm; clear hd ho; refine step_open rfl ?_; clear G; exact step_run (v := (.agg #[.int .u32 al, .int .u32 no])) (by go_simp) rfl
    | 3 => intro ho hd; obtain rfl := (Option.some.inj ho).symm; obtain ⟨va, vc, d1, hcs1⟩ : IsSch ver cs cs.length (vs 1) w' := hd ⟨1, .data⟩ (by simp) rfl; have d2 : vs 2 = (.agg #[.int .u32 al, .int .u32 no]) := hd ⟨2, .data⟩ (by simp) rfl; clear hd ho; have h15 := G.h (j := 1) (d := 15) rfl (by decide) d1; have h16 := G.h (j := 2) (d := 16) rfl (by decide) d2; refine step_open rfl ?_; clear G; go_simp; refine (HCK.out _ va vc hcs1).mono ?_; rintro e w9 ⟨rfl, hb9⟩; exact ⟨_, rfl, rfl, hb9⟩
    | 4 => intro ho hd; obtain rfl := (Option.some.inj ho).symm; have d3 : vs 3 = (.int .i64 ck) := hd ⟨3, .data⟩ (by simp) rfl; clear hd ho; have h17 := G.h (j := 3) (d := 17) rfl (by decide) d3; refine step_open rfl ?_; clear G; exact step_run (v := (.int .i64 ck)) (by go_simp) rfl
    | n + 5 => intro ho hd; simp at ho
  · intro vs W1 hb hR
    have hv : vs 4 = .int .i64 ck := hR 4 (by simp)
    simp only [putAll, Act.put, List.setIfInBounds_toArray, List.set_cons_succ, List.set_cons_zero]
    rw [hv]
    have HB1 := Lib.hid hb
    have HQ1 := Lib.hid (keep hb HQB.out)
    have HF1 := Lib.hid (HB0.out.trans (hb.mono HB0.out.size))
    clear hR hb hv
    rcases (Decidable.em (ck = 0)).symm with hck | hck
    · go_wp2_with fail
      go_returns
      unfold IsRowsE
      rw [if_pos hck]
      exact ⟨rfl, HF1.out⟩
    subst hck
    have z0 := cell_at HQ1.out 0
    have z1 := cell_at HQ1.out 1
    simp at z0 z1
    have HMA1 := Lib.hid (HMA.out W1 HB1.out)
    go_wp2_with fail
    refine HMA1.out.mono ?_
    rintro e W2 ⟨la, lc, rfl, hlo, hb2⟩
    rw [HLN.out] at hlo ⊢
    have HLO := Lib.hid hlo
    have HB2 := Lib.hid (HB1.out.trans (hb2.mono HB1.out.size))
    have HQ2 := Lib.hid (keep hb2 HQ1.out)
    have HF2 := Lib.hid (HF1.out.trans (hb2.mono HF1.out.size))
    clear hlo hb2 HMA1 HMA z0 z1
    go_wp2_with fail
    go_loopw [7, 28] (fun o i wr => ∃ (k : Nat) (R : List RQ) (oa : Option Addr) (oc : Nat), o = .slice oa k oc ∧ i = .int .i64 (k : Int) ∧ k ≤ n ∧ RowsOk S al (L.take k) R ∧ wr.ownsRow W2.heap.size 61 2 (.slice oa k oc) k (R.flatMap rqCells) ∧ Below W2.heap.size W2 wr) (fun _ i _ => n - (intOf i).toNat)
    case atStart => exact ⟨0, [], none, 0, rfl, rfl, Nat.zero_le _, ⟨rfl, by simp⟩, World.ownsRow_nil _ _ _ _, Below.refl _ _⟩
    case round =>
      obtain ⟨k, R, oa, oc, rfl, rfl, hk, hro, hown, hb⟩ := hrel
      by_cases hlt : k < n
      · obtain ⟨q, rfl, hBq, hql, hqc⟩ := row_block (ownsRow_out HLO.out (Out.of hb (F := fun _ => False)) (fun _ _ hf => hf)) (by omega)
        obtain ⟨e, he⟩ : ∃ e, L[k]? = some e := ⟨_, List.getElem?_eq_getElem (by rw [HLN.out]; exact hlt)⟩
        have e0 := hqc k (.int .u64 e) (by rw [List.getElem?_map, he]; rfl)
        have g0 : (0 : Int) ≤ (k : Int) := by omega
        have g1 : (k : Int) < (n : Int) := by omega
        have HP := Lib.hid (HPA.out e (List.mem_of_getElem? he) wr (HB2.out.trans (hb.mono HB2.out.size)))
        have HTK := Lib.hid (take_snoc he)
        have HRO := Lib.hid hro
        have HOWN := Lib.hid hown
        have HB := Lib.hid hb
        have hqr := keep hb HQ2.out
        have HQR := Lib.hid hqr
        have hwq : w.heap.size < wr.heap.size := lt_some hqr
        clear he hqc hro hown hb hqr
        go_wp2_with fail
        refine HP.out.mono ?_
        rintro en w2 ⟨pa, pn, pc, ps, c, rfl, hpo, hpn, hrn, hb2⟩
        have HDEL := Lib.hid (delQ_any wr.heap.size w.heap.size al al0 al1 pa pn pc ps w2 hpo hwq hb2.size (by rw [cell_at (keep hb2 HQR.out)]; rfl) hpn)
        have HRN := Lib.hid hrn
        have HB2x := Lib.hid hb2
        clear hpo hrn hb2 HP
        unfold rqClo at HDEL
        go_wp2_with fail
        refine HDEL.out.mono ?_
        rintro en w3 ⟨m, rfl, hpo3, hmn, hb3⟩
        have hb23 := HB2x.out.trans hb3
        have hpm : m = S.rowN al e := by rw [← HRN.out]; exact hpo3.len.symm
        have hbr := HB.out.trans (hb23.mono HB.out.size)
        have HBR := Lib.hid hbr
        have hsz3 := hbr.size
        have HA := Lib.hid ((ownsRow_out HOWN.out (Out.of hb23 (F := fun _ => False)) (fun _ _ hf => hf)).alloc (.cells #[.int .u64 e, .slice pa m pc] 61))
        have HRO3 := Lib.hid (HRO.out.snoc ⟨e, pa, m, pc⟩ hpm)
        have HNEWS : Hid (∀ j u, ([.int .u64 e, .slice pa m pc] : List Value)[j]? = some u → (w3.alloc (.cells #[.int .u64 e, .slice pa m pc] 61)).cell? ((⟨w3.heap.size, 0, none⟩ : Addr).add j) = some u) := Lib.hid (World.news_of_block (w := w3.alloc (.cells #[.int .u64 e, .slice pa m pc] 61)) (cs := #[.int .u64 e, .slice pa m pc]) (t := 61) (fr := (0, 0)) (heap_alloc_new w3 _))
        clear hb23 hbr hpo3 hb3 HDEL hpm HRN HB2x
        go_wp2_with (at_builtin; refine wpList_append_own _ rfl (.tmp 38) (.tmp 44) 54 rfl W2.heap.size 61 i0 (.agg #[.int .u64 0, .slice none 0 0]) 2 32 Tryz.underlying54 hi hz0 hz1 hz2 rfl (by decide) (.slice oa k oc) k _ rfl HA.out ⟨w3.heap.size, 0, none⟩ 1 1 [.int .u64 e, .slice pa m pc] rfl rfl HNEWS.out (fun u hu => by simp at hu; rcases hu with rfl | rfl <;> rfl) (by unfold maxLen; omega) (by omega) (by simp; omega) ?_)
        intro v' w5 hown5 hg5 _
        obtain ⟨va', vc', hv'⟩ := ownsRow_slice hown5
        rw [hv'] at hown5 ⊢
        clear hv'
        have HB5 := Lib.hid ((HBR.out.alloc hsz3 (.cells #[.int .u64 e, .slice pa m pc] 61)).trans (below_own HA.out hg5 (by simp; omega)))
        have HO5 := Lib.hid hown5
        clear hown5 hg5 HA HNEWS HBR
        go_wp2_with fail
        go_roundw
        case rel => exact ⟨k + 1, R ++ [⟨e, pa, m, pc⟩], va', vc', rfl, by go_num, by omega, by rw [HTK.out]; exact HRO3.out, by rw [List.flatMap_append]; exact HO5.out, HB5.out⟩
        case measure => simp [intOf]; omega
      · obtain rfl : k = n := by omega
        have hfull : L.take k = L := by rw [← HLN.out, List.take_length]
        rw [hfull] at hro
        have HFIN : Hid (RowsOk S al L R ∧ wr.ownsRow w.heap.size 61 2 (.slice oa k oc) k (R.flatMap rqCells) ∧ Below w.heap.size w wr) := Lib.hid ⟨hro, ownsRow_mono hown HF2.out.size, HF2.out.trans (hb.mono HF2.out.size)⟩
        clear hown hb hfull hro
        go_wp2_with fail
        go_returns
        unfold IsRowsE
        rw [if_neg (by simp)]
        unfold IsRows
        rw [HLN.out]
        exact ⟨oa, oc, R, rfl, HFIN.out⟩
end
end Go.Proofs.YtgebbmfoamkfnaaGreatDoor
namespace Go.Proofs.YtgebbmfoamkfnaaGreatDoor
open Go.RowKit
set_option linter.unusedVariables false
def u32B (x : Int) : Prop := 0 ≤ x ∧ x ≤ 4294967295
theorem within_zero {s : Int} (h : u32B s) : within 0 s = true := by
  rw [within_iff ⟨by omega, by omega⟩ ⟨h.1, by have := h.2; omega⟩]
  intro i _ hi
  rw [has_zero] at hi
  cases hi
theorem meets_zero {s : Int} (h : u32B s) : meets 0 s = false := by
  cases hm : meets 0 s with
  | false => rfl
  | true =>
    obtain ⟨i, _, hi, _⟩ := (meets_iff ⟨by omega, by omega⟩ ⟨h.1, by have := h.2; omega⟩).1 hm
    rw [has_zero] at hi
    cases hi
theorem meets_zero2 {s : Int} (h : u32B s) : meets s 0 = false := by
  cases hm : meets s 0 with
  | false => rfl
  | true =>
    obtain ⟨i, _, _, hi⟩ := (meets_iff ⟨h.1, by have := h.2; omega⟩ ⟨by omega, by omega⟩).1 hm
    rw [has_zero] at hi
    cases hi
def oneQ (id : Int) : Int := sWith 0 id
theorem oneQ_bd (id : Int) : u32B (oneQ id) := withBd (by omega) (by omega)
theorem oneQ_has {id i : Int} (hi : idB i = true) : hasB (oneQ id) i = (idB id && decide (i = id)) := by
  unfold oneQ
  cases hid : idB id with
  | true => rw [has_with (by omega) (by omega) hid hi, has_zero]; simp
  | false =>
    have : sWith 0 id = 0 := by unfold sWith; rw [hid]; simp
    rw [this, has_zero]; simp
theorem oneQ_ne {id : Int} (h : oneQ id ≠ 0) : idB id = true := by
  cases hid : idB id with
  | true => rfl
  | false => exact absurd (by unfold oneQ sWith; rw [hid]; simp) h
/-- A set of one is within a set just if it meets it. -/
theorem one_same {id s : Int} (h : oneQ id ≠ 0) (hs : u32B s) : within (oneQ id) s = meets (oneQ id) s := by
  have hb := oneQ_bd id
  have hid := oneQ_ne h
  have h1 : setOk (oneQ id) := ⟨hb.1, by have := hb.2; omega⟩
  have h2 : setOk s := ⟨hs.1, by have := hs.2; omega⟩
  apply Bool.eq_iff_iff.2
  rw [within_iff h1 h2, meets_iff h1 h2]
  have hself : hasB (oneQ id) id = true := by rw [oneQ_has hid, hid]; simp
  constructor
  · intro hw
    exact ⟨id, hid, hself, hw id hid hself⟩
  · rintro ⟨i, hi, h3, h4⟩ j hj h5
    rw [oneQ_has hi, hid] at h3
    rw [oneQ_has hj, hid] at h5
    have e1 : i = id := by simpa using h3
    have e2 : j = id := by simpa using h5
    rw [e2, ← e1]
    exact h4
theorem sIs_zero : sIs 0 = true := by decide
theorem oneQ_is (id : Int) : sIs (oneQ id) = true := by
  unfold oneQ
  cases hid : idB id with
  | true => exact sIs_with (by omega) (by omega) hid sIs_zero
  | false =>
    have : sWith 0 id = 0 := by unfold sWith; rw [hid]; simp
    rw [this]; exact sIs_zero
/-- A query for all of one and one for none of it can be, or can't, alike. -/
theorem check_alike (ver : Int) (cs : List Cmp) (id : Int) : checkQ ver cs (oneQ id) 0 = checkQ ver cs 0 (oneQ id) := by
  have hh := ofF_bd (cs.map (·.id))
  have hhs : u32B (hasQ cs) := hh
  have hb := oneQ_bd id
  unfold checkQ
  rw [oneQ_is, sIs_zero, within_zero hhs, meets_zero2 hb, meets_zero hb]
  cases within (oneQ id) (hasQ cs) <;> simp
def orQ (a b : Int) : Int := bits BinOp.or .u32 a b
theorem orQ_bd (a b : Int) : u32B (orQ a b) := bits_u32 _ _ _
theorem orQ_has {a b i : Int} (ha : u32B a) (hb : u32B b) (hi : idB i = true) : hasB (orQ a b) i = (hasB a i || hasB b i) := by
  have ho := orQ_bd a b
  rw [hasB_test ⟨ho.1, by have := ho.2; omega⟩ hi, hasB_test ⟨ha.1, by have := ha.2; omega⟩ hi, hasB_test ⟨hb.1, by have := hb.2; omega⟩ hi]
  obtain ⟨x, rfl⟩ := Int.eq_ofNat_of_zero_le ha.1
  obtain ⟨y, rfl⟩ := Int.eq_ofNat_of_zero_le hb.1
  have hx := ha.2
  have hy := hb.2
  unfold orQ
  rw [u32_or_nat _ _ (by omega) (by omega), Int.toNat_natCast, Int.toNat_natCast, Int.toNat_natCast, Nat.testBit_or]
theorem within_or {a b s : Int} (ha : u32B a) (hb : u32B b) (hs : u32B s) (h : within (orQ a b) s = true) : within a s = true := by
  have ho := orQ_bd a b
  have h2 : setOk s := ⟨hs.1, by have := hs.2; omega⟩
  have h3 := (within_iff ⟨ho.1, by have := ho.2; omega⟩ h2).1 h
  rw [within_iff ⟨ha.1, by have := ha.2; omega⟩ h2]
  intro i hi hai
  exact h3 i hi (by rw [orQ_has ha hb hi, hai]; rfl)
/-- Those who live, by whether a query finds them. -/
structure QW (S : WS) : Prop where
  ok : S.ix.Ok
  set : ∀ e ∈ S.ix.liveL, u32B (S.setOf e)
section
variable {S : WS}
theorem match_all (h : QW S) {e : Int} (he : e ∈ S.ix.liveL) (a : Int) : matchB a 0 (S.setOf e) = within a (S.setOf e) := by
  unfold matchB
  rw [meets_zero (h.set e he)]; simp
theorem match_none (h : QW S) {e : Int} (he : e ∈ S.ix.liveL) (a : Int) : matchB 0 a (S.setOf e) = !meets a (S.setOf e) := by
  unfold matchB
  rw [within_zero (h.set e he)]; simp
theorem filter_two {p q : Int → Bool} : ∀ {l : List Int}, (∀ e ∈ l, q e = !p e) → (l.filter p).length + (l.filter q).length = l.length
  | [], _ => rfl
  | e :: r, h => by
    have h1 := h e (List.mem_cons_self ..)
    have ih := filter_two (p := p) (q := q) (l := r) (fun x hx => h x (List.mem_cons_of_mem _ hx))
    rw [List.filter_cons, List.filter_cons, h1]
    cases p e <;> simp <;> omega
theorem two_parts (h : QW S) {id : Int} (hn : oneQ id ≠ 0) : (S.matchL (oneQ id) 0).length + (S.matchL 0 (oneQ id)).length = S.ix.liveL.length :=
  filter_two fun e he => by rw [match_none h he, match_all h he, one_same hn (h.set e he)]
theorem apart (h : QW S) {id : Int} (hn : oneQ id ≠ 0) {e : Int} (h2 : e ∈ S.matchL 0 (oneQ id)) : e ∉ S.matchL (oneQ id) 0 := fun h1 => by
  obtain ⟨he, h2⟩ := List.mem_filter.1 h2
  obtain ⟨_, h1⟩ := List.mem_filter.1 h1
  rw [match_none h he] at h2
  rw [match_all h he, one_same hn (h.set e he)] at h1
  rw [h1] at h2
  cases h2
theorem more_in (h : QW S) {id all : Int} (ha : u32B all) {e : Int} (h1 : e ∈ S.matchL (orQ (oneQ id) all) 0) : e ∈ S.matchL (oneQ id) 0 := by
  obtain ⟨he, h1⟩ := List.mem_filter.1 h1
  rw [match_all h he] at h1
  exact List.mem_filter.2 ⟨he, by rw [match_all h he]; exact within_or (oneQ_bd id) ha (h.set e he) h1⟩
theorem range_rises (x : IX) (hn : x.gens.length ≤ 257) : ∀ n, n ≤ x.gens.length → (((List.range n).filterMap x.liveH).Pairwise fun a b => a % 4294967296 < b % 4294967296) ∧ ∀ e ∈ (List.range n).filterMap x.liveH, e % 4294967296 < n
  | 0, _ => ⟨List.Pairwise.nil, by simp⟩
  | n + 1, h => by
    obtain ⟨h1, h2⟩ := range_rises x hn n (by omega)
    rw [List.range_succ, List.filterMap_append]
    cases hv : x.live n with
    | false =>
      have e : [n].filterMap x.liveH = [] := by simp [IX.liveH, hv]
      rw [e, List.append_nil]
      exact ⟨h1, fun y hy => by have := h2 y hy; omega⟩
    | true =>
      have e : [n].filterMap x.liveH = [hOf n (x.gen n)] := by simp [IX.liveH, hv]
      have hid : hOf (n : Int) (x.gen n) % 4294967296 = (n : Int) := hOf_id (by omega) (by omega)
      rw [e]
      refine ⟨List.pairwise_append.2 ⟨h1, List.pairwise_singleton _ _, fun a ha b hb => ?_⟩, fun y hy => ?_⟩
      · rw [List.mem_singleton.1 hb, hid]
        exact h2 a ha
      · rcases List.mem_append.1 hy with hy | hy
        · have := h2 y hy; omega
        · rw [List.mem_singleton.1 hy, hid]; omega
theorem match_rises (h : QW S) (a b : Int) : (S.matchL a b).Pairwise fun a b => a % 4294967296 < b % 4294967296 :=
  ((range_rises S.ix h.ok.n2 _ (Nat.le_refl _)).1).sublist List.filter_sublist
theorem match_next (h : QW S) (a b : Int) {i : Nat} {x y : Int} (hx : (S.matchL a b)[i]? = some x) (hy : (S.matchL a b)[i + 1]? = some y) : x % 4294967296 < y % 4294967296 := by
  obtain ⟨h1, e1⟩ := List.getElem?_eq_some_iff.1 hx
  obtain ⟨h2, e2⟩ := List.getElem?_eq_some_iff.1 hy
  have := List.pairwise_iff_getElem.1 (match_rises h a b) i (i + 1) h1 h2 (by omega)
  rw [e1, e2] at this
  exact this
end
theorem WIn.qw {w : World} {d : WD} {N : Nat} (h : WIn w d N) : QW d.S := ⟨h.raw.ix.ok, fun e he => (wSig_set h he).1⟩
end Go.Proofs.YtgebbmfoamkfnaaGreatDoor
namespace Go.Proofs.YtgebbmfoamkfnaaGreatDoor
open Go.RowKit
set_option linter.unusedVariables false
section
variable {w w' : World}
theorem isWithin_any (x lo hi : Int) (w : World) : Calls Tryz.prog 80 #[.int .i64 x, .int .i64 lo, .int .i64 hi] w fun e w' => e = .returned (.bool (decide (lo ≤ x ∧ x ≤ hi))) ∧ w = w' := by
  by_cases h1 : lo ≤ x
  · by_cases h2 : x ≤ hi
    · have h3 : decide (lo ≤ x ∧ x ≤ hi) = true := by simp [h1, h2]
      rw [h3]
      go_enter Tryz.func80, Tryz.ntmps80
      go_wp2_with fail
      go_ret
      exact ⟨rfl, rfl⟩
    · have h3 : decide (lo ≤ x ∧ x ≤ hi) = false := by simp [h2]
      rw [h3]
      go_enter Tryz.func80, Tryz.ntmps80
      go_wp2_with fail
      go_ret
      exact ⟨rfl, rfl⟩
  · have h3 : decide (lo ≤ x ∧ x ≤ hi) = false := by simp [h1]
    rw [h3]
    go_enter Tryz.func80, Tryz.ntmps80
    go_wp2_with fail
    go_ret
    exact ⟨rfl, rfl⟩
set_option maxRecDepth 100000 in
set_option maxHeartbeats 1000000 in
theorem checkCaps_ok (c : CapsD) (h : CapsOk c) (w : World) : Calls Tryz.prog 43 #[.agg #[.int .i64 c.ents, .int .i64 c.rows, .int .i64 c.archs, .int .i64 c.cmds, .int .i64 c.fuel, .int .i64 c.gens]] w fun e w' => e = .returned (.int .i64 0) ∧ Below w.heap.size w w' := by
  obtain ⟨a1, a2, a3, a4, a5, a6, hcc⟩ : ∃ a1 a2 a3 a4 a5 a6, c = ⟨a1, a2, a3, a4, a5, a6⟩ := ⟨_, _, _, _, _, _, rfl⟩
  subst hcc
  have k1 := fun (W : World) => isWithin_any a1 1 256 W
  have k2 := fun (W : World) => isWithin_any a2 1 256 W
  have k3 := fun (W : World) => isWithin_any a3 1 64 W
  have k4 := fun (W : World) => isWithin_any a4 0 64 W
  have k5 := fun (W : World) => isWithin_any a5 0 4096 W
  have k6 := fun (W : World) => isWithin_any a6 1 65535 W
  rw [decide_eq_true h.ents] at k1
  rw [decide_eq_true h.rows] at k2
  rw [decide_eq_true h.archs] at k3
  rw [decide_eq_true h.cmds] at k4
  rw [decide_eq_true h.fuel] at k5
  rw [decide_eq_true h.gens] at k6
  have K1 := Lib.hid k1
  have K2 := Lib.hid k2
  have K3 := Lib.hid k3
  have K4 := Lib.hid k4
  have K5 := Lib.hid k5
  have K6 := Lib.hid k6
  clear k1 k2 k3 k4 k5 k6 h
  go_enter Tryz.func43, Tryz.ntmps43
  go_wp2_with fail
  refine (K1.out _).mono ?_
  rintro e w1 ⟨rfl, rfl⟩
  go_wp2_with fail
  refine (K2.out _).mono ?_
  rintro e w1 ⟨rfl, rfl⟩
  go_wp2_with fail
  refine (K3.out _).mono ?_
  rintro e w1 ⟨rfl, rfl⟩
  go_wp2_with fail
  refine (K4.out _).mono ?_
  rintro e w1 ⟨rfl, rfl⟩
  go_wp2_with fail
  refine (K5.out _).mono ?_
  rintro e w1 ⟨rfl, rfl⟩
  go_wp2_with fail
  refine (K6.out _).mono ?_
  rintro e w1 ⟨rfl, rfl⟩
  go_wp2_with fail
  go_ret
  exact ⟨rfl, by go_grown⟩
end
end Go.Proofs.YtgebbmfoamkfnaaGreatDoor
namespace Go.Proofs.YtgebbmfoamkfnaaGreatDoor
open Go.RowKit
set_option linter.unusedVariables false
section
variable {w w' : World}
theorem gNew_ok (ver : Int) (cs : List Cmp) (a : Option Addr) (len cap : Nat) (archs rows : Int) (w : World) (hcs : CompsAt w.heap.size w a len cs) (hw : CompsWf cs) (hl : len ≤ 100000) (hf : ∀ c ∈ cs, c.fields.length ≤ 100000) (hn : a = none → len = 0 ∧ cap = 0) (hs : schemaCheck ver cs = 0) (a1 : 1 ≤ archs ∧ archs ≤ 64) (r1 : 1 ≤ rows ∧ rows ≤ 256) :
    Calls Tryz.prog 45 #[.agg #[.int .i64 ver, .slice a len cap], .int .i64 archs, .int .i64 rows] w fun e w' => ∃ gb mb wmb ta tc, e = .returned (.pointer (some ⟨gb, 0, none⟩)) ∧ Graph 0 gb (GS0 ver cs archs rows) mb wmb ta tc w' ∧ (∀ b, gfoot gb mb wmb ta b → w.heap.size ≤ b) ∧ Below w.heap.size w w' := by
  refine (graphNew_any ver cs a len cap archs rows w hcs hw hl hf hn).mono ?_
  rintro e w' ⟨hb, hif⟩
  rw [if_pos (show newOk ver cs archs rows = true by simp [newOk, hs]; omega)] at hif
  obtain ⟨B1, gb, mb, wb, ta, tc, rfl, h1, h2, h3⟩ := hif
  exact ⟨gb, mb, wb, ta, tc, rfl, h2.mono0, h3, hb⟩
/-- The answer of world.New: its parts' places. -/
def NewW (c : CapsD) (ver : Int) (cs : List Cmp) (n : Nat) (w : World) (w' : World) (wb : Nat) : Prop :=
  ∃ x gb mb wmb ta tc ab, x.ix = newIX n c.gens ∧ XIn w' x ∧ Graph 0 gb (GS0 ver cs c.archs c.rows) mb wmb ta tc w' ∧ w'.heap[ab]? = some (.map #[] 0) ∧
    (∀ b, x.foot b → w.heap.size ≤ b) ∧ (∀ b, gfoot gb mb wmb ta b → w.heap.size ≤ b) ∧ w.heap.size ≤ ab ∧ w.heap.size ≤ wb ∧ Below w.heap.size w w' ∧ ab ≠ mb ∧ ab ≠ wmb ∧
    w'.heap[wb]? = some (.cells #[.int .i64 c.ents, .int .i64 c.rows, .int .i64 c.archs, .int .i64 c.cmds, .int .i64 c.fuel, .int .i64 c.gens, .pointer (some ⟨x.xb, 0, none⟩), .pointer (some ⟨gb, 0, none⟩), .map (some ab)] 111 (0, 0))
theorem gfoot_lt {gb mb wmb tc : Nat} {g : GS} {ta : Option Addr} {W : World} (h : Graph 0 gb g mb wmb ta tc W) {b : Nat} (hb : gfoot gb mb wmb ta b) : b < W.heap.size := by
  rcases h.kin hb with k | ⟨k, _⟩
  · obtain ⟨_, _, _, h1, _⟩ := k
    exact lt_some h1
  · obtain ⟨_, _, h1⟩ := k
    exact lt_some h1
theorem newW_end {c : CapsD} {ver : Int} {cs : List Cmp} {n : Nat} {w W : World} {x : XD} {gb mb wmb tc ab : Nat} {ta : Option Addr} (hB : Below w.heap.size w W) (hix : x.ix = newIX n c.gens) (hX : XIn W x) (hG : Graph 0 gb (GS0 ver cs c.archs c.rows) mb wmb ta tc W) (hab : W.heap[ab]? = some (.map #[] 0))
    (hxf : ∀ b, x.foot b → w.heap.size ≤ b) (hgf : ∀ b, gfoot gb mb wmb ta b → w.heap.size ≤ b) (ha : w.heap.size ≤ ab) (hn : ab ≠ mb ∧ ab ≠ wmb) :
    NewW c ver cs n w (W.alloc (.cells #[.int .i64 c.ents, .int .i64 c.rows, .int .i64 c.archs, .int .i64 c.cmds, .int .i64 c.fuel, .int .i64 c.gens, .pointer (some ⟨x.xb, 0, none⟩), .pointer (some ⟨gb, 0, none⟩), .map (some ab)] 111)) W.heap.size := by
  have hA : Below W.heap.size W (W.alloc (.cells #[.int .i64 c.ents, .int .i64 c.rows, .int .i64 c.archs, .int .i64 c.cmds, .int .i64 c.fuel, .int .i64 c.gens, .pointer (some ⟨x.xb, 0, none⟩), .pointer (some ⟨gb, 0, none⟩), .map (some ab)] 111)) := (Below.refl _ W).alloc (Nat.le_refl _) _
  exact ⟨x, gb, mb, wmb, ta, tc, ab, hix, hX.below hA, hG.below hA, (hA.block _ (by rcases Nat.lt_or_ge ab W.heap.size with h | h; exact h; rw [Array.getElem?_eq_none h] at hab; cases hab)).trans hab, hxf, hgf, ha, hB.size, hB.trans (hA.mono hB.size), hn.1, hn.2, heap_alloc_new W _⟩
set_option maxRecDepth 100000 in
set_option maxHeartbeats 4000000 in
theorem wNew_walk (c : CapsD) (h : CapsOk c) (ver : Int) (cs : List Cmp) (a : Option Addr) (len cap n : Nat) (hn : c.ents = (n : Int)) (w : World) (hcs : CompsAt w.heap.size w a len cs) (hw : CompsWf cs) (hl : len ≤ 100000) (hf : ∀ c ∈ cs, c.fields.length ≤ 100000) (hna : a = none → len = 0 ∧ cap = 0) (hs : schemaCheck ver cs = 0) :
    Calls Tryz.prog 16 #[.agg #[.int .i64 ver, .slice a len cap], .agg #[.int .i64 c.ents, .int .i64 c.rows, .int .i64 c.archs, .int .i64 c.cmds, .int .i64 c.fuel, .int .i64 c.gens]] w fun e w' => ∃ wb, e = .returned (.pointer (some ⟨wb, 0, none⟩)) ∧ NewW c ver cs n w w' wb := by
  have HCC := Lib.hid (fun (W : World) => checkCaps_ok c h W)
  obtain ⟨a1, a2, a3, a4, a5, a6, hcc⟩ : ∃ a1 a2 a3 a4 a5 a6, c = ⟨a1, a2, a3, a4, a5, a6⟩ := ⟨_, _, _, _, _, _, rfl⟩
  subst hcc
  have hn : a1 = (n : Int) := hn
  subst hn
  have hb0 : Below w.heap.size w ((w.alloc (.cells #[.int .i64 ver, .slice a len cap] 24)).alloc (.cells #[.int .i64 (n : Int), .int .i64 a2, .int .i64 a3, .int .i64 a4, .int .i64 a5, .int .i64 a6] 44)) := by go_grown
  have HB0 := Lib.hid hb0
  have HS0 := Lib.hid (keepA (.cells #[.int .i64 (n : Int), .int .i64 a2, .int .i64 a3, .int .i64 a4, .int .i64 a5, .int .i64 a6] 44) (heap_alloc_new w (.cells #[.int .i64 ver, .slice a len cap] 24)))
  have HC0 := Lib.hid (heap_alloc_new (w.alloc (.cells #[.int .i64 ver, .slice a len cap] 24)) (.cells #[.int .i64 (n : Int), .int .i64 a2, .int .i64 a3, .int .i64 a4, .int .i64 a5, .int .i64 a6] 44))
  have hsc := fun (W : World) (hb : Below w.heap.size w W) => schemaCheck_any ver cs a len cap W ((hcs.below hb).mono hb.size) hw
  rw [hs] at hsc
  have HSC := Lib.hid hsc
  have HG := Lib.hid (fun (W : World) (hb : Below w.heap.size w W) => gNew_ok ver cs a len cap a3 a2 W ((hcs.below hb).mono hb.size) hw hl hf hna hs h.archs h.rows)
  have hen := h.ents
  have hge := h.gens
  have HX := Lib.hid (fun (W : World) => xNew_ok n a6 W (by have h1 : (1 : Int) ≤ (n : Int) := hen.1; omega) (by have h1 : (n : Int) ≤ 256 := hen.2; omega) hge.1 hge.2)
  clear h hb0 hcs hw hl hf hna hs hsc hen hge
  go_enter Tryz.func16, Tryz.ntmps16
  go_wp2_with fail
  refine (HSC.out _ HB0.out).mono ?_
  rintro e w1 ⟨rfl, hb1⟩
  have hc1 := keep hb1 HC0.out
  have x0 := cell_at hc1 0
  have x1 := cell_at hc1 1
  have x2 := cell_at hc1 2
  have x3 := cell_at hc1 3
  have x4 := cell_at hc1 4
  have x5 := cell_at hc1 5
  simp at x0 x1 x2 x3 x4 x5
  go_wp2_with fail
  refine (HCC.out _).mono ?_
  rintro e w2 ⟨rfl, hb2⟩
  have HB2 := Lib.hid (HB0.out.trans ((hb1.mono HB0.out.size).trans (hb2.mono (HB0.out.trans (hb1.mono HB0.out.size)).size)))
  have hs2 := keep hb2 (keep hb1 HS0.out)
  have hc2 := keep hb2 hc1
  have u0 := cell_at hs2 0
  have u1 := cell_at hs2 1
  have y0 := cell_at hc2 0
  have y1 := cell_at hc2 1
  have y2 := cell_at hc2 2
  have y3 := cell_at hc2 3
  have y4 := cell_at hc2 4
  have y5 := cell_at hc2 5
  simp at u0 u1 y0 y1 y2 y3 y4 y5
  have hl2 := lt_some hs2
  have hl3 : w.heap.size + 1 < w2.heap.size := by have := lt_some hc2; simpa using this
  have hdz : w2.drew.heap.size = w2.heap.size := rfl
  clear x0 x1 x2 x3 x4 x5 hs2 hc2 hc1 hb1 hb2
  have hmm := @run_makeMap Tryz.prog
  have hsz : ∀ (W : World) (o : Obj), (W.alloc o).heap.size = W.heap.size + 1 := fun W o => by simp
  go_upto_region 3 with (fail)
  go_region_held3 (fun w' => Below w.heap.size w w' ∧ w.heap.size + 1 < w'.heap.size ∧ w'.cell? ⟨w.heap.size, 0, none⟩ = some (.int .i64 ver) ∧ w'.cell? ⟨w.heap.size, 1, none⟩ = some (.slice a len cap) ∧ w'.cell? ⟨w.heap.size + 1, 0, none⟩ = some (.int .i64 (n : Int)) ∧ w'.cell? ⟨w.heap.size + 1, 1, none⟩ = some (.int .i64 a2) ∧ w'.cell? ⟨w.heap.size + 1, 2, none⟩ = some (.int .i64 a3) ∧ w'.cell? ⟨w.heap.size + 1, 3, none⟩ = some (.int .i64 a4) ∧ w'.cell? ⟨w.heap.size + 1, 4, none⟩ = some (.int .i64 a5) ∧ w'.cell? ⟨w.heap.size + 1, 5, none⟩ = some (.int .i64 a6))
    ((go_split_ands
      refine ⟨by first | exact HB2.out.drew | assumption | (exact Below.trans (by assumption) (hbx.mono (by first | omega | (simp; omega) | (simp only [hsz] at *; omega)))) | (exact Below.alloc (by assumption) (by first | omega | (simp; omega) | (simp only [hsz] at *; omega)) _), by first | omega | (have := hbx.size; omega) | (simp; omega) | (have := hbx.size; simp only [hsz] at *; omega), ?_, ?_, ?_, ?_, ?_, ?_, ?_, ?_⟩
      all_goals first | go_keep | (refine Eq.trans (World.cell?_of_block (hbx.block _ (by first | omega | (simp; omega) | (simp only [hsz] at *; omega)))) ?_; assumption)))
    (first
      | (go_at_call 44; refine (HX.out _).mono ?_; rintro e1 wx ⟨x, rfl, hix, hXI, hXF, hbx⟩; have hbX := hbx)
      | (go_at_call 45; refine (HG.out _ (by go_split_ands; first | assumption | exact HB2.out.drew)).mono ?_; rintro e1 wx ⟨gb, mb, wmb, ta, tc, rfl, hgr, hgf, hbx⟩; have hbG := hbx))
  all_goals go_split_ands
  all_goals go_wp2_with fail
  all_goals go_ret
  · have hd := HB2.out.drew
    have hB1 := hd.trans (hbX.mono hd.size)
    have hB2 := hB1.trans (hbG.mono hB1.size)
    have ha : Below wx.heap.size wx (wx.alloc (.map #[] 0)) := (Below.refl _ wx).alloc (Nat.le_refl _) _
    have hh := newW_end (c := ⟨(n : Int), a2, a3, a4, a5, a6⟩) (ver := ver) (cs := cs) (n := n) (hB2.alloc hB2.size (.map #[] 0)) hix ((hXI.below hbG).below ha) (hgr.below ha) (heap_alloc_new wx (.map #[] 0)) (fun b hb => Nat.le_trans hd.size (hXF b hb)) (fun b hb => Nat.le_trans hB1.size (hgf b hb)) hB2.size
      ⟨fun e => Nat.lt_irrefl _ (e ▸ gfoot_lt hgr (.inr (.inl rfl))), fun e => Nat.lt_irrefl _ (e ▸ gfoot_lt hgr (.inr (.inr (.inl rfl))))⟩
    rw [hsz] at hh
    exact ⟨_, rfl, hh⟩
  · have hd := HB2.out.drew
    have hB1 := hd.trans (hbX.mono hd.size)
    have hBm := hB1.alloc hB1.size (.map #[] 0)
    have hB2 := hBm.trans (hbG.mono hBm.size)
    have hh := newW_end (c := ⟨(n : Int), a2, a3, a4, a5, a6⟩) (ver := ver) (cs := cs) (n := n) hB2 hix ((hXI.below ((Below.refl _ _).alloc (Nat.le_refl _) (.map #[] 0))).below hbG) hgr (keep hbG (heap_alloc_new _ (.map #[] 0))) (fun b hb => Nat.le_trans hd.size (hXF b hb)) (fun b hb => Nat.le_trans hBm.size (hgf b hb)) hB1.size
      ⟨fun e => by have := hgf _ (.inr (.inl rfl)); rw [hsz] at this; omega, fun e => by have := hgf _ (.inr (.inr (.inl rfl))); rw [hsz] at this; omega⟩
    exact ⟨_, rfl, hh⟩
  · have hd := (HB2.out.alloc HB2.out.size (.map #[] 0)).drew
    have hB1 := hd.trans (hbX.mono hd.size)
    have hB2 := hB1.trans (hbG.mono hB1.size)
    have hz : w2.heap.size + 1 ≤ (w2.alloc (.map #[] 0)).drew.heap.size := by rw [← hsz w2 (.map #[] 0)]; exact Nat.le_refl _
    have hz1 := hbX.size
    have hh := newW_end (c := ⟨(n : Int), a2, a3, a4, a5, a6⟩) (ver := ver) (cs := cs) (n := n) hB2 hix (hXI.below hbG) hgr (keep hbG (keep hbX (show (w2.alloc (.map #[] 0)).drew.heap[w2.heap.size]? = _ from heap_alloc_new w2 (.map #[] 0)))) (fun b hb => Nat.le_trans hd.size (hXF b hb)) (fun b hb => Nat.le_trans hB1.size (hgf b hb)) HB2.out.size
      ⟨fun e => by have := hgf _ (.inr (.inl rfl)); omega, fun e => by have := hgf _ (.inr (.inr (.inl rfl))); omega⟩
    exact ⟨_, rfl, hh⟩
end
end Go.Proofs.YtgebbmfoamkfnaaGreatDoor
