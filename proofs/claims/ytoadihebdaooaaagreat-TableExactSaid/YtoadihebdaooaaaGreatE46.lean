/- The law's switch: a row more. Printed by mkZV.py. -/
import Derived.Test.YtoadihebdaooaaaGreatE45
namespace Go.Proofs.YtoadihebdaooaaaGreat
open Go.RowKit
set_option linter.unusedVariables false
section
variable {w0 : World} {UB : Nat} {ver : Int} {a : Option Addr} {len cap : Nat} {cs : List Cmp} {set : Int} {B : Nat} {t : TD} {V : List (List (List WI))} {u : UD} {rs : List URow} {w : World} {X : Nat} {x : TA} {f : Nat → Value} {d : List Deferred} {K : Act → World → Prop} {Q : Exit → Act → World → Prop}
theorem XP.il (h : XP w0 UB ver a len cap cs set B t V u rs w) : u.il ≤ 24 := by
  rw [← h.idl]
  exact idsTo_len _ _
theorem XP.comps (h : XP w0 UB ver a len cap cs set B t V u rs w) (hcs : CompsAt w0.heap.size w0 a len cs) : CompsAt w.heap.size w u.ca u.cl cs := by
  rw [h.con.2.1, h.con.2.2.1]
  exact (hcs.below h.bel).mono h.bel.size
/-- The reference's Add. -/
theorem XP.add16 (h : XP w0 UB ver a len cap cs set B t V u rs w) (hcs : CompsAt w0.heap.size w0 a len cs) (hp : PartsX w0 x) (h0 : 0 ≤ u.most) (h1 : u.most ≤ 256) (h2 : 0 ≤ u.kept) (h3 : u.kept ≤ 256) (h4 : u.ln ≤ 256) (e : Int) :
    Calls Tryz.prog 48 #[u.v, .int .u64 e, .slice x.pa x.pl x.pc] w fun en w' => Below w.heap.size w w' ∧ ((err16 u (idsTo set 24) cs e x.ps ≠ 0 ∧ en = .returned (.tuple #[u.v, .int .i64 (err16 u (idsTo set 24) cs e x.ps)])) ∨
      (err16 u (idsTo set 24) cs e x.ps = 0 ∧ ∃ la lc oa oc qs, en = .returned (.tuple #[UD.v { u with la := la, ln := u.ln + 1, lc := lc }, .int .i64 0]) ∧ sortF (idsTo set 24) (cv x.ps) = some (cv qs) ∧ RU 0 w' la (u.ln + 1) lc (rs ++ [⟨e, oa, qs.length, oc, qs⟩]))) :=
  add16_any u (idsTo set 24) cs rs e x.pa x.pl x.pc x.ps w h.ids h.idl (by have := h.il; omega) (h.comps hcs) h.ru h0 h1 h2 h3 h4 (h.parts hp) (by have := hp.n12; omega) (fun p hp' => by have := hp.vl p hp'; omega) hp.nil
theorem XP.not_act (h : XP w0 UB ver a len cap cs set B t V u rs w) {b : Nat} {cs' : Array Value} (hb : w.heap[b]? = some (.cells cs' 72 (0, 0))) : ¬ t.foot b := by
  intro hf
  obtain ⟨cs2, ty, fr, hh, ht⟩ := h.tab.foot_ty hf
  rw [hb] at hh
  cases hh
  rcases ht with ht | ht | ht | ht | ht <;> cases ht
theorem setU_keep {w : World} {b k : Nat} {o : Obj} {u : UD} (h : w.heap[k]? = some o) (hk : k ≠ b) : (setU w b u).heap[k]? = some o := (setU_out w b u).keep h hk
set_option maxRecDepth 100000 in
set_option maxHeartbeats 1000000 in
theorem sw_add1 (h : XP w0 UB ver a len cap cs set B t V u rs w) (hm : MatchR t V u rs) (hs : AtSw X x t UB f w) (hp : PartsX w0 x) (hcs : CompsAt w0.heap.size w0 a len cs) (hsis : sIs set = true) (hk : x.kind = 1) (hK : KSw w0 UB ver a len cap cs set B X x f d K) : (piece Tryz.f6 pSw).wp Tryz.prog (Exit.then K Q) ⟨(frX f).toArray, d⟩ w := by
  obtain ⟨f9, f20, f22, f192, hx⟩ := hs
  rw [hk] at f192
  have hes : err16 u (idsTo set 24) cs x.e x.ps = addErr t x.e x.ps := by
    have h1 := err_same (e := x.e) (ps := x.ps) h.rel h.tab.ids h.tab.set0 h.tab.set1 (by rw [h.seteq]; exact hsis) h.tab.room hm.most hm.kept hm.ln
    rwa [h.seteq] at h1
  obtain ⟨b0, b1, b2, b3, b4, _⟩ := hm.bd h.tab
  have hadd16 := fun (t' : TD) (V' : List (List (List WI))) (W : World) (hW : XP w0 UB ver a len cap cs set B t' V' u rs W) => hW.add16 hcs hp b0 b1 b2 b3 b4 x.e
  rw [hes] at hadd16
  have hln := hm.ln
  have x2 := cell_at hx 2
  have x3 := cell_at hx 3
  simp at x2 x3
  have hxl := lt_some hx
  have HF := Lib.hid (And.intro f9 (And.intro f20 (And.intro f22 f192)))
  have HPX := Lib.hid hp
  obtain ⟨uver, uca, ucl, ucc, uia, uil, uic, umost, ukept, ula, uln, ulc⟩ := u
  dsimp only at b0 b1 b2 b3 b4 hln
  dsimp only [UD.v] at hadd16
  have HH := Lib.hid (And.intro h (And.intro hm (And.intro hx hK)))
  have HAD := Lib.hid hadd16
  by_cases herr : addErr t x.e x.ps = 0
  · have hadd := tabAdd_ok h.tab x.e x.ps x.pa x.pl x.pc (fun w' ho => (h.parts hp |> fun hq => ((hp.at_.below (h.bel.trans (ho.below (fun b hb => Nat.le_trans h.le (h.tab.foot_ge (TabIn.cfoot_foot hb)).1) h.bel.size))).mono (Nat.le_trans h.bel.size ho.size)))) (by have := hp.n12; omega) herr
    rw [← hln] at hadd
    have HA := Lib.hid hadd
    have HERR := Lib.hid herr
    have HLN := Lib.hid hln
    clear h hm hx hK hk hp hes hadd16 hadd herr hln
    unfold frX
    rw [f9, f20, f22, f192]
    clear f9 f20 f22 f192
    conv => arg 2; whnf
    go_wp2_with fail
    refine HA.out.mono ?_
    rintro en w1 ⟨rfl, ea, ec, D, ht, hput, ho, _⟩
    obtain ⟨h, hm, hx, hK⟩ := HH.out
    have hao := (add_ok h.tab.ids HERR.out).2
    have hV := Vals.add (e := x.e) (ea := ea) (ec := ec) h.tab h.vals (fun y hy => by
      obtain ⟨p, q1, q2, _, q4, _⟩ := hao y hy
      exact ⟨p, q1, q4, (HPX.out.at_.2.2.2.1 p q2).2.2.2.1⟩) hput
    obtain ⟨t1, hX1, hen, hcp, hkp, hmo, hset1, htb⟩ : ∃ t1, XP w0 UB ver a len cap cs set B t1 (V ++ [addRow x.ps t]) ⟨uver, uca, ucl, ucc, uia, uil, uic, umost, ukept, ula, uln, ulc⟩ rs w1 ∧ t1.ents = t.ents ++ [x.e] ∧ t1.cps = t.cps ∧ t1.kept = t.kept ∧ t1.most = t.most ∧ t1.set = t.set ∧ t1.tb = t.tb := ⟨_, h.table ho ht hV rfl rfl, rfl, rfl, rfl, rfl, rfl, rfl⟩
    have hx1 := ho.keep hx (h.not_act hx)
    have HX1 := Lib.hid hX1
    have HA1 := Lib.hid hx1
    have HT1 := Lib.hid (And.intro hen (And.intro hcp (And.intro hkp (And.intro hmo (And.intro hset1 htb)))))
    clear x2 x3 hxl
    have x2 := cell_at hx1 2
    have x3 := cell_at hx1 3
    simp at x2 x3
    have hxl := lt_some hx1
    obtain ⟨c0, c1, c2, c3, c4, c5, hul⟩ := hX1.cells
    dsimp only at c0 c1 c2 c3 c4 c5
    clear ht hput ho h hm hx hK hao hV hX1 hen hcp hkp hmo hset1 htb hx1
    go_wp2_with fail
    refine (HAD.out t1 _ w1 HX1.out).mono ?_
    rintro en w2 ⟨hb2, ⟨hne, _⟩ | ⟨_, la', lc', oa, oc, qs, rfl, hsort, hru⟩⟩
    · exact absurd HERR.out hne
    have HX2 := Lib.hid (HX1.out.below hb2)
    have HA2 := Lib.hid (keep hb2 HA1.out)
    have HR2 := Lib.hid (And.intro hsort hru)
    clear hb2 hsort hru x2 x3 hxl c0 c1 c2 c3 c4 c5 hul HX1 HA1 HA
    go_upto_region 31 with (fail)
    have hs3 := heap_alloc_new w2 (.cells (UD.cs ⟨uver, uca, ucl, ucc, uia, uil, uic, umost, ukept, la', uln + 1, lc'⟩) 99)
    have hb3 : Below w2.heap.size w2 (w2.alloc (.cells (UD.cs ⟨uver, uca, ucl, ucc, uia, uil, uic, umost, ukept, la', uln + 1, lc'⟩) 99)) := by go_grown
    dsimp only [UD.cs] at hs3 hb3
    generalize World.alloc w2 _ = W3 at *
    have HX3 := Lib.hid (HX2.out.below hb3)
    have HA3 := Lib.hid (keep hb3 HA2.out)
    have a0 := cell_at hs3 0
    have a1 := cell_at hs3 1
    have a2 := cell_at hs3 2
    have a3 := cell_at hs3 3
    have a4 := cell_at hs3 4
    have a5 := cell_at hs3 5
    simp at a0 a1 a2 a3 a4 a5
    have hvl := lt_some hs3
    obtain ⟨c0, c1, c2, c3, c4, c5, hul⟩ := HX3.out.cells
    dsimp only at c0 c1 c2 c3 c4 c5
    have g0 := free_at HX3.out.ub 0
    have g1 := free_at HX3.out.ub 1
    have g2 := free_at HX3.out.ub 2
    have g3 := free_at HX3.out.ub 3
    have g4 := free_at HX3.out.ub 4
    have g5 := free_at HX3.out.ub 5
    have HR3 := Lib.hid (HR2.out.2.below hb3)
    clear hs3 hb3
    go_wp2_with fail
    obtain ⟨h, hm, hx, hK⟩ := HH.out
    have hfin : XP w0 UB ver a len cap cs set B t1 (V ++ [addRow x.ps t]) ⟨uver, uca, ucl, ucc, uia, uil, uic, umost, ukept, la', uln + 1, lc'⟩ (rs ++ [⟨x.e, oa, qs.length, oc, qs⟩]) (setU W3 UB ⟨uver, uca, ucl, ucc, uia, uil, uic, umost, ukept, la', uln + 1, lc'⟩) := XP.put (u' := ⟨uver, uca, ucl, ucc, uia, uil, uic, umost, ukept, la', uln + 1, lc'⟩) HX3.out HR3.out ⟨rfl, rfl, rfl⟩ h.con
    have hrow := sort_row h.tab.ids (by rw [h.seteq]; exact HR2.out.1)
    have hmr : MatchR t1 (V ++ [addRow x.ps t]) ⟨uver, uca, ucl, ucc, uia, uil, uic, umost, ukept, la', uln + 1, lc'⟩ (rs ++ [⟨x.e, oa, qs.length, oc, qs⟩]) := hm.add (t' := t1) h.vals.len HT1.out.1 HT1.out.2.1 HT1.out.2.2.1 HT1.out.2.2.2.1 (R := addRow x.ps t) (r := ⟨x.e, oa, qs.length, oc, qs⟩) rfl hrow la' lc'
    have hkx := setU_keep (u := ⟨uver, uca, ucl, ucc, uia, uil, uic, umost, ukept, la', uln + 1, lc'⟩) (b := UB) HA3.out (fun e => by
      have h1 := HA3.out
      rw [e, HX3.out.ub] at h1
      cases h1)
    show K _ (setU W3 UB ⟨uver, uca, ucl, ucc, uia, uil, uic, umost, ukept, la', uln + 1, lc'⟩)
    refine hK _ _ t1 (V ++ [addRow x.ps t]) ⟨uver, uca, ucl, ucc, uia, uil, uic, umost, ukept, la', uln + 1, lc'⟩ (rs ++ [⟨x.e, oa, qs.length, oc, qs⟩]) hfin hmr ?_ hkx ?_
    · rw [HT1.out.2.2.2.2.2]; rfl
    · unfold frX
      rw [HF.out.2.1, HF.out.2.2.1, HF.out.2.2.2]
      rfl
  · have hadd := tabAdd_no h.tab x.e x.ps x.pa x.pl x.pc (h.parts hp) (by have := hp.n12; omega) herr
    obtain ⟨r, hr⟩ : ∃ r, addErr t x.e x.ps = r := ⟨_, rfl⟩
    rw [hr] at hadd herr
    rw [hr] at hadd16
    have HA := Lib.hid hadd
    have HAD2 := Lib.hid hadd16
    have e4 : (r == 0) = false := by rw [beq_eq_false_iff_ne]; exact herr
    have e5 : (r != 0) = true := by rw [bne_iff_ne]; exact herr
    have HERR := Lib.hid herr
    clear h hm hx hK hk hp hes hadd16 hadd herr hln hr HAD
    unfold frX
    rw [f9, f20, f22, f192]
    clear f9 f20 f22 f192
    conv => arg 2; whnf
    go_wp2_with fail
    refine HA.out.mono ?_
    rintro en w1 ⟨rfl, hb1⟩
    obtain ⟨h, hm, hx, hK⟩ := HH.out
    have hX1 := h.below hb1
    have hx1 := keep hb1 hx
    have HX1 := Lib.hid hX1
    have HA1 := Lib.hid hx1
    clear x2 x3 hxl
    have x2 := cell_at hx1 2
    have x3 := cell_at hx1 3
    simp at x2 x3
    have hxl := lt_some hx1
    obtain ⟨c0, c1, c2, c3, c4, c5, hul⟩ := hX1.cells
    dsimp only at c0 c1 c2 c3 c4 c5
    clear hb1 h hm hx hK hX1 hx1
    go_wp2_with fail
    refine (HAD2.out t _ w1 HX1.out).mono ?_
    rintro en w2 ⟨hb2, ⟨_, rfl⟩ | ⟨h0, _⟩⟩
    case inr => exact absurd h0 HERR.out
    have HX2 := Lib.hid (HX1.out.below hb2)
    have HA2 := Lib.hid (keep hb2 HA1.out)
    clear hb2 x2 x3 hxl c0 c1 c2 c3 c4 c5 hul HX1 HA1 HA
    go_upto_region 31 with (fail)
    have hs3 := heap_alloc_new w2 (.cells (UD.cs ⟨uver, uca, ucl, ucc, uia, uil, uic, umost, ukept, ula, uln, ulc⟩) 99)
    have hb3 : Below w2.heap.size w2 (w2.alloc (.cells (UD.cs ⟨uver, uca, ucl, ucc, uia, uil, uic, umost, ukept, ula, uln, ulc⟩) 99)) := by go_grown
    dsimp only [UD.cs] at hs3 hb3
    generalize World.alloc w2 _ = W3 at *
    have HX3 := Lib.hid (HX2.out.below hb3)
    have HA3 := Lib.hid (keep hb3 HA2.out)
    have a0 := cell_at hs3 0
    have a1 := cell_at hs3 1
    have a2 := cell_at hs3 2
    have a3 := cell_at hs3 3
    have a4 := cell_at hs3 4
    have a5 := cell_at hs3 5
    simp at a0 a1 a2 a3 a4 a5
    have hvl := lt_some hs3
    obtain ⟨c0, c1, c2, c3, c4, c5, hul⟩ := HX3.out.cells
    dsimp only at c0 c1 c2 c3 c4 c5
    have g0 := free_at HX3.out.ub 0
    have g1 := free_at HX3.out.ub 1
    have g2 := free_at HX3.out.ub 2
    have g3 := free_at HX3.out.ub 3
    have g4 := free_at HX3.out.ub 4
    have g5 := free_at HX3.out.ub 5
    clear hs3 hb3
    go_wp2_with fail
    obtain ⟨h, hm, hx, hK⟩ := HH.out
    have hfin := XP.put (u' := ⟨uver, uca, ucl, ucc, uia, uil, uic, umost, ukept, ula, uln, ulc⟩) HX3.out HX3.out.ru ⟨rfl, rfl, rfl⟩ h.con
    have hkx := setU_keep (u := ⟨uver, uca, ucl, ucc, uia, uil, uic, umost, ukept, ula, uln, ulc⟩) (b := UB) HA3.out (fun e => by
      have h1 := HA3.out
      rw [e, HX3.out.ub] at h1
      cases h1)
    show K _ (setU W3 UB ⟨uver, uca, ucl, ucc, uia, uil, uic, umost, ukept, ula, uln, ulc⟩)
    refine hK _ _ t V ⟨uver, uca, ucl, ucc, uia, uil, uic, umost, ukept, ula, uln, ulc⟩ rs hfin hm ?_ hkx ?_
    · rfl
    · unfold frX
      rw [HF.out.2.1, HF.out.2.2.1, HF.out.2.2.2]
      rfl
set_option maxRecDepth 100000 in
set_option maxHeartbeats 1000000 in
theorem sw_add2 (h : XP w0 UB ver a len cap cs set B t V u rs w) (hm : MatchR t V u rs) (hs : AtSw X x t UB f w) (hp : PartsX w0 x) (hcs : CompsAt w0.heap.size w0 a len cs) (hsis : sIs set = true) (hk : x.kind = 2) (hK : KSw w0 UB ver a len cap cs set B X x f d K) : (piece Tryz.f6 pSw).wp Tryz.prog (Exit.then K Q) ⟨(frX f).toArray, d⟩ w := by
  obtain ⟨f9, f20, f22, f192, hx⟩ := hs
  rw [hk] at f192
  have hes : err16 u (idsTo set 24) cs x.e x.ps = addErr t x.e x.ps := by
    have h1 := err_same (e := x.e) (ps := x.ps) h.rel h.tab.ids h.tab.set0 h.tab.set1 (by rw [h.seteq]; exact hsis) h.tab.room hm.most hm.kept hm.ln
    rwa [h.seteq] at h1
  obtain ⟨b0, b1, b2, b3, b4, _⟩ := hm.bd h.tab
  have hadd16 := fun (t' : TD) (V' : List (List (List WI))) (W : World) (hW : XP w0 UB ver a len cap cs set B t' V' u rs W) => hW.add16 hcs hp b0 b1 b2 b3 b4 x.e
  rw [hes] at hadd16
  have hln := hm.ln
  have x2 := cell_at hx 2
  have x3 := cell_at hx 3
  simp at x2 x3
  have hxl := lt_some hx
  have HF := Lib.hid (And.intro f9 (And.intro f20 (And.intro f22 f192)))
  have HPX := Lib.hid hp
  obtain ⟨uver, uca, ucl, ucc, uia, uil, uic, umost, ukept, ula, uln, ulc⟩ := u
  dsimp only at b0 b1 b2 b3 b4 hln
  dsimp only [UD.v] at hadd16
  have HH := Lib.hid (And.intro h (And.intro hm (And.intro hx hK)))
  have HAD := Lib.hid hadd16
  by_cases herr : addErr t x.e x.ps = 0
  · have hadd := tabAdd_ok h.tab x.e x.ps x.pa x.pl x.pc (fun w' ho => (h.parts hp |> fun hq => ((hp.at_.below (h.bel.trans (ho.below (fun b hb => Nat.le_trans h.le (h.tab.foot_ge (TabIn.cfoot_foot hb)).1) h.bel.size))).mono (Nat.le_trans h.bel.size ho.size)))) (by have := hp.n12; omega) herr
    rw [← hln] at hadd
    have HA := Lib.hid hadd
    have HERR := Lib.hid herr
    have HLN := Lib.hid hln
    clear h hm hx hK hk hp hes hadd16 hadd herr hln
    unfold frX
    rw [f9, f20, f22, f192]
    clear f9 f20 f22 f192
    conv => arg 2; whnf
    go_wp2_with fail
    refine HA.out.mono ?_
    rintro en w1 ⟨rfl, ea, ec, D, ht, hput, ho, _⟩
    obtain ⟨h, hm, hx, hK⟩ := HH.out
    have hao := (add_ok h.tab.ids HERR.out).2
    have hV := Vals.add (e := x.e) (ea := ea) (ec := ec) h.tab h.vals (fun y hy => by
      obtain ⟨p, q1, q2, _, q4, _⟩ := hao y hy
      exact ⟨p, q1, q4, (HPX.out.at_.2.2.2.1 p q2).2.2.2.1⟩) hput
    obtain ⟨t1, hX1, hen, hcp, hkp, hmo, hset1, htb⟩ : ∃ t1, XP w0 UB ver a len cap cs set B t1 (V ++ [addRow x.ps t]) ⟨uver, uca, ucl, ucc, uia, uil, uic, umost, ukept, ula, uln, ulc⟩ rs w1 ∧ t1.ents = t.ents ++ [x.e] ∧ t1.cps = t.cps ∧ t1.kept = t.kept ∧ t1.most = t.most ∧ t1.set = t.set ∧ t1.tb = t.tb := ⟨_, h.table ho ht hV rfl rfl, rfl, rfl, rfl, rfl, rfl, rfl⟩
    have hx1 := ho.keep hx (h.not_act hx)
    have HX1 := Lib.hid hX1
    have HA1 := Lib.hid hx1
    have HT1 := Lib.hid (And.intro hen (And.intro hcp (And.intro hkp (And.intro hmo (And.intro hset1 htb)))))
    clear x2 x3 hxl
    have x2 := cell_at hx1 2
    have x3 := cell_at hx1 3
    simp at x2 x3
    have hxl := lt_some hx1
    obtain ⟨c0, c1, c2, c3, c4, c5, hul⟩ := hX1.cells
    dsimp only at c0 c1 c2 c3 c4 c5
    clear ht hput ho h hm hx hK hao hV hX1 hen hcp hkp hmo hset1 htb hx1
    go_wp2_with fail
    refine (HAD.out t1 _ w1 HX1.out).mono ?_
    rintro en w2 ⟨hb2, ⟨hne, _⟩ | ⟨_, la', lc', oa, oc, qs, rfl, hsort, hru⟩⟩
    · exact absurd HERR.out hne
    have HX2 := Lib.hid (HX1.out.below hb2)
    have HA2 := Lib.hid (keep hb2 HA1.out)
    have HR2 := Lib.hid (And.intro hsort hru)
    clear hb2 hsort hru x2 x3 hxl c0 c1 c2 c3 c4 c5 hul HX1 HA1 HA
    go_upto_region 31 with (fail)
    have hs3 := heap_alloc_new w2 (.cells (UD.cs ⟨uver, uca, ucl, ucc, uia, uil, uic, umost, ukept, la', uln + 1, lc'⟩) 99)
    have hb3 : Below w2.heap.size w2 (w2.alloc (.cells (UD.cs ⟨uver, uca, ucl, ucc, uia, uil, uic, umost, ukept, la', uln + 1, lc'⟩) 99)) := by go_grown
    dsimp only [UD.cs] at hs3 hb3
    generalize World.alloc w2 _ = W3 at *
    have HX3 := Lib.hid (HX2.out.below hb3)
    have HA3 := Lib.hid (keep hb3 HA2.out)
    have a0 := cell_at hs3 0
    have a1 := cell_at hs3 1
    have a2 := cell_at hs3 2
    have a3 := cell_at hs3 3
    have a4 := cell_at hs3 4
    have a5 := cell_at hs3 5
    simp at a0 a1 a2 a3 a4 a5
    have hvl := lt_some hs3
    obtain ⟨c0, c1, c2, c3, c4, c5, hul⟩ := HX3.out.cells
    dsimp only at c0 c1 c2 c3 c4 c5
    have g0 := free_at HX3.out.ub 0
    have g1 := free_at HX3.out.ub 1
    have g2 := free_at HX3.out.ub 2
    have g3 := free_at HX3.out.ub 3
    have g4 := free_at HX3.out.ub 4
    have g5 := free_at HX3.out.ub 5
    have HR3 := Lib.hid (HR2.out.2.below hb3)
    clear hs3 hb3
    go_wp2_with fail
    obtain ⟨h, hm, hx, hK⟩ := HH.out
    have hfin : XP w0 UB ver a len cap cs set B t1 (V ++ [addRow x.ps t]) ⟨uver, uca, ucl, ucc, uia, uil, uic, umost, ukept, la', uln + 1, lc'⟩ (rs ++ [⟨x.e, oa, qs.length, oc, qs⟩]) (setU W3 UB ⟨uver, uca, ucl, ucc, uia, uil, uic, umost, ukept, la', uln + 1, lc'⟩) := XP.put (u' := ⟨uver, uca, ucl, ucc, uia, uil, uic, umost, ukept, la', uln + 1, lc'⟩) HX3.out HR3.out ⟨rfl, rfl, rfl⟩ h.con
    have hrow := sort_row h.tab.ids (by rw [h.seteq]; exact HR2.out.1)
    have hmr : MatchR t1 (V ++ [addRow x.ps t]) ⟨uver, uca, ucl, ucc, uia, uil, uic, umost, ukept, la', uln + 1, lc'⟩ (rs ++ [⟨x.e, oa, qs.length, oc, qs⟩]) := hm.add (t' := t1) h.vals.len HT1.out.1 HT1.out.2.1 HT1.out.2.2.1 HT1.out.2.2.2.1 (R := addRow x.ps t) (r := ⟨x.e, oa, qs.length, oc, qs⟩) rfl hrow la' lc'
    have hkx := setU_keep (u := ⟨uver, uca, ucl, ucc, uia, uil, uic, umost, ukept, la', uln + 1, lc'⟩) (b := UB) HA3.out (fun e => by
      have h1 := HA3.out
      rw [e, HX3.out.ub] at h1
      cases h1)
    show K _ (setU W3 UB ⟨uver, uca, ucl, ucc, uia, uil, uic, umost, ukept, la', uln + 1, lc'⟩)
    refine hK _ _ t1 (V ++ [addRow x.ps t]) ⟨uver, uca, ucl, ucc, uia, uil, uic, umost, ukept, la', uln + 1, lc'⟩ (rs ++ [⟨x.e, oa, qs.length, oc, qs⟩]) hfin hmr ?_ hkx ?_
    · rw [HT1.out.2.2.2.2.2]; rfl
    · unfold frX
      rw [HF.out.2.1, HF.out.2.2.1, HF.out.2.2.2]
      rfl
  · have hadd := tabAdd_no h.tab x.e x.ps x.pa x.pl x.pc (h.parts hp) (by have := hp.n12; omega) herr
    obtain ⟨r, hr⟩ : ∃ r, addErr t x.e x.ps = r := ⟨_, rfl⟩
    rw [hr] at hadd herr
    rw [hr] at hadd16
    have HA := Lib.hid hadd
    have HAD2 := Lib.hid hadd16
    have e4 : (r == 0) = false := by rw [beq_eq_false_iff_ne]; exact herr
    have e5 : (r != 0) = true := by rw [bne_iff_ne]; exact herr
    have HERR := Lib.hid herr
    clear h hm hx hK hk hp hes hadd16 hadd herr hln hr HAD
    unfold frX
    rw [f9, f20, f22, f192]
    clear f9 f20 f22 f192
    conv => arg 2; whnf
    go_wp2_with fail
    refine HA.out.mono ?_
    rintro en w1 ⟨rfl, hb1⟩
    obtain ⟨h, hm, hx, hK⟩ := HH.out
    have hX1 := h.below hb1
    have hx1 := keep hb1 hx
    have HX1 := Lib.hid hX1
    have HA1 := Lib.hid hx1
    clear x2 x3 hxl
    have x2 := cell_at hx1 2
    have x3 := cell_at hx1 3
    simp at x2 x3
    have hxl := lt_some hx1
    obtain ⟨c0, c1, c2, c3, c4, c5, hul⟩ := hX1.cells
    dsimp only at c0 c1 c2 c3 c4 c5
    clear hb1 h hm hx hK hX1 hx1
    go_wp2_with fail
    refine (HAD2.out t _ w1 HX1.out).mono ?_
    rintro en w2 ⟨hb2, ⟨_, rfl⟩ | ⟨h0, _⟩⟩
    case inr => exact absurd h0 HERR.out
    have HX2 := Lib.hid (HX1.out.below hb2)
    have HA2 := Lib.hid (keep hb2 HA1.out)
    clear hb2 x2 x3 hxl c0 c1 c2 c3 c4 c5 hul HX1 HA1 HA
    go_upto_region 31 with (fail)
    have hs3 := heap_alloc_new w2 (.cells (UD.cs ⟨uver, uca, ucl, ucc, uia, uil, uic, umost, ukept, ula, uln, ulc⟩) 99)
    have hb3 : Below w2.heap.size w2 (w2.alloc (.cells (UD.cs ⟨uver, uca, ucl, ucc, uia, uil, uic, umost, ukept, ula, uln, ulc⟩) 99)) := by go_grown
    dsimp only [UD.cs] at hs3 hb3
    generalize World.alloc w2 _ = W3 at *
    have HX3 := Lib.hid (HX2.out.below hb3)
    have HA3 := Lib.hid (keep hb3 HA2.out)
    have a0 := cell_at hs3 0
    have a1 := cell_at hs3 1
    have a2 := cell_at hs3 2
    have a3 := cell_at hs3 3
    have a4 := cell_at hs3 4
    have a5 := cell_at hs3 5
    simp at a0 a1 a2 a3 a4 a5
    have hvl := lt_some hs3
    obtain ⟨c0, c1, c2, c3, c4, c5, hul⟩ := HX3.out.cells
    dsimp only at c0 c1 c2 c3 c4 c5
    have g0 := free_at HX3.out.ub 0
    have g1 := free_at HX3.out.ub 1
    have g2 := free_at HX3.out.ub 2
    have g3 := free_at HX3.out.ub 3
    have g4 := free_at HX3.out.ub 4
    have g5 := free_at HX3.out.ub 5
    clear hs3 hb3
    go_wp2_with fail
    obtain ⟨h, hm, hx, hK⟩ := HH.out
    have hfin := XP.put (u' := ⟨uver, uca, ucl, ucc, uia, uil, uic, umost, ukept, ula, uln, ulc⟩) HX3.out HX3.out.ru ⟨rfl, rfl, rfl⟩ h.con
    have hkx := setU_keep (u := ⟨uver, uca, ucl, ucc, uia, uil, uic, umost, ukept, ula, uln, ulc⟩) (b := UB) HA3.out (fun e => by
      have h1 := HA3.out
      rw [e, HX3.out.ub] at h1
      cases h1)
    show K _ (setU W3 UB ⟨uver, uca, ucl, ucc, uia, uil, uic, umost, ukept, ula, uln, ulc⟩)
    refine hK _ _ t V ⟨uver, uca, ucl, ucc, uia, uil, uic, umost, ukept, ula, uln, ulc⟩ rs hfin hm ?_ hkx ?_
    · rfl
    · unfold frX
      rw [HF.out.2.1, HF.out.2.2.1, HF.out.2.2.2]
      rfl
set_option maxRecDepth 100000 in
set_option maxHeartbeats 1000000 in
theorem sw_add3 (h : XP w0 UB ver a len cap cs set B t V u rs w) (hm : MatchR t V u rs) (hs : AtSw X x t UB f w) (hp : PartsX w0 x) (hcs : CompsAt w0.heap.size w0 a len cs) (hsis : sIs set = true) (hk : x.kind = 3) (hK : KSw w0 UB ver a len cap cs set B X x f d K) : (piece Tryz.f6 pSw).wp Tryz.prog (Exit.then K Q) ⟨(frX f).toArray, d⟩ w := by
  obtain ⟨f9, f20, f22, f192, hx⟩ := hs
  rw [hk] at f192
  have hes : err16 u (idsTo set 24) cs x.e x.ps = addErr t x.e x.ps := by
    have h1 := err_same (e := x.e) (ps := x.ps) h.rel h.tab.ids h.tab.set0 h.tab.set1 (by rw [h.seteq]; exact hsis) h.tab.room hm.most hm.kept hm.ln
    rwa [h.seteq] at h1
  obtain ⟨b0, b1, b2, b3, b4, _⟩ := hm.bd h.tab
  have hadd16 := fun (t' : TD) (V' : List (List (List WI))) (W : World) (hW : XP w0 UB ver a len cap cs set B t' V' u rs W) => hW.add16 hcs hp b0 b1 b2 b3 b4 x.e
  rw [hes] at hadd16
  have hln := hm.ln
  have x2 := cell_at hx 2
  have x3 := cell_at hx 3
  simp at x2 x3
  have hxl := lt_some hx
  have HF := Lib.hid (And.intro f9 (And.intro f20 (And.intro f22 f192)))
  have HPX := Lib.hid hp
  obtain ⟨uver, uca, ucl, ucc, uia, uil, uic, umost, ukept, ula, uln, ulc⟩ := u
  dsimp only at b0 b1 b2 b3 b4 hln
  dsimp only [UD.v] at hadd16
  have HH := Lib.hid (And.intro h (And.intro hm (And.intro hx hK)))
  have HAD := Lib.hid hadd16
  by_cases herr : addErr t x.e x.ps = 0
  · have hadd := tabAdd_ok h.tab x.e x.ps x.pa x.pl x.pc (fun w' ho => (h.parts hp |> fun hq => ((hp.at_.below (h.bel.trans (ho.below (fun b hb => Nat.le_trans h.le (h.tab.foot_ge (TabIn.cfoot_foot hb)).1) h.bel.size))).mono (Nat.le_trans h.bel.size ho.size)))) (by have := hp.n12; omega) herr
    rw [← hln] at hadd
    have HA := Lib.hid hadd
    have HERR := Lib.hid herr
    have HLN := Lib.hid hln
    clear h hm hx hK hk hp hes hadd16 hadd herr hln
    unfold frX
    rw [f9, f20, f22, f192]
    clear f9 f20 f22 f192
    conv => arg 2; whnf
    go_wp2_with fail
    refine HA.out.mono ?_
    rintro en w1 ⟨rfl, ea, ec, D, ht, hput, ho, _⟩
    obtain ⟨h, hm, hx, hK⟩ := HH.out
    have hao := (add_ok h.tab.ids HERR.out).2
    have hV := Vals.add (e := x.e) (ea := ea) (ec := ec) h.tab h.vals (fun y hy => by
      obtain ⟨p, q1, q2, _, q4, _⟩ := hao y hy
      exact ⟨p, q1, q4, (HPX.out.at_.2.2.2.1 p q2).2.2.2.1⟩) hput
    obtain ⟨t1, hX1, hen, hcp, hkp, hmo, hset1, htb⟩ : ∃ t1, XP w0 UB ver a len cap cs set B t1 (V ++ [addRow x.ps t]) ⟨uver, uca, ucl, ucc, uia, uil, uic, umost, ukept, ula, uln, ulc⟩ rs w1 ∧ t1.ents = t.ents ++ [x.e] ∧ t1.cps = t.cps ∧ t1.kept = t.kept ∧ t1.most = t.most ∧ t1.set = t.set ∧ t1.tb = t.tb := ⟨_, h.table ho ht hV rfl rfl, rfl, rfl, rfl, rfl, rfl, rfl⟩
    have hx1 := ho.keep hx (h.not_act hx)
    have HX1 := Lib.hid hX1
    have HA1 := Lib.hid hx1
    have HT1 := Lib.hid (And.intro hen (And.intro hcp (And.intro hkp (And.intro hmo (And.intro hset1 htb)))))
    clear x2 x3 hxl
    have x2 := cell_at hx1 2
    have x3 := cell_at hx1 3
    simp at x2 x3
    have hxl := lt_some hx1
    obtain ⟨c0, c1, c2, c3, c4, c5, hul⟩ := hX1.cells
    dsimp only at c0 c1 c2 c3 c4 c5
    clear ht hput ho h hm hx hK hao hV hX1 hen hcp hkp hmo hset1 htb hx1
    go_wp2_with fail
    refine (HAD.out t1 _ w1 HX1.out).mono ?_
    rintro en w2 ⟨hb2, ⟨hne, _⟩ | ⟨_, la', lc', oa, oc, qs, rfl, hsort, hru⟩⟩
    · exact absurd HERR.out hne
    have HX2 := Lib.hid (HX1.out.below hb2)
    have HA2 := Lib.hid (keep hb2 HA1.out)
    have HR2 := Lib.hid (And.intro hsort hru)
    clear hb2 hsort hru x2 x3 hxl c0 c1 c2 c3 c4 c5 hul HX1 HA1 HA
    go_upto_region 31 with (fail)
    have hs3 := heap_alloc_new w2 (.cells (UD.cs ⟨uver, uca, ucl, ucc, uia, uil, uic, umost, ukept, la', uln + 1, lc'⟩) 99)
    have hb3 : Below w2.heap.size w2 (w2.alloc (.cells (UD.cs ⟨uver, uca, ucl, ucc, uia, uil, uic, umost, ukept, la', uln + 1, lc'⟩) 99)) := by go_grown
    dsimp only [UD.cs] at hs3 hb3
    generalize World.alloc w2 _ = W3 at *
    have HX3 := Lib.hid (HX2.out.below hb3)
    have HA3 := Lib.hid (keep hb3 HA2.out)
    have a0 := cell_at hs3 0
    have a1 := cell_at hs3 1
    have a2 := cell_at hs3 2
    have a3 := cell_at hs3 3
    have a4 := cell_at hs3 4
    have a5 := cell_at hs3 5
    simp at a0 a1 a2 a3 a4 a5
    have hvl := lt_some hs3
    obtain ⟨c0, c1, c2, c3, c4, c5, hul⟩ := HX3.out.cells
    dsimp only at c0 c1 c2 c3 c4 c5
    have g0 := free_at HX3.out.ub 0
    have g1 := free_at HX3.out.ub 1
    have g2 := free_at HX3.out.ub 2
    have g3 := free_at HX3.out.ub 3
    have g4 := free_at HX3.out.ub 4
    have g5 := free_at HX3.out.ub 5
    have HR3 := Lib.hid (HR2.out.2.below hb3)
    clear hs3 hb3
    go_wp2_with fail
    obtain ⟨h, hm, hx, hK⟩ := HH.out
    have hfin : XP w0 UB ver a len cap cs set B t1 (V ++ [addRow x.ps t]) ⟨uver, uca, ucl, ucc, uia, uil, uic, umost, ukept, la', uln + 1, lc'⟩ (rs ++ [⟨x.e, oa, qs.length, oc, qs⟩]) (setU W3 UB ⟨uver, uca, ucl, ucc, uia, uil, uic, umost, ukept, la', uln + 1, lc'⟩) := XP.put (u' := ⟨uver, uca, ucl, ucc, uia, uil, uic, umost, ukept, la', uln + 1, lc'⟩) HX3.out HR3.out ⟨rfl, rfl, rfl⟩ h.con
    have hrow := sort_row h.tab.ids (by rw [h.seteq]; exact HR2.out.1)
    have hmr : MatchR t1 (V ++ [addRow x.ps t]) ⟨uver, uca, ucl, ucc, uia, uil, uic, umost, ukept, la', uln + 1, lc'⟩ (rs ++ [⟨x.e, oa, qs.length, oc, qs⟩]) := hm.add (t' := t1) h.vals.len HT1.out.1 HT1.out.2.1 HT1.out.2.2.1 HT1.out.2.2.2.1 (R := addRow x.ps t) (r := ⟨x.e, oa, qs.length, oc, qs⟩) rfl hrow la' lc'
    have hkx := setU_keep (u := ⟨uver, uca, ucl, ucc, uia, uil, uic, umost, ukept, la', uln + 1, lc'⟩) (b := UB) HA3.out (fun e => by
      have h1 := HA3.out
      rw [e, HX3.out.ub] at h1
      cases h1)
    show K _ (setU W3 UB ⟨uver, uca, ucl, ucc, uia, uil, uic, umost, ukept, la', uln + 1, lc'⟩)
    refine hK _ _ t1 (V ++ [addRow x.ps t]) ⟨uver, uca, ucl, ucc, uia, uil, uic, umost, ukept, la', uln + 1, lc'⟩ (rs ++ [⟨x.e, oa, qs.length, oc, qs⟩]) hfin hmr ?_ hkx ?_
    · rw [HT1.out.2.2.2.2.2]; rfl
    · unfold frX
      rw [HF.out.2.1, HF.out.2.2.1, HF.out.2.2.2]
      rfl
  · have hadd := tabAdd_no h.tab x.e x.ps x.pa x.pl x.pc (h.parts hp) (by have := hp.n12; omega) herr
    obtain ⟨r, hr⟩ : ∃ r, addErr t x.e x.ps = r := ⟨_, rfl⟩
    rw [hr] at hadd herr
    rw [hr] at hadd16
    have HA := Lib.hid hadd
    have HAD2 := Lib.hid hadd16
    have e4 : (r == 0) = false := by rw [beq_eq_false_iff_ne]; exact herr
    have e5 : (r != 0) = true := by rw [bne_iff_ne]; exact herr
    have HERR := Lib.hid herr
    clear h hm hx hK hk hp hes hadd16 hadd herr hln hr HAD
    unfold frX
    rw [f9, f20, f22, f192]
    clear f9 f20 f22 f192
    conv => arg 2; whnf
    go_wp2_with fail
    refine HA.out.mono ?_
    rintro en w1 ⟨rfl, hb1⟩
    obtain ⟨h, hm, hx, hK⟩ := HH.out
    have hX1 := h.below hb1
    have hx1 := keep hb1 hx
    have HX1 := Lib.hid hX1
    have HA1 := Lib.hid hx1
    clear x2 x3 hxl
    have x2 := cell_at hx1 2
    have x3 := cell_at hx1 3
    simp at x2 x3
    have hxl := lt_some hx1
    obtain ⟨c0, c1, c2, c3, c4, c5, hul⟩ := hX1.cells
    dsimp only at c0 c1 c2 c3 c4 c5
    clear hb1 h hm hx hK hX1 hx1
    go_wp2_with fail
    refine (HAD2.out t _ w1 HX1.out).mono ?_
    rintro en w2 ⟨hb2, ⟨_, rfl⟩ | ⟨h0, _⟩⟩
    case inr => exact absurd h0 HERR.out
    have HX2 := Lib.hid (HX1.out.below hb2)
    have HA2 := Lib.hid (keep hb2 HA1.out)
    clear hb2 x2 x3 hxl c0 c1 c2 c3 c4 c5 hul HX1 HA1 HA
    go_upto_region 31 with (fail)
    have hs3 := heap_alloc_new w2 (.cells (UD.cs ⟨uver, uca, ucl, ucc, uia, uil, uic, umost, ukept, ula, uln, ulc⟩) 99)
    have hb3 : Below w2.heap.size w2 (w2.alloc (.cells (UD.cs ⟨uver, uca, ucl, ucc, uia, uil, uic, umost, ukept, ula, uln, ulc⟩) 99)) := by go_grown
    dsimp only [UD.cs] at hs3 hb3
    generalize World.alloc w2 _ = W3 at *
    have HX3 := Lib.hid (HX2.out.below hb3)
    have HA3 := Lib.hid (keep hb3 HA2.out)
    have a0 := cell_at hs3 0
    have a1 := cell_at hs3 1
    have a2 := cell_at hs3 2
    have a3 := cell_at hs3 3
    have a4 := cell_at hs3 4
    have a5 := cell_at hs3 5
    simp at a0 a1 a2 a3 a4 a5
    have hvl := lt_some hs3
    obtain ⟨c0, c1, c2, c3, c4, c5, hul⟩ := HX3.out.cells
    dsimp only at c0 c1 c2 c3 c4 c5
    have g0 := free_at HX3.out.ub 0
    have g1 := free_at HX3.out.ub 1
    have g2 := free_at HX3.out.ub 2
    have g3 := free_at HX3.out.ub 3
    have g4 := free_at HX3.out.ub 4
    have g5 := free_at HX3.out.ub 5
    clear hs3 hb3
    go_wp2_with fail
    obtain ⟨h, hm, hx, hK⟩ := HH.out
    have hfin := XP.put (u' := ⟨uver, uca, ucl, ucc, uia, uil, uic, umost, ukept, ula, uln, ulc⟩) HX3.out HX3.out.ru ⟨rfl, rfl, rfl⟩ h.con
    have hkx := setU_keep (u := ⟨uver, uca, ucl, ucc, uia, uil, uic, umost, ukept, ula, uln, ulc⟩) (b := UB) HA3.out (fun e => by
      have h1 := HA3.out
      rw [e, HX3.out.ub] at h1
      cases h1)
    show K _ (setU W3 UB ⟨uver, uca, ucl, ucc, uia, uil, uic, umost, ukept, ula, uln, ulc⟩)
    refine hK _ _ t V ⟨uver, uca, ucl, ucc, uia, uil, uic, umost, ukept, ula, uln, ulc⟩ rs hfin hm ?_ hkx ?_
    · rfl
    · unfold frX
      rw [HF.out.2.1, HF.out.2.2.1, HF.out.2.2.2]
      rfl
end
end Go.Proofs.YtoadihebdaooaaaGreat
