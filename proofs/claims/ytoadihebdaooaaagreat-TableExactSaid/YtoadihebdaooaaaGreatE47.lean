/- The law's switch: a row less. Printed by mkZW.py. · The rule wp_region_mem with the frame as a letter. -/
import Derived.Test.YtoadihebdaooaaaGreatE46
import Derived.Test.YtoadihebdaooaaaGreatE36
namespace Go.Proofs.YtoadihebdaooaaaGreat
open Go.RowKit
set_option linter.unusedVariables false
section
variable {w0 : World} {UB : Nat} {ver : Int} {a : Option Addr} {len cap : Nat} {cs : List Cmp} {set : Int} {B : Nat} {t : TD} {V : List (List (List WI))} {u : UD} {rs : List URow} {w : World} {X : Nat} {x : TA} {f : Nat → Value} {d : List Deferred} {K : Act → World → Prop} {Q : Exit → Act → World → Prop}
set_option maxRecDepth 100000 in
set_option maxHeartbeats 1000000 in
theorem sw_drop (h : XP w0 UB ver a len cap cs set B t V u rs w) (hm : MatchR t V u rs) (hs : AtSw X x t UB f w) (hk : x.kind = 4) (hK : KSw w0 UB ver a len cap cs set B X x f d K) : (piece Tryz.f6 pSw).wp Tryz.prog (Exit.then K Q) ⟨(frX f).toArray, d⟩ w := by
  obtain ⟨f9, f20, f22, f192, hx⟩ := hs
  rw [hk] at f192
  obtain ⟨b0, b1, b2, b3, b4, _⟩ := hm.bd h.tab
  have hln := hm.ln
  have x1 := cell_at hx 1
  simp at x1
  have hxl := lt_some hx
  have HF := Lib.hid (And.intro f9 (And.intro f20 (And.intro f22 f192)))
  by_cases hin : 0 ≤ x.i ∧ x.i < t.ents.length
  · obtain ⟨r, hr⟩ : ∃ r : Nat, x.i = (r : Int) := ⟨x.i.toNat, by omega⟩
    obtain ⟨m, hml⟩ : ∃ m, t.ents.length = m + 1 := ⟨t.ents.length - 1, by omega⟩
    have hrm : r ≤ m := by omega
    obtain ⟨y, hy⟩ : ∃ y, rs[m]? = some y := ⟨_, List.getElem?_eq_getElem (by rw [hm.len]; omega)⟩
    obtain ⟨vl, hvl⟩ : ∃ vl, V[m]? = some vl := ⟨_, List.getElem?_eq_getElem (by rw [h.vals.len]; omega)⟩
    have hent := hm.ent m y hy
    have hd1 := tabDrop_ok h.tab r m hrm hml y.e hent
    have hd2 := fun (t' : TD) (V' : List (List (List WI))) (W : World) (hW : XP w0 UB ver a len cap cs set B t' V' u rs W) => drop16_ok u rs r m y W hW.ru b4 hrm (by rw [hln, hml]) hy
    obtain ⟨v, hv⟩ : ∃ v : Int, (if r = m then 0 else y.e) = v := ⟨_, rfl⟩
    rw [hv] at hd1 hd2
    rw [hr] at x1
    obtain ⟨uver, uca, ucl, ucc, uia, uil, uic, umost, ukept, ula, uln, ulc⟩ := u
    dsimp only [UD.v] at hd2
    have HH := Lib.hid (And.intro h (And.intro hm (And.intro hx hK)))
    have HD1 := Lib.hid hd1
    have HD2 := Lib.hid hd2
    have HY := Lib.hid (And.intro hy (And.intro hvl (And.intro hml hrm)))
    clear h hm hx hK hk hd1 hd2 hy hvl hml hent hin hv hrm hln hr
    unfold frX
    rw [f9, f20, f22, f192]
    clear f9 f20 f22 f192
    conv => arg 2; whnf
    go_wp2_with fail
    refine HD1.out.mono ?_
    rintro en w1 ⟨rfl, D, ht, hdg, ho, _⟩
    obtain ⟨h, hm, hx, hK⟩ := HH.out
    have hV := Vals.drop (e := y.e) h.tab h.vals HY.out.2.2.2 HY.out.2.2.1 HY.out.2.1 hdg
    obtain ⟨t1, hX1, hen, hcp, hkp, hmo, hset1, htb⟩ : ∃ t1, XP w0 UB ver a len cap cs set B t1 ((V.set r vl).take m) ⟨uver, uca, ucl, ucc, uia, uil, uic, umost, ukept, ula, uln, ulc⟩ rs w1 ∧ t1.ents = (t.ents.set r y.e).take m ∧ t1.cps = t.cps ∧ t1.kept = t.kept ∧ t1.most = t.most ∧ t1.set = t.set ∧ t1.tb = t.tb := ⟨_, h.table ho ht hV rfl rfl, rfl, rfl, rfl, rfl, rfl, rfl⟩
    have hx1 := ho.keep hx (h.not_act hx)
    have HX1 := Lib.hid hX1
    have HA1 := Lib.hid hx1
    have HT1 := Lib.hid (And.intro hen (And.intro hcp (And.intro hkp (And.intro hmo (And.intro hset1 htb)))))
    have x1' := cell_at hx1 1
    simp at x1'
    have hq : x.i = (r : Int) := by
      have h2 := (cell_at hx 1).symm.trans x1
      simpa using h2
    rw [hq] at x1'
    clear x1 hxl hq
    have hxl := lt_some hx1
    obtain ⟨c0, c1, c2, c3, c4, c5, hul⟩ := hX1.cells
    dsimp only at c0 c1 c2 c3 c4 c5
    clear ht hdg ho h hm hx hK hV hX1 hen hcp hkp hmo hset1 htb hx1
    go_wp2_with fail
    refine (HD2.out t1 _ w1 HX1.out).mono ?_
    rintro en w2 ⟨hb2, la', lc', rfl, hru⟩
    have HX2 := Lib.hid (HX1.out.below hb2)
    have HA2 := Lib.hid (keep hb2 HA1.out)
    have HR2 := Lib.hid hru
    clear hb2 hru x1' hxl c0 c1 c2 c3 c4 c5 hul HX1 HA1 HD1 HD2
    go_upto_region 37 with (fail)
    have hs3 := heap_alloc_new w2 (.cells (UD.cs ⟨uver, uca, ucl, ucc, uia, uil, uic, umost, ukept, la', m, lc'⟩) 99)
    have hb3 : Below w2.heap.size w2 (w2.alloc (.cells (UD.cs ⟨uver, uca, ucl, ucc, uia, uil, uic, umost, ukept, la', m, lc'⟩) 99)) := by go_grown
    dsimp only [UD.cs] at hs3 hb3
    generalize World.alloc w2 _ = W3 at *
    have HX3 := Lib.hid (HX2.out.below hb3)
    have HA3 := Lib.hid (keep hb3 HA2.out)
    have a0 := cell_at hs3 0
    have a1 := cell_at hs3 1
    have a2 := cell_at hs3 2
    have a3 := cell_at hs3 3
    have a4 := cell_at hs3 4
    have a5 := cell_at hs3 5
    simp at a0 a1 a2 a3 a4 a5
    have hvl := lt_some hs3
    obtain ⟨c0, c1, c2, c3, c4, c5, hul⟩ := HX3.out.cells
    dsimp only at c0 c1 c2 c3 c4 c5
    have g0 := free_at HX3.out.ub 0
    have g1 := free_at HX3.out.ub 1
    have g2 := free_at HX3.out.ub 2
    have g3 := free_at HX3.out.ub 3
    have g4 := free_at HX3.out.ub 4
    have g5 := free_at HX3.out.ub 5
    have HR3 := Lib.hid (HR2.out.below hb3)
    clear hs3 hb3
    go_wp2_with fail
    obtain ⟨h, hm, hx, hK⟩ := HH.out
    have hfin : XP w0 UB ver a len cap cs set B t1 ((V.set r vl).take m) ⟨uver, uca, ucl, ucc, uia, uil, uic, umost, ukept, la', m, lc'⟩ ((rs.set r y).take m) (setU W3 UB ⟨uver, uca, ucl, ucc, uia, uil, uic, umost, ukept, la', m, lc'⟩) := XP.put (u' := ⟨uver, uca, ucl, ucc, uia, uil, uic, umost, ukept, la', m, lc'⟩) HX3.out HR3.out ⟨rfl, rfl, rfl⟩ h.con
    have hmr : MatchR t1 ((V.set r vl).take m) ⟨uver, uca, ucl, ucc, uia, uil, uic, umost, ukept, la', m, lc'⟩ ((rs.set r y).take m) := hm.drop (t' := t1) HY.out.2.2.2 HY.out.2.2.1 HY.out.1 HY.out.2.1 HT1.out.1 HT1.out.2.1 HT1.out.2.2.1 HT1.out.2.2.2.1 la' lc'
    have hkx := setU_keep (u := ⟨uver, uca, ucl, ucc, uia, uil, uic, umost, ukept, la', m, lc'⟩) (b := UB) HA3.out (fun e => by
      have h1 := HA3.out
      rw [e, HX3.out.ub] at h1
      cases h1)
    show K _ (setU W3 UB ⟨uver, uca, ucl, ucc, uia, uil, uic, umost, ukept, la', m, lc'⟩)
    refine hK _ _ t1 ((V.set r vl).take m) ⟨uver, uca, ucl, ucc, uia, uil, uic, umost, ukept, la', m, lc'⟩ ((rs.set r y).take m) hfin hmr ?_ hkx ?_
    · rw [HT1.out.2.2.2.2.2]; rfl
    · unfold frX
      rw [HF.out.2.1, HF.out.2.2.1, HF.out.2.2.2]
      rfl
  · have hd1 := tabDrop_no h.tab x.i hin
    have hd2 := fun (W : World) => drop16_no u x.i W b4 (by rw [hln]; exact hin)
    obtain ⟨uver, uca, ucl, ucc, uia, uil, uic, umost, ukept, ula, uln, ulc⟩ := u
    dsimp only [UD.v] at hd2
    have HH := Lib.hid (And.intro h (And.intro hm (And.intro hx hK)))
    have HD1 := Lib.hid hd1
    have HD2 := Lib.hid hd2
    obtain ⟨c0, c1, c2, c3, c4, c5, hul⟩ := h.cells
    dsimp only at c0 c1 c2 c3 c4 c5
    clear h hm hx hK hk hd1 hd2 hin hln
    unfold frX
    rw [f9, f20, f22, f192]
    clear f9 f20 f22 f192
    conv => arg 2; whnf
    go_wp2_with fail
    refine HD1.out.mono ?_
    rintro en w1 ⟨rfl, rfl⟩
    go_wp2_with fail
    refine (HD2.out w).mono ?_
    rintro en w2 ⟨hb2, rfl⟩
    have HX2 := Lib.hid (HH.out.1.below hb2)
    have HA2 := Lib.hid (keep hb2 HH.out.2.2.1)
    clear hb2 x1 hxl c0 c1 c2 c3 c4 c5 hul HD1 HD2
    go_upto_region 37 with (fail)
    have hs3 := heap_alloc_new w2 (.cells (UD.cs ⟨uver, uca, ucl, ucc, uia, uil, uic, umost, ukept, ula, uln, ulc⟩) 99)
    have hb3 : Below w2.heap.size w2 (w2.alloc (.cells (UD.cs ⟨uver, uca, ucl, ucc, uia, uil, uic, umost, ukept, ula, uln, ulc⟩) 99)) := by go_grown
    dsimp only [UD.cs] at hs3 hb3
    generalize World.alloc w2 _ = W3 at *
    have HX3 := Lib.hid (HX2.out.below hb3)
    have HA3 := Lib.hid (keep hb3 HA2.out)
    have a0 := cell_at hs3 0
    have a1 := cell_at hs3 1
    have a2 := cell_at hs3 2
    have a3 := cell_at hs3 3
    have a4 := cell_at hs3 4
    have a5 := cell_at hs3 5
    simp at a0 a1 a2 a3 a4 a5
    have hvl := lt_some hs3
    obtain ⟨c0, c1, c2, c3, c4, c5, hul⟩ := HX3.out.cells
    dsimp only at c0 c1 c2 c3 c4 c5
    have g0 := free_at HX3.out.ub 0
    have g1 := free_at HX3.out.ub 1
    have g2 := free_at HX3.out.ub 2
    have g3 := free_at HX3.out.ub 3
    have g4 := free_at HX3.out.ub 4
    have g5 := free_at HX3.out.ub 5
    clear hs3 hb3
    go_wp2_with fail
    obtain ⟨h, hm, hx, hK⟩ := HH.out
    have hfin : XP w0 UB ver a len cap cs set B t V ⟨uver, uca, ucl, ucc, uia, uil, uic, umost, ukept, ula, uln, ulc⟩ rs (setU W3 UB ⟨uver, uca, ucl, ucc, uia, uil, uic, umost, ukept, ula, uln, ulc⟩) := XP.put (u' := ⟨uver, uca, ucl, ucc, uia, uil, uic, umost, ukept, ula, uln, ulc⟩) HX3.out HX3.out.ru ⟨rfl, rfl, rfl⟩ h.con
    have hkx := setU_keep (u := ⟨uver, uca, ucl, ucc, uia, uil, uic, umost, ukept, ula, uln, ulc⟩) (b := UB) HA3.out (fun e => by
      have h1 := HA3.out
      rw [e, HX3.out.ub] at h1
      cases h1)
    show K _ (setU W3 UB ⟨uver, uca, ucl, ucc, uia, uil, uic, umost, ukept, ula, uln, ulc⟩)
    refine hK _ _ t V ⟨uver, uca, ucl, ucc, uia, uil, uic, umost, ukept, ula, uln, ulc⟩ rs hfin hm ?_ hkx ?_
    · rfl
    · unfold frX
      rw [HF.out.2.1, HF.out.2.2.1, HF.out.2.2.2]
      rfl
end
end Go.Proofs.YtoadihebdaooaaaGreat
namespace Go.Proofs.YtoadihebdaooaaaGreat
open Go.RowKit
set_option linter.unusedVariables false
section
variable {P : Program} {l : List Oper} {Q : Exit → Act → World → Prop} {a0 : Act} {w0 : World}
theorem wp_region_memF {id : Nat} (hm : P.follows .mixedOrders = true) (hn : noDup l = true) (he : edgesB 0 l = true) (hg : (l.all fun o => o.guard.isNone) = true) (c : Nat → Value) (S : Nat → Bool) (M : (Nat → Bool) → (Nat → Value) → World → Prop)
    (hM : ∀ f g vs us w, (∀ i, S i = true → f i = g i ∧ vs i = us i) → M f vs w → M g us w) (hlen : ∀ i, S i = true → i < l.length)
    (start : ∀ vs, M (fun _ => false) vs { w0 with drawn := w0.drawn + 1 })
    (pure : ∀ (f : Nat → Bool) (vs : Nat → Value) (w : World) (i : Nat) (o : Oper) (A : Act), FrameIs l vs a0 A → S i = false → M f vs w → l[i]? = some o → (∀ e ∈ o.after, Region.binds .any e = true → f e.on = true ∧ (S e.on = false → vs e.on = c e.on)) →
      o.wp P A w (fun a' w' => a' = A.put o.dst (c i) ∧ w' = w) Q)
    (mem : ∀ (f : Nat → Bool) (vs : Nat → Value) (w : World) (i : Nat) (o : Oper) (A : Act), FrameIs l vs a0 A → S i = true → M f vs w → f i = false → l[i]? = some o → (∀ e ∈ o.after, Region.binds .any e = true → f e.on = true ∧ (S e.on = false → vs e.on = c e.on)) →
      o.wp P A w (fun a' w' => ∃ v, a' = A.put o.dst v ∧ M (setB f i) (updV vs i v) w') Q)
    (fin : ∀ (vs : Nat → Value) (w : World), M (fun _ => true) vs w → (∀ i, i < l.length → S i = false → vs i = c i) → Q .normal (putAll vs 0 l a0) w) :
    (Code.region id l.toArray true).wp P Q a0 w0 :=
  wp_region_mem hm hn he hg c S M hM hlen start (fun f vs w i o h1 h2 h3 h4 => pure f vs w i o _ (frameIs_put hn vs) h1 h2 h3 h4) (fun f vs w i o h1 h2 h3 h4 h5 => mem f vs w i o _ (frameIs_put hn vs) h1 h2 h3 h4 h5) fin
theorem step_pure {A : Act} {w : World} {o : Oper} {v : Value} (hv : (execOp A.eval o).run P w = .ok (.value v) w) : o.wp P A w (fun a' w' => a' = A.put o.dst v ∧ w' = w) Q := by
  unfold Oper.wp
  rw [hv]
  exact ⟨rfl, rfl⟩
end
end Go.Proofs.YtoadihebdaooaaaGreat
