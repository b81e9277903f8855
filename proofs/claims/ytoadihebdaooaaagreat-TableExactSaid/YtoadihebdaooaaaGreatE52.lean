/- TableExact: the walk of the law. Printed by mkXF.py. -/
import Derived.Test.YtoadihebdaooaaaGreatE51
import Derived.Test.YtoadihebdaooaaaGreatE21
namespace Go.Proofs.YtoadihebdaooaaaGreat
open Go.RowKit
set_option linter.unusedVariables false
theorem wp_code {P : Program} {c c' : Code} {Q : Exit → Act → World → Prop} {a : Act} {w : World} (h : c = c') (H : c'.wp P Q a w) : c.wp P Q a w := by rw [h]; exact H
def mskL : List Bool := [false, false, false, false, false, false, false, false, true, true, false, false, false, false, false, false, false, false, false, false, false, true, true, true, true, true, true, true, true, true, true, true, true, true, true, true, true, true, true, true, true, true, true, true, true, true, false, false, false, false, false, false, false, false, false, false, false, false, false, false, false, false, false, false, false, false, false, false, false, false, false, false, false, false, false, false, false, false, false, false, false, false, false, false, false, false, false, false, false, false, false, false, false, false, false, false, false, false, false, false, false, false, false, false, false, false, false, false, false, false, false, false, false, false, false, false, false, false, false, false, false, false, false, false, false, false, false, false, false, false, false, false, false, false, false, false, false, false, false, false, false, false, false, false, false, false, false, false, false, false, false, false, false, false, false, false, false, false, false, false, false, false, true, true, true, true, true, true, true, true, true, true, true, true, true, true, true, true, true, true, true, true, true, true, true, true, true, true, true, true, true, true, true, true, true, true, true, true, true, true, true, true, true, true, true, true, true, true, true, true, true, true, true, true, true, true, true, true, true, true, true, true, true, true, true, true, true, true, true, true, true, true, true, true, true, true, true, true, true, true, true, true, true, true, true, true, true, true, true, true, true, true, true, true, true, true, true, true, true, true, true, true, true, true, true, true, true, true, true, true, true, true, true, true, true, true, true, true, true, true, true, true, true, true, true, true, true, true, true, true, true, true, true, true, true, true, true, true, true, true, true, true, true, true, true, true, true, true, true, true, true, true, true, true, true, true, true, true, true, true, true, true, true, true, true, true, true, true, true, true, true, true, true, true, true, true, true, true, true, true, true, true, true, true, true, true, true, true, true, true, true, true, true, true, true, true, true, true, true, true, true, true, true, true, true, true, true, true, true, true, true, true, true, true, true, true, true, true, true, true, true, true, true, true, true, true, true, true, true, true, true, true, true, true, true, true, true, true, true, true, true, true, true, true, true, true, true, true, true, true, true, true, true, true, true, true, true]
def mskI : List Bool := [false, false, false, false, false, false, false, false, false, false, false, false, false, false, false, false, false, false, false, false, false, true, false, false, false, false, false, false, false, false, false, false, false, false, false, false, false, false, false, false, false, false, false, false, false, false, false, false, false, false, false, false, false, false, false, false, false, false, false, false, false, false, false, false, false, false, false, false, false, false, false, false, false, false, false, false, false, false, false, false, false, false, false, false, false, false, false, false, false, false, false, false, false, false, false, false, false, false, false, false, false, false, false, false, false, false, false, false, false, false, false, false, false, false, false, false, false, false, false, false, false, false, false, false, false, false, false, false, false, false, false, false, false, false, false, false, false, false, false, false, false, false, false, false, false, false, false, false, false, false, false, false, false, false, false, false, false, false, false, false, false, false, false, false, false, false, true, true, false, false, false, false, false, false, false, false, false, false, false, false, false, false, false, false, false, false, false, false, false, false, false, false, false, false, false, false, false, false, false, false, false, false, false, false, false, false, false, false, false, false, false, false, false, false, false, false, false, false, false, false, false, false, false, false, false, false, false, false, false, false, false, false, false, false, false, false, false, false, false, false, false, false, false, false, false, false, false, false, false, false, false, false, false, false, false, false, false, false, false, false, false, false, false, false, false, false, false, false, false, false, false, false, false, false, false, false, false, false, false, false, false, false, false, false, false, false, false, false, false, false, false, false, false, false, false, false, false, false, false, false, false, false, false, false, false, false, false, false, false, false, false, false, false, false, false, false, false, false, false, false, false, false, false, false, false, false, false, false, false, false, false, false, false, false, false, false, false, false, false, false, false, false, false, false, false, false, false, false, false, false, false, false, false, false, false, false, false, false, false, false, false, false, false, false, false, false, false, false, false, false, false, false, false, false, false, false, false, false, false, false, false, false, false, false, false, false, false, false, false, false, false, false, false, false, false, false, false, false, false, false, false, false, false, false, false, false, false, false, false, false, false, false, false, false, false, false, false]
def law_list13 (ver : Int) (a : Option Addr) (len cap : Nat) (set most : Int) (N n : Nat) (ids : List Int) : List (Value → World → Prop) :=
  [IsV (.agg #[.int .i64 ver, .slice a len cap]),
   IsV (.int .u32 set),
   IsRowO N 3 1 n (ids.map (.int .i64)),
   IsV (.int .i64 most),
   IsWith N 3 1 n (ids.map (.int .i64)) (fun ia ic => .agg #[.int .i64 ver, .slice a len cap, .slice ia n ic, .int .i64 most, .int .i64 0, .slice none 0 0]),
   IsPtr N 99 u0cs]
theorem law_list13_lasts (ver : Int) (a : Option Addr) (len cap : Nat) (set most : Int) (N n : Nat) (ids : List Int) : ∀ p ∈ law_list13 ver  a  len cap  set most  N n  ids , Lasts p := by
  simp only [law_list13, List.mem_cons, List.not_mem_nil, or_false]
  rintro p hp
  repeat (rcases hp with rfl | hp; first | exact lasts_v _ | exact lasts_emp _ _ _ | exact lasts_rowO _ _ _ _ _ | exact lasts_with _ _ _ _ _ _ | exact lasts_oneW _ _ _ _ _ _ _ | exact lasts_one _ _ | exact lasts_ptr _ _ _)
section
variable {w0 : World} {UB : Nat} {ver : Int} {a : Option Addr} {len cap : Nat} {cs : List Cmp} {set : Int} {B : Nat} {t : TD} {V : List (List (List WI))} {u : UD} {rs : List URow} {w : World} {l : List Value} {d : List Deferred} {K : Act → World → Prop} {Q : Exit → Act → World → Prop}
theorem round_lit (hl : l.length = 417) (h : XP w0 UB ver a len cap cs set B t V u rs w) (hm : MatchR t V u rs) (hcs : CompsAt w0.heap.size w0 a len cs) (hsis : sIs set = true) (acts : List TA) (a2 : Option Addr) (len2 cap2 : Nat) (hacts : TActsAt w0.heap.size w0 a2 len2 acts) (hnil : ∀ y ∈ acts, NilInts y.ps) (i : Nat) (hi : i < len2) (hl80 : len2 ≤ 80)
    (f1 : nthV l 1 = .int .u32 set) (f3 : nthV l 3 = .slice a2 len2 cap2) (f9 : nthV l 9 = .pointer (some ⟨t.tb, 0, none⟩)) (f20 : nthV l 20 = .pointer (some ⟨UB, 0, none⟩)) (f21 : nthV l 21 = .int .i64 (i : Int))
    (hret : ∀ (v : List Value) (w' : World), nthV v 8 = .bool true → Below w0.heap.size w0 w' → Q .ret ⟨v.toArray, d⟩ w')
    (hK : ∀ (v : List Value) (w' : World) (t' : TD) (V' : List (List (List WI))) (u' : UD) (rs' : List URow), XP w0 UB ver a len cap cs set B t' V' u' rs' w' → MatchR t' V' u' rs' → nthV v 9 = .pointer (some ⟨t'.tb, 0, none⟩) → mixF mskR (nthV v) 0 l = v → K ⟨v.toArray, d⟩ w') :
    (piece Tryz.f6 pRound).wp Tryz.prog (Exit.then K Q) ⟨l.toArray, d⟩ w := by
  have := round_any (f := nthV l) (d := d) (K := K) (Q := Q) h hm hcs hsis acts a2 len2 cap2 hacts hnil i hi hl80 f1 f3 f9 f20 f21 hret (fun v w' t' V' u' rs' h1 h2 h3 h4 => hK v w' t' V' u' rs' h1 h2 h3 (by rw [fr_nth hl] at h4; exact h4))
  rw [fr_nth hl] at this
  exact this
theorem nil_lit (hl : l.length = 417) (w : World) (f9 : nthV l 9 = .pointer none) (hret : ∀ (v : List Value) (w' : World), nthV v 8 = .bool true → Below w.heap.size w w' → Q .ret ⟨v.toArray, d⟩ w') : (piece Tryz.f6 pNil).wp Tryz.prog Q ⟨l.toArray, d⟩ w := by
  have := nil_walk (f := nthV l) (d := d) (Q := Q) w f9 hret
  rw [fr_nth hl] at this
  exact this
end
theorem nth_some : ∀ (v : List Value) (i : Nat) (x : Value), nthV v i = x → x ≠ undef → v[i]? = some x
  | [], _, _, h, hx => by rw [nthV] at h; exact absurd h.symm hx
  | y :: v, 0, x, h, _ => by rw [nthV] at h; rw [h]; rfl
  | y :: v, i + 1, x, h, hx => by rw [nthV] at h; rw [List.getElem?_cons_succ]; exact nth_some v i x h hx
theorem ret_any {post : Ending → World → Prop} {v : List Value} {w : World} (hv : nthV v 8 = .bool true) (h : post (.returned (.bool true)) w) : bodyPost Tryz.prog Tryz.f6 post Exit.ret ⟨v.toArray, []⟩ w := by
  have h8 := nth_some v 8 _ hv (by simp [undef])
  refine bodyPost_ret (v := .bool true) (by simp [results, Tryz.results6, go_sem, h8]) rfl h
set_option maxRecDepth 100000 in
set_option maxHeartbeats 4000000 in
theorem exact16_walk (ver set most : Int) (cs : List Cmp) (a : Option Addr) (len cap : Nat) (l : List TA) (a2 : Option Addr) (len2 cap2 : Nat) (w : World) (hcs : CompsAt w.heap.size w a len cs) (hwf : CompsWf cs) (hl : TActsAt w.heap.size w a2 len2 l) (hnil : ∀ y ∈ l, NilInts y.ps) (h0 : 0 ≤ set) (h1 : set ≤ 4294967295) :
    Calls Tryz.prog 6 #[.agg #[.int .i64 ver, .slice a len cap], .int .u32 set, .int .i64 most, .slice a2 len2 cap2] w fun e w' => e = .returned (.bool true) ∧ Below w.heap.size w w' := by
  have hm2 : len2 ≤ maxLen := hl.2.1
  unfold maxLen at hm2
  have HCS := Lib.hid (And.intro hcs hwf)
  have HL := Lib.hid (And.intro hl hnil)
  have hw1 := heap_alloc_new w (.cells #[.int .i64 ver, .slice a len cap] 24)
  have hb1 : Below w.heap.size w (w.alloc (.cells #[.int .i64 ver, .slice a len cap] 24)) := by go_grown
  have HW1 := Lib.hid (And.intro hw1 hb1)
  clear hcs hwf hl hnil hw1 hb1
  go_enter Tryz.func6, Tryz.ntmps6
  go_wp2_with fail
  generalize w.alloc (.cells #[.int .i64 ver, .slice a len cap] 24) = W at *
  refine (awake16_any W).mono ?_
  rintro e w1 ⟨rfl, hb⟩
  have hk1 := keep hb HW1.out.1
  have HB1 := Lib.hid (HW1.out.2.trans (hb.mono HW1.out.2.size))
  have s0 := cell_at hk1 0
  have s1 := cell_at hk1 1
  simp at s0 s1
  have HK1 := Lib.hid hk1
  clear hk1 hb HW1
  go_wp2_with fail
  refine (great16_any ver cs _ _ _ _ ((HCS.out.1.below HB1.out).mono HB1.out.size)).mono ?_
  rintro e w2 ⟨rfl, hb⟩
  have hk2 := keep hb HK1.out
  have HB2 := Lib.hid (HB1.out.trans (hb.mono HB1.out.size))
  clear s0 s1
  have s0 := cell_at hk2 0
  have s1 := cell_at hk2 1
  simp at s0 s1
  have HK2 := Lib.hid hk2
  clear hk2 hb HB1 HK1
  cases hg : great16B cs
  case true =>
    go_wp2_with fail
    go_returns
    exact ⟨rfl, HB2.out⟩
  have HG := Lib.hid hg
  clear hg
  by_cases h80 : 80 < len2
  · go_wp2_with fail
    go_returns
    exact ⟨rfl, HB2.out⟩
  go_wp2_with fail
  refine (tableNew_any ver cs _ _ _ set most _ ((HCS.out.1.below HB2.out).mono HB2.out.size) HCS.out.2 (great16_f HG.out) h0 h1).mono ?_
  intro e w3 ht
  unfold IsTable at ht
  cases hok : tableOk ver cs set most with
  | false =>
    rw [hok] at ht
    simp only [if_false, Bool.false_eq_true] at ht
    obtain ⟨rfl, hb3⟩ := ht
    have hk3 := keep hb3 HK2.out
    have HB3 := Lib.hid (HB2.out.trans (hb3.mono HB2.out.size))
    have hgood := good16_any ver set most cs a len cap w3 ((HCS.out.1.below HB3.out).mono HB3.out.size) HCS.out.2 h0 h1
    rw [hok] at hgood
    have HGD := Lib.hid hgood
    clear s0 s1
    have s0 := cell_at hk3 0
    have s1 := cell_at hk3 1
    simp at s0 s1
    clear hb3 hok hgood hk3 HK2 HB2
    go_wp2_with fail
    refine HGD.out.mono ?_
    rintro e w4 ⟨rfl, hb4⟩
    have HB4 := Lib.hid (HB3.out.trans (hb4.mono HB3.out.size))
    clear s0 s1 hb4 HGD HB3
    go_upto_if 63 with (fail)
    refine wp_cond_true rfl ?_
    refine wp_code (c' := piece Tryz.f6 pNil) (by kernel_rfl) ?_
    refine nil_lit rfl w4 rfl ?_
    intro v w5 hv hb5
    exact ret_any (post := fun e w' => e = .returned (.bool true) ∧ Below w.heap.size w w') hv ⟨rfl, HB4.out.trans (hb5.mono HB4.out.size)⟩
  | true =>
    rw [hok] at ht
    simp only [if_true] at ht
    obtain ⟨tb, rfl, htb, hnew, hb3⟩ := ht
    have hk3 := keep hb3 HK2.out
    have HB3 := Lib.hid (HB2.out.trans (hb3.mono HB2.out.size))
    have hgood := good16_any ver set most cs a len cap w3 ((HCS.out.1.below HB3.out).mono HB3.out.size) HCS.out.2 h0 h1
    rw [hok] at hgood
    have hmo : sIs set = true ∧ 1 ≤ most ∧ most ≤ 256 := by
      have h2 := hok
      unfold tableOk at h2
      simp only [Bool.and_eq_true, decide_eq_true_eq] at h2
      exact ⟨h2.1.1.1.2, h2.1.1.2, h2.1.2⟩
    obtain ⟨m, rfl⟩ : ∃ m : Nat, most = (m : Int) := ⟨most.toNat, by omega⟩
    obtain ⟨t, h3, htbe, hver, hset, hmost, hkept, hen, hrel⟩ := TabIn.of_new hnew hok h0 h1
    have HGD := Lib.hid hgood
    have HT := Lib.hid (And.intro h3 (And.intro htbe (And.intro hset (And.intro hmost (And.intro hkept (And.intro hen hrel))))))
    have HSI := Lib.hid hmo
    have htw : w.heap.size ≤ tb := by have := HB2.out.size; omega
    clear s0 s1
    have s0 := cell_at hk3 0
    have s1 := cell_at hk3 1
    simp at s0 s1
    have HK3 := Lib.hid hk3
    clear hb3 hok hgood hk3 HK2 HB2 hnew h3 htbe hset hmost hkept hen hrel hver htb
    go_wp2_with fail
    refine HGD.out.mono ?_
    rintro e w4 ⟨rfl, hb4⟩
    have HB4 := Lib.hid (HB3.out.trans (hb4.mono HB3.out.size))
    have HK4 := Lib.hid (keep hb4 HK3.out)
    have HT4 := Lib.hid (HT.out.1.below hb4)
    clear s0 s1 hb4 HGD HB3 HK3
    obtain ⟨n, hn⟩ : ∃ n, (idsTo set 24).length = n := ⟨_, rfl⟩
    have HCEL : Hid (∀ W', Below w4.heap.size w4 W' → W'.cell? ⟨w.heap.size, 0, none⟩ = some (.int .i64 ver) ∧ W'.cell? ⟨w.heap.size, 1, none⟩ = some (.slice a len cap)) := Lib.hid (fun W' hW =>
      ⟨by rw [cell_at (keep hW HK4.out)]; rfl, by rw [cell_at (keep hW HK4.out)]; rfl⟩)
    have HID : Hid (∀ W', Below w4.heap.size w4 W' → Calls Tryz.prog 47 #[.int .u32 set] W' fun e w' => ∃ ia ic, e = .returned (.slice ia n ic) ∧ w'.ownsRow w4.heap.size 3 1 (.slice ia n ic) n ((idsTo set 24).map (.int .i64)) ∧ Below W'.heap.size W' w') := Lib.hid (fun W' hW => by
      refine (ids10_any set W' h0 h1).mono ?_
      rintro e w' ⟨va, n', vc, rfl, hn', ho, hb⟩
      rw [← ids_same16 h0 h1] at hn' ho
      obtain rfl : n' = n := hn'.trans hn
      exact ⟨va, vc, rfl, ownsRow_mono ho hW.size, hb⟩)
    have HN := Lib.hid hn
    have hwl := lt_some HK4.out
    clear hn
    go_upto_region 13 with (fail)
    refine wp_region_tail 6 (by kernel_rfl) (by kernel_rfl) (by kernel_rfl) (by decide) (by kernel_rfl) (byList (law_list13 ver a len cap set (m : Int) w4.heap.size n (idsTo set 24))) (lasts_list (law_list13_lasts ver a len cap set (m : Int) w4.heap.size n (idsTo set 24))) ?_ ?_
    · intro vs w' iq o A hi F hb ho hd
      have m4 : A.tmps[4]?.getD undef = (.pointer (some ⟨w.heap.size, 0, none⟩)) := F.m (by kernel_rfl) rfl
      have m1 : A.tmps[1]?.getD undef = (.int .u32 set) := F.m (by kernel_rfl) rfl
      have m2 : A.tmps[2]?.getD undef = (.int .i64 (m : Int)) := F.m (by kernel_rfl) rfl
      have G := F.light (n := 417) (by kernel_rfl)
      clear F
      have hz' := hb.size
      obtain ⟨z0, z1⟩ := HCEL.out w' hb
      revert hi ho hd
      match iq with
      | 0 =>
        intro _ ho hd
        obtain rfl := (Option.some.inj ho).symm
        clear hd ho
        refine step_open rfl ?_
        clear G
        exact step_run (v := (.agg #[.int .i64 ver, .slice a len cap])) (by go_simp) rfl
      | 1 =>
        intro _ ho hd
        obtain rfl := (Option.some.inj ho).symm
        clear hd ho
        refine step_open rfl ?_
        clear G
        exact step_run (v := (.int .u32 set)) (by go_simp) rfl
      | 2 =>
        intro _ ho hd
        obtain rfl := (Option.some.inj ho).symm
        have d1 : vs 1 = (.int .u32 set) := hd ⟨1, .data⟩ (by simp) rfl
        clear hd ho
        have h158 := G.h (j := 1) (d := 158) rfl (by decide) d1
        refine step_open rfl ?_
        clear G
        have hcall := HID.out w' hb
        go_simp
        refine hcall.mono ?_
        rintro e w9 ⟨ia, ic, rfl, ho9, hb9⟩
        exact ⟨_, rfl, (show IsRowO _ _ _ _ _ _ _ from ⟨ia, ic, rfl, ho9⟩), hb9⟩
      | 3 =>
        intro _ ho hd
        obtain rfl := (Option.some.inj ho).symm
        clear hd ho
        refine step_open rfl ?_
        clear G
        exact step_run (v := (.int .i64 (m : Int))) (by go_simp) rfl
      | 4 =>
        intro _ ho hd
        obtain rfl := (Option.some.inj ho).symm
        have d0 : vs 0 = (.agg #[.int .i64 ver, .slice a len cap]) := hd ⟨0, .data⟩ (by simp) rfl
        obtain ⟨ia, ic, d2, own2⟩ : IsRowO w4.heap.size 3 1 n ((idsTo set 24).map (.int .i64)) (vs 2) w' := hd ⟨2, .data⟩ (by simp) rfl
        have d3 : vs 3 = (.int .i64 (m : Int)) := hd ⟨3, .data⟩ (by simp) rfl
        clear hd ho
        have h157 := G.h (j := 0) (d := 157) rfl (by decide) d0
        have h159 := G.h (j := 2) (d := 159) rfl (by decide) d2
        have h160 := G.h (j := 3) (d := 160) rfl (by decide) d3
        refine step_open rfl ?_
        clear G
        go_simp
        exact ⟨_, rfl, (show IsWith _ _ _ _ _ _ _ _ from ⟨ia, ic, rfl, own2⟩), Below.refl _ _⟩
      | 5 =>
        intro _ ho hd
        obtain rfl := (Option.some.inj ho).symm
        clear hd ho
        refine step_open rfl ?_
        clear G
        go_simp
        exact ⟨_, rfl, (show IsPtr _ _ _ _ _ from ⟨_, rfl, heap_alloc_new _ _, by omega⟩), by go_grown⟩
      | n + 6 =>
        intro hi
        exfalso
        omega
    intro vs w6 A hA F hb hR
    have HA := Lib.hid hA
    clear hA
    obtain ⟨q5, d5, hq5, hU5⟩ : IsPtr w4.heap.size 99 u0cs (vs 5) w6 := hR 5 (by decide)
    obtain ⟨ia, ic, d4, own4⟩ : IsWith w4.heap.size 3 1 n ((idsTo set 24).map (.int .i64)) (fun ia ic => .agg #[.int .i64 ver, .slice a len cap, .slice ia n ic, .int .i64 (m : Int), .int .i64 0, .slice none 0 0]) (vs 4) w6 := hR 4 (by decide)
    have G := F.light (n := 417) (by kernel_rfl)
    have h161 := G.h (j := 4) (d := 161) rfl (by decide) d4
    have h20 := G.h (j := 5) (d := 20) rfl (by decide) d5
    have f0 := free_at hq5 0
    have f1 := free_at hq5 1
    have f2 := free_at hq5 2
    have f3 := free_at hq5 3
    have f4 := free_at hq5 4
    have f5 := free_at hq5 5
    have y0 := cell_at hq5 0
    have y1 := cell_at hq5 1
    have y2 := cell_at hq5 2
    have y3 := cell_at hq5 3
    have y4 := cell_at hq5 4
    have y5 := cell_at hq5 5
    simp [u0cs] at y0 y1 y2 y3 y4 y5
    have hql := lt_some hq5
    have hs3 := setU_cells ⟨ver, a, len, cap, ia, n, ic, (m : Int), 0, none, 0, 0⟩ hq5 rfl
    have hb7 := setU_below (u := ⟨ver, a, len, cap, ia, n, ic, (m : Int), 0, none, 0, 0⟩) hb hU5
    have ho7 := ownsRow_out own4 (setU_out w6 q5 ⟨ver, a, len, cap, ia, n, ic, (m : Int), 0, none, 0, 0⟩) (fun x hx he => by
      subst he
      obtain ⟨c1, h2⟩ := row_type own4 hx
      rw [hq5] at h2
      cases h2)
    unfold setU at hs3 hb7 ho7
    dsimp only [UD.cs] at hs3 hb7 ho7
    have HS7 := Lib.hid hs3
    have HB7 := Lib.hid hb7
    have HO7 := Lib.hid ho7
    clear G F hR d4 own4 hq5 hb hs3 hb7 ho7
    simp only [List.drop_succ_cons, List.drop_zero, wpTail]
    go_simp
    clear f0 f1 f2 f3 f4 f5 y0 y1 y2 y3 y4 y5 hql
    generalize World.setCell _ ⟨q5, 5, none⟩ _ = W7 at *
    rw [HA.out]
    simp only [putAll, Act.put, List.setIfInBounds_toArray, List.set_cons_succ, List.set_cons_zero, Nat.zero_add, Nat.reduceAdd]
    rw [d5]
    clear HA h161 h20 d5
    have hq4 : w.heap.size ≤ q5 := by omega
    have hXP : XP w q5 ver a len cap cs set tb t [] ⟨ver, a, len, cap, ia, n, ic, (m : Int), 0, none, 0, 0⟩ [] W7 :=
      ⟨HT4.out.below HB7.out, Vals.new HT.out.2.2.2.2.2.1, HS7.out, ⟨World.ownsRow_nil _ _ _ _, by simp, rfl⟩, ownsRow_mono HO7.out (Nat.zero_le _), HN.out, ⟨rfl, rfl, rfl, rfl⟩, HT.out.2.2.1, by unfold RelC; rw [HT.out.2.2.1]; exact HT.out.2.2.2.2.2.2, HB4.out.trans (HB7.out.mono HB4.out.size), htw, hq4⟩
    have hMR : MatchR t [] ⟨ver, a, len, cap, ia, n, ic, (m : Int), 0, none, 0, 0⟩ [] := ⟨by rw [HT.out.2.2.2.2.2.1]; rfl, by rw [HT.out.2.2.2.2.2.1]; rfl, by simp, by simp, by rw [HT.out.2.2.2.2.1]; rfl, by rw [HT.out.2.2.2.1]⟩
    have HXP := Lib.hid (And.intro hXP hMR)
    clear hXP hMR
    go_wp2_with fail
    refine wp_loop_f mskL (fun n f wr => ∃ (i : Nat) (t : TD) (V : List (List (List WI))) (u : UD) (rs : List URow), n + i = len2 ∧ f 9 = .pointer (some ⟨t.tb, 0, none⟩) ∧ f 21 = .int .i64 (i : Int) ∧ XP w q5 ver a len cap cs set tb t V u rs wr ∧ MatchR t V u rs) len2 ⟨0, t, [], _, [], rfl, by rw [HT.out.2.1]; rfl, rfl, HXP.out.1, HXP.out.2⟩ (by kernel_rfl) ?_
    intro n' f wr hrel J K hJ hK
    dsimp only [mixF, mskL]
    generalize hf9 : f 9 = f9 at hrel ⊢
    generalize hf21 : f 21 = f21 at hrel ⊢
    clear hf9 hf21
    obtain ⟨i, t', V', u', rs', hni, rfl, rfl, hxp, hmr⟩ := hrel
    have HX := Lib.hid (And.intro hxp hmr)
    have HNI := Lib.hid hni
    clear hxp hmr hni HXP HT HT4 HO7 HS7 HB7 HCEL HID HK4
    by_cases hlt : i < len2
    · go_upto_block 1 with (fail)
      rename_i hKK
      refine wp_code (c' := piece Tryz.f6 pRound) (by kernel_rfl) ?_
      refine round_lit rfl HX.out.1 HX.out.2 HCS.out.1 HSI.out.1 l a2 len2 cap2 HL.out.1 HL.out.2 i hlt (by omega) rfl rfl rfl rfl rfl ?_ ?_
      · intro v w5 hv hb5
        exact ret_any (post := fun e w' => e = .returned (.bool true) ∧ Below w.heap.size w w') hv ⟨rfl, hb5⟩
      · rintro v w5 t5 V5 u5 rs5 hx5 hm5 hv9 hmix
        have hvl := mix_vlen hmix
        have hv21 := mix_off hmix (i := 21) rfl rfl
        refine hKK _ _ ?_
        have e := fr_nth hvl
        rw [← e]
        unfold frX
        rw [hv21]
        have hi64 : (i : Int) + 1 ≤ 100 := by omega
        have HE := Lib.hid (And.intro e (And.intro hvl (And.intro hv9 hmix)))
        have HX5 := Lib.hid (And.intro hx5 hm5)
        clear e hvl hv9 hmix hv21 hx5 hm5 HX
        go_wp2_with fail
        refine Handed.intro (n' - 1) (by have := HNI.out; omega) (hJ _ _ _ ⟨i + 1, t5, V5, u5, rs5, by have := HNI.out; omega, HE.out.2.2.1, by go_num, HX5.out.1, HX5.out.2⟩ ?_)
        refine mix_trans (b1 := mskL) (b2 := mskI) (v := v) rfl (mix_trans (b1 := mskL) (b2 := mskR) rfl ?_ HE.out.2.2.2 rfl (by decide +kernel)) ?_ rfl (by decide +kernel)
        · kernel_rfl
        · refine (congrArg (mixF mskI _ 0) HE.out.1).symm.trans ?_
          unfold frX
          rfl
    · obtain rfl : i = len2 := by have := HNI.out; omega
      go_wp2_with fail
      go_returns
      exact ⟨rfl, HX.out.1.bel⟩
end Go.Proofs.YtoadihebdaooaaaGreat
