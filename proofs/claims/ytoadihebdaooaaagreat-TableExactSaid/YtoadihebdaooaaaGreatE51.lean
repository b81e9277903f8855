/- Frames that agree; a round of the law. Printed by mkXC.py. · The nil table's answers. Printed by mkXD.py. · The law where there can be no such table. Printed by mkXE.py. -/
import Derived.Test.YtoadihebdaooaaaGreatE50
import Derived.Test.YtoadihebdaooaaaGreatE33
namespace Go.Proofs.YtoadihebdaooaaaGreat
open Go.RowKit
set_option linter.unusedVariables false
theorem mix_len : ∀ (bs : List Bool) (g : Nat → Value) (k : Nat) (l : List Value), (mixF bs g k l).length = l.length
  | [], _, _, _ => rfl
  | true :: bs, g, k, x :: l => by rw [mixF, List.length_cons, List.length_cons, mix_len bs]
  | false :: bs, g, k, x :: l => by rw [mixF, List.length_cons, List.length_cons, mix_len bs]
  | true :: _, _, _, [] => rfl
  | false :: _, _, _, [] => rfl
theorem mix_at : ∀ (bs : List Bool) (g : Nat → Value) (k : Nat) (l : List Value) (i : Nat) (x : Value), bs[i]? = some false → l[i]? = some x → (mixF bs g k l)[i]? = some x
  | [], _, _, _, _, _, h, _ => by simp at h
  | _ :: _, _, _, [], _, _, _, h => by simp at h
  | true :: bs, g, k, y :: l, 0, x, h, _ => by simp at h
  | false :: bs, g, k, y :: l, 0, x, _, h => by rw [mixF]; exact h
  | true :: bs, g, k, y :: l, i + 1, x, h, h2 => by rw [mixF, List.getElem?_cons_succ]; exact mix_at bs g (k + 1) l i x (by simpa using h) (by simpa using h2)
  | false :: bs, g, k, y :: l, i + 1, x, h, h2 => by rw [mixF, List.getElem?_cons_succ]; exact mix_at bs g (k + 1) l i x (by simpa using h) (by simpa using h2)
theorem nth_get : ∀ (v : List Value) (i : Nat) (x : Value), v[i]? = some x → nthV v i = x
  | [], _, _, h => by simp at h
  | y :: v, 0, x, h => by simpa [nthV] using h
  | y :: v, i + 1, x, h => by rw [nthV]; exact nth_get v i x (by simpa using h)
theorem get_nth (v : List Value) (i : Nat) (h : i < v.length) : v[i]? = some (nthV v i) := by
  have h1 : v[i]? = some v[i] := List.getElem?_eq_getElem h
  rw [nth_get v i _ h1]; exact h1
theorem mix_of : ∀ (bs : List Bool) (g : Nat → Value) (k : Nat) (l v : List Value), v.length = l.length → bs.length = l.length → (∀ (i : Nat) (x : Value), v[i]? = some x → g (k + i) = x) → (∀ (i : Nat) (x : Value), bs[i]? = some false → l[i]? = some x → v[i]? = some x) → mixF bs g k l = v
  | [], g, k, l, v, h1, h2, _, _ => by
    obtain rfl : l = [] := List.eq_nil_of_length_eq_zero (by simpa using h2.symm)
    obtain rfl : v = [] := List.eq_nil_of_length_eq_zero h1
    rfl
  | b :: bs, g, k, [], v, _, h2, _, _ => by simp at h2
  | b :: bs, g, k, y :: l, [], h1, _, _, _ => by simp at h1
  | b :: bs, g, k, y :: l, x :: v, h1, h2, h3, h4 => by
    have ih := mix_of bs g (k + 1) l v (by simpa using h1) (by simpa using h2) (fun i z hz => by rw [show k + 1 + i = k + (i + 1) by omega]; exact h3 (i + 1) z (by simpa using hz)) (fun i z hb hz => by simpa using h4 (i + 1) z (by simpa using hb) (by simpa using hz))
    cases b with
    | true => rw [mixF, ih, show g k = x from h3 0 x rfl]
    | false =>
      have := h4 0 y rfl rfl
      rw [mixF, ih]
      simp at this
      rw [this]
set_option maxRecDepth 100000 in
theorem fr_get (f : Nat → Value) {i : Nat} (h : i < 417) : (frX f)[i]? = some (f i) := by
  have e : frX f = (List.range 417).map f := by rfl
  rw [e, List.getElem?_map, List.getElem?_range h]
  rfl
set_option maxRecDepth 100000 in
theorem fr_len (f : Nat → Value) : (frX f).length = 417 := rfl
theorem fr_nth {v : List Value} (h : v.length = 417) : frX (nthV v) = v := by
  apply List.ext_getElem?
  intro i
  by_cases hi : i < 417
  · rw [fr_get _ hi, get_nth v i (by omega)]
  · rw [List.getElem?_eq_none (by rw [fr_len]; omega), List.getElem?_eq_none (by omega)]
/-- Masks: what the first two leave, the third may. -/
def maskSub (b1 b2 b : List Bool) : Bool := (List.range 417).all fun i => b.getD i true || (b1[i]? == some false && b2[i]? == some false)
theorem mix_off {bs : List Bool} {l v : List Value} (h : mixF bs (nthV v) 0 l = v) {i : Nat} {x : Value} (hb : bs[i]? = some false) (hl : l[i]? = some x) : nthV v i = x := by
  apply nth_get
  rw [← h]
  exact mix_at _ _ _ _ _ _ hb hl
theorem mix_vlen {bs : List Bool} {l v : List Value} (h : mixF bs (nthV v) 0 l = v) : v.length = l.length := by
  rw [← h, mix_len]
theorem mix_trans {b1 b2 b : List Bool} {l v v' : List Value} (hl : l.length = 417) (h1 : mixF b1 (nthV v) 0 l = v) (h2 : mixF b2 (nthV v') 0 v = v') (hb : b.length = 417) (hs : maskSub b1 b2 b = true) : mixF b (nthV v') 0 l = v' := by
  have e1 := mix_vlen h1
  have e2 := mix_vlen h2
  refine mix_of _ _ _ _ _ (by omega) (by omega) (fun i x hx => by rw [Nat.zero_add]; exact nth_get _ _ _ hx) (fun i x hbi hx => ?_)
  have hi : i < 417 := by rw [← hl]; exact (List.getElem?_eq_some_iff.1 hx).1
  unfold maskSub at hs
  rw [List.all_eq_true] at hs
  have h3 := hs i (List.mem_range.2 hi)
  rw [Bool.or_eq_true, Bool.and_eq_true] at h3
  rcases h3 with h3 | ⟨h3, h4⟩
  · rw [List.getD_eq_getElem?_getD, hbi] at h3
    cases h3
  · have h3' := eq_of_beq h3
    have h4' := eq_of_beq h4
    have g1 : v[i]? = some x := by rw [← h1]; exact mix_at _ _ _ _ _ _ h3' hx
    rw [← h2]
    exact mix_at _ _ _ _ _ _ h4' g1
def mskH : List Bool := [false, false, false, false, false, false, false, false, true, false, false, false, false, false, false, false, false, false, false, false, false, false, true, true, false, false, false, false, false, false, false, false, false, false, false, false, false, false, false, false, false, false, false, false, false, false, false, false, false, false, false, false, false, false, false, false, false, false, false, false, false, false, false, false, false, false, false, false, false, false, false, false, false, false, false, false, false, false, false, false, false, false, false, false, false, false, false, false, false, false, false, false, false, false, false, false, false, false, false, false, false, false, false, false, false, false, false, false, false, false, false, false, false, false, false, false, false, false, false, false, false, false, false, false, false, false, false, false, false, false, false, false, false, false, false, false, false, false, false, false, false, false, false, false, false, false, false, false, false, false, false, false, false, false, false, false, false, false, false, false, false, false, false, false, false, false, false, false, true, true, true, true, true, true, true, true, true, true, true, true, true, true, true, true, true, true, true, true, true, true, true, true, true, false, false, false, false, false, false, false, false, false, false, false, false, false, false, false, false, false, false, false, false, false, false, false, false, false, false, false, false, false, false, false, false, false, false, false, false, false, false, false, false, false, false, false, false, false, false, false, false, false, false, false, false, false, false, false, false, false, false, false, false, false, false, false, false, false, false, false, false, false, false, false, false, false, false, false, false, false, false, false, false, false, false, false, false, false, false, false, false, false, false, false, false, false, false, false, false, false, false, false, false, false, false, false, false, false, false, false, false, false, false, false, false, false, false, false, false, false, false, false, false, false, false, false, false, false, false, false, false, false, false, false, false, false, false, false, false, false, false, false, false, false, false, false, false, false, false, false, false, false, false, false, false, false, false, false, false, false, false, false, false, false, false, false, false, false, false, false, false, false, false, false, false, false, false, false, false, false, false, false, false, false, false, false, false, false, false, false, false, false, false, false, false, false, false, false, false, false, false, false, false, false, false, false, false, false, false, false, false, false, false, false, false, false, false, false, false, false, false, false, false, false, false, false, false]
def mskT : List Bool := [false, false, false, false, false, false, false, false, true, true, false, false, false, false, false, false, false, false, false, false, false, false, true, true, true, true, true, true, true, true, true, true, true, true, true, true, true, false, false, false, false, false, false, false, false, false, false, false, false, false, false, false, false, false, false, false, false, false, false, false, false, false, false, false, false, false, false, false, false, false, false, false, false, false, false, false, false, false, false, false, false, false, false, false, false, false, false, false, false, false, false, false, false, false, false, false, false, false, false, false, false, false, false, false, false, false, false, false, false, false, false, false, false, false, false, false, false, false, false, false, false, false, false, false, false, false, false, false, false, false, false, false, false, false, false, false, false, false, false, false, false, false, false, false, false, false, false, false, false, false, false, false, false, false, false, false, false, false, false, false, false, false, false, false, false, false, false, false, true, true, true, true, true, true, true, true, true, true, true, true, true, true, true, true, true, true, true, true, true, true, true, true, true, true, true, true, true, true, true, true, true, true, true, true, true, true, true, true, true, true, true, true, true, true, true, true, true, true, true, true, true, true, true, true, true, true, true, true, true, true, true, true, true, true, true, true, true, true, true, true, true, true, true, true, true, true, true, true, true, true, true, true, true, true, true, true, true, true, true, true, true, true, true, true, true, true, true, true, true, true, true, true, true, true, true, true, true, true, true, true, true, true, true, true, true, true, true, true, true, true, true, true, true, true, true, true, true, true, true, true, true, true, true, true, true, true, true, true, true, true, true, true, true, true, true, true, true, true, true, true, true, true, true, true, true, true, true, true, true, true, true, true, true, true, true, true, true, true, true, true, true, true, true, false, false, false, false, false, false, false, false, false, false, false, false, false, false, false, false, false, false, false, false, false, false, false, false, false, false, false, false, false, false, false, false, false, false, false, false, false, false, false, false, false, false, false, false, false, false, false, false, false, false, false, false, false, false, false, false, false, false, false, false, false, false, false, false, false, false, false, false, false, false, false, false, false, false]
def mskR : List Bool := [false, false, false, false, false, false, false, false, true, true, false, false, false, false, false, false, false, false, false, false, false, false, true, true, true, true, true, true, true, true, true, true, true, true, true, true, true, true, true, true, true, true, true, true, true, true, false, false, false, false, false, false, false, false, false, false, false, false, false, false, false, false, false, false, false, false, false, false, false, false, false, false, false, false, false, false, false, false, false, false, false, false, false, false, false, false, false, false, false, false, false, false, false, false, false, false, false, false, false, false, false, false, false, false, false, false, false, false, false, false, false, false, false, false, false, false, false, false, false, false, false, false, false, false, false, false, false, false, false, false, false, false, false, false, false, false, false, false, false, false, false, false, false, false, false, false, false, false, false, false, false, false, false, false, false, false, false, false, false, false, false, false, false, false, false, false, false, false, true, true, true, true, true, true, true, true, true, true, true, true, true, true, true, true, true, true, true, true, true, true, true, true, true, true, true, true, true, true, true, true, true, true, true, true, true, true, true, true, true, true, true, true, true, true, true, true, true, true, true, true, true, true, true, true, true, true, true, true, true, true, true, true, true, true, true, true, true, true, true, true, true, true, true, true, true, true, true, true, true, true, true, true, true, true, true, true, true, true, true, true, true, true, true, true, true, true, true, true, true, true, true, true, true, true, true, true, true, true, true, true, true, true, true, true, true, true, true, true, true, true, true, true, true, true, true, true, true, true, true, true, true, true, true, true, true, true, true, true, true, true, true, true, true, true, true, true, true, true, true, true, true, true, true, true, true, true, true, true, true, true, true, true, true, true, true, true, true, true, true, true, true, true, true, true, true, true, true, true, true, true, true, true, true, true, true, true, true, true, true, true, true, true, true, true, true, true, true, true, true, true, true, true, true, true, true, true, true, true, true, true, true, true, true, true, true, true, true, true, true, true, true, true, true, true, true, true, true, true, true, true, true, true, true, true, true, true, true, true, true, true, true, true, true, true, true, true, true]
def pRound : List Dir := [.r, .r, .r, .r, .r, .r, .l, .r, .i, .i, .r, .l]
section
variable {w0 : World} {UB : Nat} {ver : Int} {a : Option Addr} {len cap : Nat} {cs : List Cmp} {set : Int} {B : Nat} {t : TD} {V : List (List (List WI))} {u : UD} {rs : List URow} {w : World} {X : Nat} {x : TA} {f : Nat → Value} {l : List Value} {d : List Deferred} {K : Act → World → Prop} {Q : Exit → Act → World → Prop}
theorem sw_lit (hl : l.length = 417) (h : XP w0 UB ver a len cap cs set B t V u rs w) (hm : MatchR t V u rs) (hs : AtSw X x t UB (nthV l) w) (hp : PartsX w0 x) (hcs : CompsAt w0.heap.size w0 a len cs) (hsis : sIs set = true)
    (hK : ∀ (v : List Value) (w' : World) (t' : TD) (V' : List (List (List WI))) (u' : UD) (rs' : List URow), XP w0 UB ver a len cap cs set B t' V' u' rs' w' → MatchR t' V' u' rs' → nthV v 9 = .pointer (some ⟨t'.tb, 0, none⟩) →
      w'.heap[X]? = some (.cells #[.int .i64 x.kind, .int .i64 x.i, .int .u64 x.e, .slice x.pa x.pl x.pc] 72 (0, 0)) → mixF mskS (nthV v) 0 l = v → K ⟨v.toArray, d⟩ w') : (piece Tryz.f6 pSw).wp Tryz.prog (Exit.then K Q) ⟨l.toArray, d⟩ w := by
  have := sw_any (f := nthV l) (d := d) (K := K) (Q := Q) h hm hs hp hcs hsis (fun v w' t' V' u' rs' h1 h2 h3 h4 h5 => hK v w' t' V' u' rs' h1 h2 h3 h4 (by rw [fr_nth hl] at h5; exact h5))
  rw [fr_nth hl] at this
  exact this
theorem ask_lit (hl : l.length = 417) (h : XP w0 UB ver a len cap cs set B t V u rs w) (hm : MatchR t V u rs) (hcs : CompsAt w0.heap.size w0 a len cs) (f9 : nthV l 9 = .pointer (some ⟨t.tb, 0, none⟩)) (f20 : nthV l 20 = .pointer (some ⟨UB, 0, none⟩)) (f22 : nthV l 22 = .pointer (some ⟨X, 0, none⟩)) (f1 : nthV l 1 = .int .u32 set) (i : Nat) (hi : i ≤ 80) (f21 : nthV l 21 = .int .i64 (i : Int))
    (hx : w.heap[X]? = some (.cells #[.int .i64 x.kind, .int .i64 x.i, .int .u64 x.e, .slice x.pa x.pl x.pc] 72 (0, 0)))
    (hK : ∀ (v : List Value) (w' : World), XP w0 UB ver a len cap cs set B t V u rs w' → mixF mskA (nthV v) 0 l = v → Q .normal ⟨v.toArray, d⟩ w') : (piece Tryz.f6 pAsk).wp Tryz.prog Q ⟨l.toArray, d⟩ w := by
  have := ask_any (f := nthV l) (d := d) (Q := Q) h hm hcs f9 f20 f22 f1 i hi f21 hx (fun v w' h1 h2 => hK v w' h1 (by rw [fr_nth hl] at h2; exact h2))
  rw [fr_nth hl] at this
  exact this
set_option maxRecDepth 100000 in
set_option maxHeartbeats 1000000 in
theorem round_any (h : XP w0 UB ver a len cap cs set B t V u rs w) (hm : MatchR t V u rs) (hcs : CompsAt w0.heap.size w0 a len cs) (hsis : sIs set = true) (acts : List TA) (a2 : Option Addr) (len2 cap2 : Nat) (hacts : TActsAt w0.heap.size w0 a2 len2 acts) (hnil : ∀ y ∈ acts, NilInts y.ps) (i : Nat) (hi : i < len2) (hl80 : len2 ≤ 80)
    (f1 : f 1 = .int .u32 set) (f3 : f 3 = .slice a2 len2 cap2) (f9 : f 9 = .pointer (some ⟨t.tb, 0, none⟩)) (f20 : f 20 = .pointer (some ⟨UB, 0, none⟩)) (f21 : f 21 = .int .i64 (i : Int))
    (hret : ∀ (v : List Value) (w' : World), nthV v 8 = .bool true → Below w0.heap.size w0 w' → Q .ret ⟨v.toArray, d⟩ w')
    (hK : ∀ (v : List Value) (w' : World) (t' : TD) (V' : List (List (List WI))) (u' : UD) (rs' : List URow), XP w0 UB ver a len cap cs set B t' V' u' rs' w' → MatchR t' V' u' rs' → nthV v 9 = .pointer (some ⟨t'.tb, 0, none⟩) → mixF mskR (nthV v) 0 (frX f) = v → K ⟨v.toArray, d⟩ w') :
    (piece Tryz.f6 pRound).wp Tryz.prog (Exit.then K Q) ⟨(frX f).toArray, d⟩ w := by
  obtain ⟨b, off, x, rfl, hB, hx, hpa, x0, x1, x2, x3⟩ := hacts.get h.bel hi
  have hxm := List.mem_of_getElem? hx
  have HP := Lib.hid (And.intro (hacts.2.2.1 x hxm) (hnil x hxm))
  have hbA : Below w.heap.size w (w.alloc (.cells #[.int .i64 x.kind, .int .i64 x.i, .int .u64 x.e, .slice x.pa x.pl x.pc] 72)) := by go_grown
  have hXA := heap_alloc_new w (.cells #[.int .i64 x.kind, .int .i64 x.i, .int .u64 x.e, .slice x.pa x.pl x.pc] 72)
  have HX := Lib.hid (And.intro (h.below hbA) (And.intro hXA hm))
  have HF := Lib.hid (And.intro f1 (And.intro f3 (And.intro f9 (And.intro f20 f21))))
  have HC := Lib.hid (And.intro hcs (And.intro hsis (And.intro hret hK)))
  have hbw : b < w.heap.size := by have := h.bel.size; omega
  have hpm : x.pl ≤ maxLen := by have := hpa.2.1; have := hpa.2.2.1; omega
  unfold maxLen at hpm
  have i1 : (0 : Int) ≤ (i : Int) := by omega
  have i2 : (i : Int) < (len2 : Int) := by omega
  have hi80 : i ≤ 80 := by omega
  clear h hm hcs hsis hacts hnil hx hxm hbA hXA hret hK hpa
  unfold frX
  rw [f1, f3, f9, f20, f21]
  clear f1 f3 f9 f20 f21
  conv => arg 2; whnf
  go_upto_region 18 with (fail)
  obtain ⟨X, hXe⟩ : ∃ X, w.heap.size = X := ⟨_, rfl⟩
  clear x0 x1 x2 x3 hbw
  rw [hXe] at HX ⊢
  clear hXe
  generalize World.alloc w _ = W at *
  have y0 := cell_at HX.out.2.1 0
  have y3 := cell_at HX.out.2.1 3
  simp at y0 y3
  have hXl := lt_some HX.out.2.1
  by_cases h12 : 12 < x.pl
  · go_wp2_with fail
    exact HC.out.2.2.1 _ _ rfl HX.out.1.bel
  · go_wp2_with fail
    go_loopw [23] (fun j wr => ∃ k : Nat, k ≤ x.pl ∧ j = .int .i64 (k : Int) ∧ (∀ p ∈ x.ps.take k, p.vl ≤ 100) ∧ W = wr) (fun j _ => x.pl - (intOf j).toNat)
    case atStart => exact ⟨0, Nat.zero_le _, rfl, by simp, rfl⟩
    case round =>
      obtain ⟨k, hk, rfl, hvl, rfl⟩ := hrel
      have HVL := Lib.hid hvl
      clear hvl
      by_cases hlt : k < x.pl
      · obtain ⟨pb, po, p, hpa, hpB, hp, _, p0, p1⟩ := HP.out.1.get HX.out.1.bel hlt
        rw [hpa] at y3
        have i3 : (0 : Int) ≤ (k : Int) := by omega
        have i4 : (k : Int) < (x.pl : Int) := by omega
        have hpW : pb < W.heap.size := by have := HX.out.1.bel.size; omega
        by_cases hv : 100 < p.vl
        · go_wp2_with fail
          exact HC.out.2.2.1 _ _ rfl HX.out.1.bel
        · have HVN : Hid (∀ p ∈ x.ps.take (k + 1), p.vl ≤ 100) := Lib.hid (fun q hq => by
            rw [take_snoc hp] at hq
            rcases List.mem_append.1 hq with hq | hq
            · exact HVL.out q hq
            · obtain rfl := List.mem_singleton.1 hq
              omega)
          clear hp hpa
          go_wp2_with fail
          go_roundw
          case rel => exact ⟨k + 1, by omega, by go_num, HVN.out, by trivial⟩
          case measure => simp only [intOf]; omega
      · obtain rfl : k = x.pl := by omega
        have hpx : PartsX w0 x := ⟨HP.out.1, by omega, fun p hp => HVL.out p (by rw [List.take_of_length_le (by rw [HP.out.1.1]; exact Nat.le_refl _)]; exact hp), HP.out.2⟩
        have HPX := Lib.hid hpx
        clear hpx
        go_upto_block 4 with (fail)
        rename_i hKK
        refine sw_lit (X := X) (x := x) (UB := UB) (t := t) rfl HX.out.1 HX.out.2.2 ⟨rfl, rfl, rfl, rfl, HX.out.2.1⟩ HPX.out HC.out.1 HC.out.2.1 ?_
        rintro v w' t' V' u' rs' hxp hmr hv9 hX5 hmix
        have hvl := mix_vlen hmix
        refine hKK _ _ ?_
        refine ask_lit (l := v) (X := X) (x := x) (UB := UB) (t := t') hvl hxp hmr HC.out.1 hv9 (mix_off hmix (i := 20) rfl rfl) (mix_off hmix (i := 22) rfl rfl) (mix_off hmix (i := 1) rfl rfl) i hi80 (mix_off hmix (i := 21) rfl rfl) hX5 ?_
        rintro v2 w2 hxp2 hmix2
        refine HC.out.2.2.2 v2 w2 t' V' u' rs' hxp2 hmr ((mix_off hmix2 (i := 9) rfl (get_nth v 9 (by rw [hvl]; exact (by decide : 9 < 417)))).trans hv9) ?_
        refine mix_trans (b1 := mskT) (fr_len f) (mix_trans (b1 := mskH) (fr_len f) ?_ hmix rfl (by decide +kernel)) hmix2 rfl (by decide +kernel)
        unfold frX
        rw [HF.out.1, HF.out.2.1, HF.out.2.2.1, HF.out.2.2.2.1, HF.out.2.2.2.2]
        rfl
end
end Go.Proofs.YtoadihebdaooaaaGreat
namespace Go.Proofs.YtoadihebdaooaaaGreat
open Go.RowKit
set_option linter.unusedVariables false
set_option maxRecDepth 100000 in
theorem nLen (w : World) : Calls Tryz.prog 28 #[.pointer none] w fun e w' => e = .returned (.int .i64 0) ∧ Below w.heap.size w w' := by
  go_enter Tryz.func28, Tryz.ntmps28
  go_wp2_with fail
  go_returns
  exact ⟨rfl, Below.refl _ _⟩
set_option maxRecDepth 100000 in
theorem nKept (w : World) : Calls Tryz.prog 37 #[.pointer none] w fun e w' => e = .returned (.int .i64 0) ∧ Below w.heap.size w w' := by
  go_enter Tryz.func37, Tryz.ntmps37
  go_wp2_with fail
  go_returns
  exact ⟨rfl, Below.refl _ _⟩
set_option maxRecDepth 100000 in
theorem nRoom (w : World) : Calls Tryz.prog 29 #[.pointer none] w fun e w' => e = .returned (.int .i64 0) ∧ Below w.heap.size w w' := by
  go_enter Tryz.func29, Tryz.ntmps29
  go_wp2_with fail
  go_returns
  exact ⟨rfl, Below.refl _ _⟩
set_option maxRecDepth 100000 in
theorem nSig (w : World) : Calls Tryz.prog 27 #[.pointer none] w fun e w' => e = .returned (.int .u32 0) ∧ Below w.heap.size w w' := by
  go_enter Tryz.func27, Tryz.ntmps27
  go_wp2_with fail
  go_returns
  exact ⟨rfl, Below.refl _ _⟩
set_option maxRecDepth 100000 in
theorem nEnts (w : World) : Calls Tryz.prog 38 #[.pointer none] w fun e w' => e = .returned (.slice none 0 0) ∧ Below w.heap.size w w' := by
  go_enter Tryz.func38, Tryz.ntmps38
  go_wp2_with fail
  go_returns
  exact ⟨rfl, Below.refl _ _⟩
set_option maxRecDepth 100000 in
theorem nKeep (w : World) : Calls Tryz.prog 35 #[.pointer none] w fun e w' => e = .returned (.int .i64 2) ∧ Below w.heap.size w w' := by
  go_enter Tryz.func35, Tryz.ntmps35
  go_wp2_with fail
  go_returns
  exact ⟨rfl, Below.refl _ _⟩
set_option maxRecDepth 100000 in
theorem nYield (w : World) : Calls Tryz.prog 36 #[.pointer none] w fun e w' => e = .returned (.int .i64 2) ∧ Below w.heap.size w w' := by
  go_enter Tryz.func36, Tryz.ntmps36
  go_wp2_with fail
  go_returns
  exact ⟨rfl, Below.refl _ _⟩
set_option maxRecDepth 100000 in
theorem nClone (w : World) : Calls Tryz.prog 46 #[.pointer none] w fun e w' => e = .returned (.pointer none) ∧ Below w.heap.size w w' := by
  go_enter Tryz.func46, Tryz.ntmps46
  go_wp2_with fail
  go_returns
  exact ⟨rfl, Below.refl _ _⟩
set_option maxRecDepth 100000 in
theorem nAt (i : Int) (w : World) : Calls Tryz.prog 79 #[.pointer none, .int .i64 i] w fun e w' => e = .returned (.int .i64 2) ∧ Below w.heap.size w w' := by
  go_enter Tryz.func79, Tryz.ntmps79
  go_wp2_with fail
  go_returns
  exact ⟨rfl, Below.refl _ _⟩
set_option maxRecDepth 100000 in
theorem nCheck (w : World) : Calls Tryz.prog 67 #[.pointer none, .int .u64 1, .slice none 0 0] w fun e w' => e = .returned (.int .i64 2) ∧ Below w.heap.size w w' := by
  go_enter Tryz.func67, Tryz.ntmps67
  go_wp2_with fail
  go_returns
  exact ⟨rfl, Below.refl _ _⟩
set_option maxRecDepth 100000 in
theorem nAdd (w : World) : Calls Tryz.prog 24 #[.pointer none, .int .u64 1, .slice none 0 0] w fun e w' => e = .returned (.tuple #[.int .i64 0, .int .i64 2]) ∧ Below w.heap.size w w' := by
  have HC := Lib.hid (fun (W : World) => nCheck W)
  go_enter Tryz.func24, Tryz.ntmps24
  go_wp2_with fail
  refine (HC.out _).mono ?_
  rintro e w1 ⟨rfl, hb⟩
  have hz := hb.size
  try rw [World.size_alloc] at hz
  go_wp2_with fail
  first | go_returns | go_ret2
  first
  | exact ⟨rfl, hb⟩
  | exact ⟨rfl, hb.alloc hz _⟩
  | (refine ⟨rfl, ?_⟩
     have h0 : Below w.heap.size w (w.alloc (.cells #[.int .i64 0, .slice none 0 0] 85)) := by go_grown
     exact (h0.trans (hb.mono (by simp))).alloc (by omega) _)
set_option maxRecDepth 100000 in
theorem nDrop (w : World) : Calls Tryz.prog 34 #[.pointer none, .int .i64 0] w fun e w' => e = .returned (.tuple #[.int .u64 0, .int .i64 2]) ∧ Below w.heap.size w w' := by
  have HC := Lib.hid (fun (W : World) => nAt 0 W)
  go_enter Tryz.func34, Tryz.ntmps34
  go_wp2_with fail
  refine (HC.out _).mono ?_
  rintro e w1 ⟨rfl, hb⟩
  have hz := hb.size
  try rw [World.size_alloc] at hz
  go_wp2_with fail
  first | go_returns | go_ret2
  first
  | exact ⟨rfl, hb⟩
  | exact ⟨rfl, hb.alloc hz _⟩
  | (refine ⟨rfl, ?_⟩
     have h0 : Below w.heap.size w (w.alloc (.cells #[.int .i64 0, .slice none 0 0] 85)) := by go_grown
     exact (h0.trans (hb.mono (by simp))).alloc (by omega) _)
set_option maxRecDepth 100000 in
theorem nEnt (w : World) : Calls Tryz.prog 45 #[.pointer none, .int .i64 0] w fun e w' => e = .returned (.int .u64 0) ∧ Below w.heap.size w w' := by
  have HC := Lib.hid (fun (W : World) => nAt 0 W)
  go_enter Tryz.func45, Tryz.ntmps45
  go_wp2_with fail
  refine (HC.out _).mono ?_
  rintro e w1 ⟨rfl, hb⟩
  have hz := hb.size
  try rw [World.size_alloc] at hz
  go_wp2_with fail
  first | go_returns | go_ret2
  first
  | exact ⟨rfl, hb⟩
  | exact ⟨rfl, hb.alloc hz _⟩
  | (refine ⟨rfl, ?_⟩
     have h0 : Below w.heap.size w (w.alloc (.cells #[.int .i64 0, .slice none 0 0] 85)) := by go_grown
     exact (h0.trans (hb.mono (by simp))).alloc (by omega) _)
set_option maxRecDepth 100000 in
theorem nParts (w : World) : Calls Tryz.prog 39 #[.pointer none, .int .i64 0] w fun e w' => e = .returned (.tuple #[.slice none 0 0, .int .i64 2]) ∧ Below w.heap.size w w' := by
  have HC := Lib.hid (fun (W : World) => nAt 0 W)
  go_enter Tryz.func39, Tryz.ntmps39
  go_wp2_with fail
  refine (HC.out _).mono ?_
  rintro e w1 ⟨rfl, hb⟩
  have hz := hb.size
  try rw [World.size_alloc] at hz
  go_wp2_with fail
  first | go_returns | go_ret2
  first
  | exact ⟨rfl, hb⟩
  | exact ⟨rfl, hb.alloc hz _⟩
  | (refine ⟨rfl, ?_⟩
     have h0 : Below w.heap.size w (w.alloc (.cells #[.int .i64 0, .slice none 0 0] 85)) := by go_grown
     exact (h0.trans (hb.mono (by simp))).alloc (by omega) _)
set_option maxRecDepth 100000 in
theorem nFind (i : Int) (w : World) : Calls Tryz.prog 82 #[.pointer none, .int .i64 0, .int .i64 i] w fun e w' => e = .returned (.tuple #[.agg #[.int .i64 0, .string ByteArray.empty, .slice none 0 0, .pointer none], .int .i64 2]) ∧ Below w.heap.size w w' := by
  have hres := heap_alloc_new (w.alloc (.cells #[.int .i64 i] 3)) (.cells #[.int .i64 0, .string ByteArray.empty, .slice none 0 0, .pointer none] 142)
  rw [World.size_alloc] at hres
  have hb0 : Below w.heap.size w ((w.alloc (.cells #[.int .i64 i] 3)).alloc (.cells #[.int .i64 0, .string ByteArray.empty, .slice none 0 0, .pointer none] 142)) := by go_grown
  have HX := Lib.hid (And.intro hres hb0)
  clear hres hb0
  go_enter Tryz.func82, Tryz.ntmps82
  go_wp2_with fail
  refine (nAt 0 _).mono ?_
  rintro e w1 ⟨rfl, hb⟩
  have hr1 := keep hb HX.out.1
  have hbel := HX.out.2.trans (hb.mono HX.out.2.size)
  clear hb HX
  have f0 := free_at hr1 0
  have f1 := free_at hr1 1
  have f2 := free_at hr1 2
  have f3 := free_at hr1 3
  have r0 := cell_at hr1 0
  have r1 := cell_at hr1 1
  have r2 := cell_at hr1 2
  have r3 := cell_at hr1 3
  simp at r0 r1 r2 r3
  go_wp2_with fail
  refine bodyPost_ret (v := .tuple #[.agg #[.int .i64 0, .string ByteArray.empty, .slice none 0 0, .pointer none], .int .i64 2]) (by simp [results, Tryz.results82, go_sem, r0, r1, r2, r3]; rfl) rfl ?_
  exact ⟨rfl, (((hbel.setCell (by simp) _).setCell (by simp) _).setCell (by simp) _).setCell (by simp) _⟩
set_option maxRecDepth 100000 in
theorem nGet (w : World) : Calls Tryz.prog 41 #[.pointer none, .int .i64 0, .int .i64 1] w fun e w' => e = .returned (.tuple #[.slice none 0 0, .int .i64 2]) ∧ Below w.heap.size w w' := by
  have HC := Lib.hid (fun (W : World) => nFind 1 W)
  go_enter Tryz.func41, Tryz.ntmps41
  go_wp2_with fail
  refine (HC.out _).mono ?_
  rintro e w1 ⟨rfl, hb⟩
  have hz := hb.size
  try rw [World.size_alloc] at hz
  go_wp2_with fail
  first | go_returns | go_ret2
  first
  | exact ⟨rfl, hb⟩
  | exact ⟨rfl, hb.alloc hz _⟩
  | (refine ⟨rfl, ?_⟩
     have h0 : Below w.heap.size w (w.alloc (.cells #[.int .i64 0, .slice none 0 0] 85)) := by go_grown
     exact (h0.trans (hb.mono (by simp))).alloc (by omega) _)
set_option maxRecDepth 100000 in
theorem nBytes (w : World) : Calls Tryz.prog 44 #[.pointer none, .int .i64 0, .int .i64 1] w fun e w' => e = .returned (.tuple #[.string ⟨#[]⟩, .int .i64 2]) ∧ Below w.heap.size w w' := by
  have HC := Lib.hid (fun (W : World) => nFind 1 W)
  go_enter Tryz.func44, Tryz.ntmps44
  go_wp2_with fail
  refine (HC.out _).mono ?_
  rintro e w1 ⟨rfl, hb⟩
  have hz := hb.size
  try rw [World.size_alloc] at hz
  go_wp2_with fail
  first | go_returns | go_ret2
  first
  | exact ⟨rfl, hb⟩
  | exact ⟨rfl, hb.alloc hz _⟩
  | (refine ⟨rfl, ?_⟩
     have h0 : Below w.heap.size w (w.alloc (.cells #[.int .i64 0, .slice none 0 0] 85)) := by go_grown
     exact (h0.trans (hb.mono (by simp))).alloc (by omega) _)
set_option maxRecDepth 100000 in
theorem nSet (w : World) : Calls Tryz.prog 40 #[.pointer none, .int .i64 0, .agg #[.int .i64 0, .slice none 0 0]] w fun e w' => e = .returned (.int .i64 2) ∧ Below w.heap.size w w' := by
  have HC := Lib.hid (fun (W : World) => nFind 0 W)
  go_enter Tryz.func40, Tryz.ntmps40
  go_wp2_with fail
  refine (HC.out _).mono ?_
  rintro e w1 ⟨rfl, hb⟩
  have hz := hb.size
  try rw [World.size_alloc] at hz
  go_wp2_with fail
  first | go_returns | go_ret2
  first
  | exact ⟨rfl, hb⟩
  | exact ⟨rfl, hb.alloc hz _⟩
  | (refine ⟨rfl, ?_⟩
     have h0 : Below w.heap.size w (w.alloc (.cells #[.int .i64 0, .slice none 0 0] 85)) := by go_grown
     exact (h0.trans (hb.mono (by simp))).alloc (by omega) _)
end Go.Proofs.YtoadihebdaooaaaGreat
namespace Go.Proofs.YtoadihebdaooaaaGreat
open Go.RowKit
set_option linter.unusedVariables false
def pNil : List Dir := [.r, .r, .r, .r, .l, .r, .t]
set_option maxRecDepth 100000 in
set_option maxHeartbeats 1000000 in
theorem nil_walk {f : Nat → Value} {d : List Deferred} {Q : Exit → Act → World → Prop} (w : World) (f9 : f 9 = .pointer none) (hret : ∀ (v : List Value) (w' : World), nthV v 8 = .bool true → Below w.heap.size w w' → Q .ret ⟨v.toArray, d⟩ w') : (piece Tryz.f6 pNil).wp Tryz.prog Q ⟨(frX f).toArray, d⟩ w := by
  have HR := Lib.hid hret
  clear hret
  have HB0 : Hid (Below w.heap.size w w) := Lib.hid (Below.refl _ _)
  unfold frX
  rw [f9]
  clear f9
  conv => arg 2; whnf
  go_wp2_with fail
  refine (nAdd _).mono ?_
  rintro e w1 ⟨rfl, hb⟩
  have HB1 := Lib.hid (HB0.out.trans (hb.mono HB0.out.size))
  clear hb HB0
  go_wp2_with fail
  refine (nDrop _).mono ?_
  rintro e w2 ⟨rfl, hb⟩
  have HB2 := Lib.hid (HB1.out.trans (hb.mono HB1.out.size))
  clear hb HB1
  go_wp2_with fail
  refine (nGet _).mono ?_
  rintro e w3 ⟨rfl, hb⟩
  have HB3 := Lib.hid (HB2.out.trans (hb.mono HB2.out.size))
  clear hb HB2
  go_wp2_with fail
  refine (nParts _).mono ?_
  rintro e w4 ⟨rfl, hb⟩
  have HB4 := Lib.hid (HB3.out.trans (hb.mono HB3.out.size))
  clear hb HB3
  go_wp2_with fail
  refine (nBytes _).mono ?_
  rintro e w5 ⟨rfl, hb⟩
  have HB5 := Lib.hid (HB4.out.trans (hb.mono HB4.out.size))
  clear hb HB4
  go_wp2_with fail
  refine (nSet _).mono ?_
  rintro e w6 ⟨rfl, hb⟩
  have HB6 := Lib.hid (HB5.out.trans (hb.mono HB5.out.size))
  clear hb HB5
  go_wp2_with fail
  refine (nKeep _).mono ?_
  rintro e w7 ⟨rfl, hb⟩
  have HB7 := Lib.hid (HB6.out.trans (hb.mono HB6.out.size))
  clear hb HB6
  go_wp2_with fail
  refine (nYield _).mono ?_
  rintro e w8 ⟨rfl, hb⟩
  have HB8 := Lib.hid (HB7.out.trans (hb.mono HB7.out.size))
  clear hb HB7
  go_wp2_with fail
  refine (nLen _).mono ?_
  rintro e w9 ⟨rfl, hb⟩
  have HB9 := Lib.hid (HB8.out.trans (hb.mono HB8.out.size))
  clear hb HB8
  go_wp2_with fail
  refine (nKept _).mono ?_
  rintro e w10 ⟨rfl, hb⟩
  have HB10 := Lib.hid (HB9.out.trans (hb.mono HB9.out.size))
  clear hb HB9
  go_wp2_with fail
  refine (nRoom _).mono ?_
  rintro e w11 ⟨rfl, hb⟩
  have HB11 := Lib.hid (HB10.out.trans (hb.mono HB10.out.size))
  clear hb HB10
  go_wp2_with fail
  refine (nEnts _).mono ?_
  rintro e w12 ⟨rfl, hb⟩
  have HB12 := Lib.hid (HB11.out.trans (hb.mono HB11.out.size))
  clear hb HB11
  go_wp2_with fail
  refine (nEnt _).mono ?_
  rintro e w13 ⟨rfl, hb⟩
  have HB13 := Lib.hid (HB12.out.trans (hb.mono HB12.out.size))
  clear hb HB12
  go_wp2_with fail
  refine (nSig _).mono ?_
  rintro e w14 ⟨rfl, hb⟩
  have HB14 := Lib.hid (HB13.out.trans (hb.mono HB13.out.size))
  clear hb HB13
  go_wp2_with fail
  refine (nClone _).mono ?_
  rintro e w15 ⟨rfl, hb⟩
  have HB15 := Lib.hid (HB14.out.trans (hb.mono HB14.out.size))
  clear hb HB14
  go_wp2_with fail
  exact HR.out _ _ rfl HB15.out
end Go.Proofs.YtoadihebdaooaaaGreat
