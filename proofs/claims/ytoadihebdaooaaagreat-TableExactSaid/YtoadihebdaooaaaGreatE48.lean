/- The law's switch: Keep, Yield. Printed by mkZX.py. -/
import Derived.Test.YtoadihebdaooaaaGreatE47
namespace Go.Proofs.YtoadihebdaooaaaGreat
open Go.RowKit
set_option linter.unusedVariables false
/-- What the region with Keep keeps. -/
structure KM (w0 : World) (UB : Nat) (ver : Int) (a : Option Addr) (len cap : Nat) (cs : List Cmp) (set : Int) (B : Nat) (t t1 : TD) (V : List (List (List WI))) (u : UD) (rs : List URow) (X : Nat) (x : TA) (k1 k4 : Value) (f : Nat → Bool) (vs : Nat → Value) (w : World) : Prop where
  xp : XP w0 UB ver a len cap cs set B (if f 1 then t1 else t) V u rs w
  x : w.heap[X]? = some (.cells #[.int .i64 x.kind, .int .i64 x.i, .int .u64 x.e, .slice x.pa x.pl x.pc] 72 (0, 0))
  v1 : f 1 = true → vs 1 = k1
  v4 : f 4 = true → vs 4 = k4
structure KY (w0 : World) (UB : Nat) (ver : Int) (a : Option Addr) (len cap : Nat) (cs : List Cmp) (set : Int) (B : Nat) (t t1 : TD) (V : List (List (List WI))) (u : UD) (rs : List URow) (X : Nat) (x : TA) (k1 : Value) (f : Nat → Bool) (vs : Nat → Value) (w : World) : Prop where
  xp : XP w0 UB ver a len cap cs set B (if f 1 then t1 else t) V u rs w
  x : w.heap[X]? = some (.cells #[.int .i64 x.kind, .int .i64 x.i, .int .u64 x.e, .slice x.pa x.pl x.pc] 72 (0, 0))
  v1 : f 1 = true → vs 1 = k1
  tr : True
section
variable {w0 : World} {UB : Nat} {ver : Int} {a : Option Addr} {len cap : Nat} {cs : List Cmp} {set : Int} {B : Nat} {t t1 : TD} {V : List (List (List WI))} {u : UD} {rs : List URow} {w w' : World} {X : Nat} {x : TA} {f : Nat → Value} {d : List Deferred} {K : Act → World → Prop} {Q : Exit → Act → World → Prop} {k1 k4 : Value} {fb gb : Nat → Bool} {vs us : Nat → Value}
theorem KM.ucells (h : KM w0 UB ver a len cap cs set B t t1 V u rs X x k1 k4 fb vs w) : w.cell? ⟨UB, 0, none⟩ = some (.int .i64 u.ver) ∧ w.cell? ⟨UB, 1, none⟩ = some (.slice u.ca u.cl u.cc) ∧ w.cell? ⟨UB, 2, none⟩ = some (.slice u.ia u.il u.ic) ∧ w.cell? ⟨UB, 3, none⟩ = some (.int .i64 u.most) ∧ w.cell? ⟨UB, 4, none⟩ = some (.int .i64 u.kept) ∧ w.cell? ⟨UB, 5, none⟩ = some (.slice u.la u.ln u.lc) ∧ UB < w.heap.size := h.xp.cells
theorem KY.ucells (h : KY w0 UB ver a len cap cs set B t t1 V u rs X x k1 fb vs w) : w.cell? ⟨UB, 0, none⟩ = some (.int .i64 u.ver) ∧ w.cell? ⟨UB, 1, none⟩ = some (.slice u.ca u.cl u.cc) ∧ w.cell? ⟨UB, 2, none⟩ = some (.slice u.ia u.il u.ic) ∧ w.cell? ⟨UB, 3, none⟩ = some (.int .i64 u.most) ∧ w.cell? ⟨UB, 4, none⟩ = some (.int .i64 u.kept) ∧ w.cell? ⟨UB, 5, none⟩ = some (.slice u.la u.ln u.lc) ∧ UB < w.heap.size := h.xp.cells
theorem KM.congr (h : KM w0 UB ver a len cap cs set B t t1 V u rs X x k1 k4 fb vs w) (hs : ∀ i, i = 1 ∨ i = 4 → fb i = gb i ∧ vs i = us i) : KM w0 UB ver a len cap cs set B t t1 V u rs X x k1 k4 gb us w := by
  obtain ⟨a1, a2⟩ := hs 1 (.inl rfl)
  obtain ⟨a3, a4⟩ := hs 4 (.inr rfl)
  exact ⟨by rw [← a1]; exact h.xp, h.x, fun e => by rw [← a2]; exact h.v1 (a1.trans e), fun e => by rw [← a4]; exact h.v4 (a3.trans e)⟩
theorem KM.do1 (h : KM w0 UB ver a len cap cs set B t t1 V u rs X x k1 k4 fb vs w) (hf : fb 1 = false) (hx : XP w0 UB ver a len cap cs set B t1 V u rs w') (hX : w'.heap[X]? = some (.cells #[.int .i64 x.kind, .int .i64 x.i, .int .u64 x.e, .slice x.pa x.pl x.pc] 72 (0, 0))) : KM w0 UB ver a len cap cs set B t t1 V u rs X x k1 k4 (setB fb 1) (updV vs 1 k1) w' := by
  refine ⟨by simpa [setB] using hx, hX, fun _ => by simp [updV], fun e => ?_⟩
  have : fb 4 = true := by simpa [setB] using e
  simpa [updV] using h.v4 this
theorem KY.do1 (h : KY w0 UB ver a len cap cs set B t t1 V u rs X x k1 fb vs w) (hf : fb 1 = false) (hx : XP w0 UB ver a len cap cs set B t1 V u rs w') (hX : w'.heap[X]? = some (.cells #[.int .i64 x.kind, .int .i64 x.i, .int .u64 x.e, .slice x.pa x.pl x.pc] 72 (0, 0))) : KY w0 UB ver a len cap cs set B t t1 V u rs X x k1 (setB fb 1) (updV vs 1 k1) w' :=
  ⟨by simpa [setB] using hx, hX, fun _ => by simp [updV], trivial⟩
theorem KM.do4 (h : KM w0 UB ver a len cap cs set B t t1 V u rs X x k1 k4 fb vs w) (hf : fb 4 = false) (hb : Below w.heap.size w w') : KM w0 UB ver a len cap cs set B t t1 V u rs X x k1 k4 (setB fb 4) (updV vs 4 k4) w' := by
  refine ⟨?_, keep hb h.x, fun e => ?_, fun _ => by simp [updV]⟩
  · have := h.xp.below hb
    simpa [setB] using this
  · have : fb 1 = true := by simpa [setB] using e
    simpa [updV] using h.v1 this
set_option maxRecDepth 100000 in
set_option maxHeartbeats 1000000 in
theorem sw_keep0 (h : XP w0 UB ver a len cap cs set B t V u rs w) (hm : MatchR t V u rs) (hs : AtSw X x t UB f w) (hk : x.kind = 6) (hfz : t.free = 0) (hK : KSw w0 UB ver a len cap cs set B X x f d K) : (piece Tryz.f6 pSw).wp Tryz.prog (Exit.then K Q) ⟨(frX f).toArray, d⟩ w := by
  obtain ⟨f9, f20, f22, f192, hx⟩ := hs
  rw [hk] at f192
  obtain ⟨b0, b1, b2, b3, b4, b5⟩ := hm.bd h.tab
  have hrm := fun (W : World) => room16_any u W b0 b1 b2 b3 b4
  rw [b5] at hrm
  have hkp := hm.kept
  have hmo := h.tab.most2
  have hro := h.tab.room
  have HF := Lib.hid (And.intro f9 (And.intro f20 (And.intro f22 f192)))
  obtain ⟨uver, uca, ucl, ucc, uia, uil, uic, umost, ukept, ula, uln, ulc⟩ := u
  dsimp only [UD.v] at hrm hkp
  have HH := Lib.hid (And.intro h (And.intro hm (And.intro hx hK)))
  have HRM := Lib.hid hrm
  have HC := Lib.hid hfz
  have HKP := Lib.hid hkp
  have e5 : decide ((0 : Int) < (t.free : Int)) = false := by rw [decide_eq_false_iff_not]; omega
  have e6 : ¬ (0 < t.free) := by omega
  have e7 : decide (0 < t.free) = false := by rw [decide_eq_false_iff_not]; omega
  have hf256 : t.free ≤ 256 := by unfold TD.free; omega
  have hk256 : 0 ≤ ukept ∧ ukept ≤ 256 := ⟨b2, b3⟩
  clear h hm hx hK hk hrm hfz hkp
  unfold frX
  rw [f9, f20, f22, f192]
  clear f9 f20 f22 f192
  conv => arg 2; whnf
  go_upto_region 48 with (fail)
  refine wp_region_memF (by kernel_rfl) (by kernel_rfl) (by kernel_rfl) (by kernel_rfl) (fun i => ([(.pointer (some ⟨t.tb, 0, none⟩)), undef, (.bool false), (.agg #[.int .i64 uver, .slice uca ucl ucc, .slice uia uil uic, .int .i64 umost, .int .i64 ukept, .slice ula uln ulc]), undef, (.bool false), (.bool false)] : List Value).getD i undef) (fun i => i == 1 || i == 4) (fun f' vs w' => KM w0 UB ver a len cap cs set B t (t) V ⟨uver, uca, ucl, ucc, uia, uil, uic, umost, ukept, ula, uln, ulc⟩ rs X x (.int .i64 5) (.int .i64 (t.free : Int)) f' vs w') ?_ ?_ ?_ ?_ ?_ ?_
  · intro f' g vs us w' hs hM
    exact hM.congr (fun i hi => hs i (by rcases hi with rfl | rfl <;> rfl))
  · intro i hi
    simp at hi
    show i < 7
    omega
  · intro vs
    exact ⟨HH.out.1.below (Below.refl _ _).drew, HH.out.2.2.1, fun h => Bool.noConfusion h, fun h => Bool.noConfusion h⟩
  · intro f' vs w' iq o A F hS hMw ho hd
    have m9 : A.tmps[9]?.getD undef = (.pointer (some ⟨t.tb, 0, none⟩)) := F.m (by kernel_rfl) rfl
    have m20 : A.tmps[20]?.getD undef = (.pointer (some ⟨UB, 0, none⟩)) := F.m (by kernel_rfl) rfl
    have G := F.light (n := 417) (by kernel_rfl)
    clear F
    obtain ⟨c0, c1, c2, c3, c4, c5, hul⟩ := hMw.ucells
    dsimp only at c0 c1 c2 c3 c4 c5
    revert hS ho hd
    match iq with
    | 0 =>
      intro _ ho hd
      obtain rfl := (Option.some.inj ho).symm
      clear ho hd G
      exact step_pure (v := (.pointer (some ⟨t.tb, 0, none⟩))) (by clear hMw; go_simp; all_goals (have h0 := HC.out; omega))
    | 1 => intro hS; exact Bool.noConfusion hS
    | 2 =>
      intro _ ho hd
      obtain rfl := (Option.some.inj ho).symm
      have d1 : vs 1 = (.int .i64 5) := hMw.v1 (hd ⟨1, .data⟩ (by simp) rfl).1
      have h296 := G.h (j := 1) (d := 296) rfl (by decide) d1
      clear ho hd G
      exact step_pure (v := (.bool false)) (by clear hMw; go_simp; all_goals (have h0 := HC.out; omega))
    | 3 =>
      intro _ ho hd
      obtain rfl := (Option.some.inj ho).symm
      clear ho hd G
      exact step_pure (v := (.agg #[.int .i64 uver, .slice uca ucl ucc, .slice uia uil uic, .int .i64 umost, .int .i64 ukept, .slice ula uln ulc])) (by clear hMw; go_simp; all_goals (have h0 := HC.out; omega))
    | 4 => intro hS; exact Bool.noConfusion hS
    | 5 =>
      intro _ ho hd
      obtain rfl := (Option.some.inj ho).symm
      have d4 : vs 4 = (.int .i64 (t.free : Int)) := hMw.v4 (hd ⟨4, .data⟩ (by simp) rfl).1
      have h299 := G.h (j := 4) (d := 299) rfl (by decide) d4
      clear ho hd G
      exact step_pure (v := (.bool false)) (by clear hMw; go_simp; all_goals (have h0 := HC.out; omega))
    | 6 =>
      intro _ ho hd
      obtain rfl := (Option.some.inj ho).symm
      have d2 : vs 2 = (.bool false) := (hd ⟨2, .data⟩ (by simp) rfl).2 rfl
      have h297 := G.h (j := 2) (d := 297) rfl (by decide) d2
      have d5 : vs 5 = (.bool false) := (hd ⟨5, .data⟩ (by simp) rfl).2 rfl
      have h300 := G.h (j := 5) (d := 300) rfl (by decide) d5
      clear ho hd G
      exact step_pure (v := (.bool false)) (by clear hMw; go_simp; all_goals (have h0 := HC.out; omega))
    | n + 7 =>
      intro _ ho
      simp at ho
  · intro f' vs w' iq o A F hS hMw hfi ho hd
    have m9 : A.tmps[9]?.getD undef = (.pointer (some ⟨t.tb, 0, none⟩)) := F.m (by kernel_rfl) rfl
    have m20 : A.tmps[20]?.getD undef = (.pointer (some ⟨UB, 0, none⟩)) := F.m (by kernel_rfl) rfl
    have G := F.light (n := 417) (by kernel_rfl)
    clear F
    revert hS hfi ho hd
    match iq with
    | 0 => intro hS; exact Bool.noConfusion hS
    | 1 =>
      intro _ hfi ho hd
      obtain rfl := (Option.some.inj ho).symm
      have d0 : vs 0 = (.pointer (some ⟨t.tb, 0, none⟩)) := (hd ⟨0, .data⟩ (by simp) rfl).2 rfl
      have h295 := G.h (j := 0) (d := 295) rfl (by decide) d0
      clear ho hd G
      have hxp := hMw.xp
      rw [hfi] at hxp
      simp only [Bool.false_eq_true, if_false] at hxp
      have HMw := Lib.hid hMw
      have hcall := tabKeep_in hxp.tab
      rw [if_pos HC.out] at hcall
      have HXP := Lib.hid hxp
      clear hMw hxp
      go_simp
      refine hcall.mono ?_
      rintro e w9 ⟨rfl, ht, ho⟩
      rw [if_pos HC.out] at ht
      have hxp2 := HXP.out.table (t' := t) ho ht HXP.out.vals rfl rfl
      exact ⟨_, rfl, HMw.out.do1 hfi hxp2 (ho.keep HMw.out.x (HXP.out.not_act HMw.out.x))⟩
    | 2 => intro hS; exact Bool.noConfusion hS
    | 3 => intro hS; exact Bool.noConfusion hS
    | 4 =>
      intro _ hfi ho hd
      obtain rfl := (Option.some.inj ho).symm
      have d3 : vs 3 = (.agg #[.int .i64 uver, .slice uca ucl ucc, .slice uia uil uic, .int .i64 umost, .int .i64 ukept, .slice ula uln ulc]) := (hd ⟨3, .data⟩ (by simp) rfl).2 rfl
      have h298 := G.h (j := 3) (d := 298) rfl (by decide) d3
      clear ho hd G
      have HMw := Lib.hid hMw
      have hcall := HRM.out w'
      clear hMw
      go_simp
      refine hcall.mono ?_
      rintro e w9 ⟨rfl, hb9⟩
      exact ⟨_, rfl, HMw.out.do4 hfi hb9⟩
    | 5 => intro hS; exact Bool.noConfusion hS
    | 6 => intro hS; exact Bool.noConfusion hS
    | n + 7 =>
      intro _ _ ho
      simp at ho
  intro vs w6 hMw hcs
  have hv6 : vs 6 = .bool false := hcs 6 (by decide) rfl
  simp only [putAll, Act.put, List.setIfInBounds_toArray, List.set_cons_succ, List.set_cons_zero, Nat.zero_add, Nat.reduceAdd]
  rw [hv6]
  have hX6 := hMw.xp
  rw [if_pos rfl] at hX6
  have HX6 := Lib.hid hX6
  have HA6 := Lib.hid hMw.x
  obtain ⟨c0, c1, c2, c3, c4, c5, hul⟩ := hX6.cells
  dsimp only at c0 c1 c2 c3 c4 c5
  have g4 := free_at hX6.ub 4
  clear hMw hcs hv6 hX6
  go_wp2_with fail
  refine (HRM.out w6).mono ?_
  rintro en w7 ⟨rfl, hb7⟩
  have HX7 := Lib.hid (HX6.out.below hb7)
  have HA7 := Lib.hid (keep hb7 HA6.out)
  clear c0 c1 c2 c3 c4 c5 hul g4 hb7 HX6 HA6
  obtain ⟨c0, c1, c2, c3, c4, c5, hul⟩ := HX7.out.cells
  dsimp only at c0 c1 c2 c3 c4 c5
  have g4 := free_at HX7.out.ub 4
  go_wp2_with fail
  obtain ⟨h, hm, hx, hK⟩ := HH.out
  refine hK _ _ t V ⟨uver, uca, ucl, ucc, uia, uil, uic, umost, ukept, ula, uln, ulc⟩ rs HX7.out hm ?_ HA7.out ?_
  · rfl
  · unfold frX
    rw [HF.out.2.1, HF.out.2.2.1, HF.out.2.2.2]
    rfl
set_option maxRecDepth 100000 in
set_option maxHeartbeats 1000000 in
theorem sw_keep1 (h : XP w0 UB ver a len cap cs set B t V u rs w) (hm : MatchR t V u rs) (hs : AtSw X x t UB f w) (hk : x.kind = 6) (hfz : ¬ t.free = 0) (hK : KSw w0 UB ver a len cap cs set B X x f d K) : (piece Tryz.f6 pSw).wp Tryz.prog (Exit.then K Q) ⟨(frX f).toArray, d⟩ w := by
  obtain ⟨f9, f20, f22, f192, hx⟩ := hs
  rw [hk] at f192
  obtain ⟨b0, b1, b2, b3, b4, b5⟩ := hm.bd h.tab
  have hrm := fun (W : World) => room16_any u W b0 b1 b2 b3 b4
  rw [b5] at hrm
  have hkp := hm.kept
  have hmo := h.tab.most2
  have hro := h.tab.room
  have HF := Lib.hid (And.intro f9 (And.intro f20 (And.intro f22 f192)))
  obtain ⟨uver, uca, ucl, ucc, uia, uil, uic, umost, ukept, ula, uln, ulc⟩ := u
  dsimp only [UD.v] at hrm hkp
  have HH := Lib.hid (And.intro h (And.intro hm (And.intro hx hK)))
  have HRM := Lib.hid hrm
  have HC := Lib.hid hfz
  have HKP := Lib.hid hkp
  have e5 : decide ((0 : Int) < (t.free : Int)) = true := by rw [decide_eq_true_eq]; omega
  have e6 : 0 < t.free := by omega
  have e7 : decide (0 < t.free) = true := by rw [decide_eq_true_eq]; omega
  have hf256 : t.free ≤ 256 := by unfold TD.free; omega
  have hk256 : 0 ≤ ukept ∧ ukept ≤ 256 := ⟨b2, b3⟩
  clear h hm hx hK hk hrm hfz hkp
  unfold frX
  rw [f9, f20, f22, f192]
  clear f9 f20 f22 f192
  conv => arg 2; whnf
  go_upto_region 48 with (fail)
  refine wp_region_memF (by kernel_rfl) (by kernel_rfl) (by kernel_rfl) (by kernel_rfl) (fun i => ([(.pointer (some ⟨t.tb, 0, none⟩)), undef, (.bool true), (.agg #[.int .i64 uver, .slice uca ucl ucc, .slice uia uil uic, .int .i64 umost, .int .i64 ukept, .slice ula uln ulc]), undef, (.bool true), (.bool false)] : List Value).getD i undef) (fun i => i == 1 || i == 4) (fun f' vs w' => KM w0 UB ver a len cap cs set B t ({ t with kept := t.kept + 1 }) V ⟨uver, uca, ucl, ucc, uia, uil, uic, umost, ukept, ula, uln, ulc⟩ rs X x (.int .i64 0) (.int .i64 (t.free : Int)) f' vs w') ?_ ?_ ?_ ?_ ?_ ?_
  · intro f' g vs us w' hs hM
    exact hM.congr (fun i hi => hs i (by rcases hi with rfl | rfl <;> rfl))
  · intro i hi
    simp at hi
    show i < 7
    omega
  · intro vs
    exact ⟨HH.out.1.below (Below.refl _ _).drew, HH.out.2.2.1, fun h => Bool.noConfusion h, fun h => Bool.noConfusion h⟩
  · intro f' vs w' iq o A F hS hMw ho hd
    have m9 : A.tmps[9]?.getD undef = (.pointer (some ⟨t.tb, 0, none⟩)) := F.m (by kernel_rfl) rfl
    have m20 : A.tmps[20]?.getD undef = (.pointer (some ⟨UB, 0, none⟩)) := F.m (by kernel_rfl) rfl
    have G := F.light (n := 417) (by kernel_rfl)
    clear F
    obtain ⟨c0, c1, c2, c3, c4, c5, hul⟩ := hMw.ucells
    dsimp only at c0 c1 c2 c3 c4 c5
    revert hS ho hd
    match iq with
    | 0 =>
      intro _ ho hd
      obtain rfl := (Option.some.inj ho).symm
      clear ho hd G
      exact step_pure (v := (.pointer (some ⟨t.tb, 0, none⟩))) (by clear hMw; go_simp; all_goals (have h0 := HC.out; omega))
    | 1 => intro hS; exact Bool.noConfusion hS
    | 2 =>
      intro _ ho hd
      obtain rfl := (Option.some.inj ho).symm
      have d1 : vs 1 = (.int .i64 0) := hMw.v1 (hd ⟨1, .data⟩ (by simp) rfl).1
      have h296 := G.h (j := 1) (d := 296) rfl (by decide) d1
      clear ho hd G
      exact step_pure (v := (.bool true)) (by clear hMw; go_simp; all_goals (have h0 := HC.out; omega))
    | 3 =>
      intro _ ho hd
      obtain rfl := (Option.some.inj ho).symm
      clear ho hd G
      exact step_pure (v := (.agg #[.int .i64 uver, .slice uca ucl ucc, .slice uia uil uic, .int .i64 umost, .int .i64 ukept, .slice ula uln ulc])) (by clear hMw; go_simp; all_goals (have h0 := HC.out; omega))
    | 4 => intro hS; exact Bool.noConfusion hS
    | 5 =>
      intro _ ho hd
      obtain rfl := (Option.some.inj ho).symm
      have d4 : vs 4 = (.int .i64 (t.free : Int)) := hMw.v4 (hd ⟨4, .data⟩ (by simp) rfl).1
      have h299 := G.h (j := 4) (d := 299) rfl (by decide) d4
      clear ho hd G
      exact step_pure (v := (.bool true)) (by clear hMw; go_simp; all_goals (have h0 := HC.out; omega))
    | 6 =>
      intro _ ho hd
      obtain rfl := (Option.some.inj ho).symm
      have d2 : vs 2 = (.bool true) := (hd ⟨2, .data⟩ (by simp) rfl).2 rfl
      have h297 := G.h (j := 2) (d := 297) rfl (by decide) d2
      have d5 : vs 5 = (.bool true) := (hd ⟨5, .data⟩ (by simp) rfl).2 rfl
      have h300 := G.h (j := 5) (d := 300) rfl (by decide) d5
      clear ho hd G
      exact step_pure (v := (.bool false)) (by clear hMw; go_simp; all_goals (have h0 := HC.out; omega))
    | n + 7 =>
      intro _ ho
      simp at ho
  · intro f' vs w' iq o A F hS hMw hfi ho hd
    have m9 : A.tmps[9]?.getD undef = (.pointer (some ⟨t.tb, 0, none⟩)) := F.m (by kernel_rfl) rfl
    have m20 : A.tmps[20]?.getD undef = (.pointer (some ⟨UB, 0, none⟩)) := F.m (by kernel_rfl) rfl
    have G := F.light (n := 417) (by kernel_rfl)
    clear F
    revert hS hfi ho hd
    match iq with
    | 0 => intro hS; exact Bool.noConfusion hS
    | 1 =>
      intro _ hfi ho hd
      obtain rfl := (Option.some.inj ho).symm
      have d0 : vs 0 = (.pointer (some ⟨t.tb, 0, none⟩)) := (hd ⟨0, .data⟩ (by simp) rfl).2 rfl
      have h295 := G.h (j := 0) (d := 295) rfl (by decide) d0
      clear ho hd G
      have hxp := hMw.xp
      rw [hfi] at hxp
      simp only [Bool.false_eq_true, if_false] at hxp
      have HMw := Lib.hid hMw
      have hcall := tabKeep_in hxp.tab
      rw [if_neg HC.out] at hcall
      have HXP := Lib.hid hxp
      clear hMw hxp
      go_simp
      refine hcall.mono ?_
      rintro e w9 ⟨rfl, ht, ho⟩
      rw [if_neg HC.out] at ht
      have hxp2 := HXP.out.table (t' := { t with kept := t.kept + 1 }) ho ht ⟨HXP.out.vals.len, HXP.out.vals.row, HXP.out.vals.at_⟩ rfl rfl
      exact ⟨_, rfl, HMw.out.do1 hfi hxp2 (ho.keep HMw.out.x (HXP.out.not_act HMw.out.x))⟩
    | 2 => intro hS; exact Bool.noConfusion hS
    | 3 => intro hS; exact Bool.noConfusion hS
    | 4 =>
      intro _ hfi ho hd
      obtain rfl := (Option.some.inj ho).symm
      have d3 : vs 3 = (.agg #[.int .i64 uver, .slice uca ucl ucc, .slice uia uil uic, .int .i64 umost, .int .i64 ukept, .slice ula uln ulc]) := (hd ⟨3, .data⟩ (by simp) rfl).2 rfl
      have h298 := G.h (j := 3) (d := 298) rfl (by decide) d3
      clear ho hd G
      have HMw := Lib.hid hMw
      have hcall := HRM.out w'
      clear hMw
      go_simp
      refine hcall.mono ?_
      rintro e w9 ⟨rfl, hb9⟩
      exact ⟨_, rfl, HMw.out.do4 hfi hb9⟩
    | 5 => intro hS; exact Bool.noConfusion hS
    | 6 => intro hS; exact Bool.noConfusion hS
    | n + 7 =>
      intro _ _ ho
      simp at ho
  intro vs w6 hMw hcs
  have hv6 : vs 6 = .bool false := hcs 6 (by decide) rfl
  simp only [putAll, Act.put, List.setIfInBounds_toArray, List.set_cons_succ, List.set_cons_zero, Nat.zero_add, Nat.reduceAdd]
  rw [hv6]
  have hX6 := hMw.xp
  rw [if_pos rfl] at hX6
  have HX6 := Lib.hid hX6
  have HA6 := Lib.hid hMw.x
  obtain ⟨c0, c1, c2, c3, c4, c5, hul⟩ := hX6.cells
  dsimp only at c0 c1 c2 c3 c4 c5
  have g4 := free_at hX6.ub 4
  clear hMw hcs hv6 hX6
  go_wp2_with fail
  refine (HRM.out w6).mono ?_
  rintro en w7 ⟨rfl, hb7⟩
  have HX7 := Lib.hid (HX6.out.below hb7)
  have HA7 := Lib.hid (keep hb7 HA6.out)
  clear c0 c1 c2 c3 c4 c5 hul g4 hb7 HX6 HA6
  obtain ⟨c0, c1, c2, c3, c4, c5, hul⟩ := HX7.out.cells
  dsimp only at c0 c1 c2 c3 c4 c5
  have g4 := free_at HX7.out.ub 4
  have hw1 : IntKind.i64.wrap (ukept + 1) = ukept + 1 := IntWalk.i64_in _ (by omega)
  go_wp2_with fail
  obtain ⟨h, hm, hx, hK⟩ := HH.out
  have hfin := HX7.out.kept (ukept + 1)
  have hkx := keepO (Only.at w7 UB 4 (.int .i64 (ukept + 1))) HA7.out (fun e => by
    have h1 := HA7.out
    rw [e, HX7.out.ub] at h1
    cases h1)
  have hmr : MatchR { t with kept := t.kept + 1 } V ⟨uver, uca, ucl, ucc, uia, uil, uic, umost, ukept + 1, ula, uln, ulc⟩ rs := ⟨hm.len, hm.ln, hm.ent, hm.val, by have h1 := HKP.out; have h2 := HC.out; show ukept + 1 = ((t.kept + 1 : Nat) : Int); omega, hm.most⟩
  refine hK _ _ ({ t with kept := t.kept + 1 }) V ⟨uver, uca, ucl, ucc, uia, uil, uic, umost, ukept + 1, ula, uln, ulc⟩ rs hfin hmr ?_ hkx ?_
  · rfl
  · unfold frX
    rw [HF.out.2.1, HF.out.2.2.1, HF.out.2.2.2]
    rfl
set_option maxRecDepth 100000 in
set_option maxHeartbeats 1000000 in
theorem sw_yield0 (h : XP w0 UB ver a len cap cs set B t V u rs w) (hm : MatchR t V u rs) (hs : AtSw X x t UB f w) (hk : x.kind = 7) (hfz : t.kept = 0) (hK : KSw w0 UB ver a len cap cs set B X x f d K) : (piece Tryz.f6 pSw).wp Tryz.prog (Exit.then K Q) ⟨(frX f).toArray, d⟩ w := by
  obtain ⟨f9, f20, f22, f192, hx⟩ := hs
  rw [hk] at f192
  obtain ⟨b0, b1, b2, b3, b4, b5⟩ := hm.bd h.tab
  have hrm := fun (W : World) => room16_any u W b0 b1 b2 b3 b4
  rw [b5] at hrm
  have hkp := hm.kept
  have hmo := h.tab.most2
  have hro := h.tab.room
  have HF := Lib.hid (And.intro f9 (And.intro f20 (And.intro f22 f192)))
  obtain ⟨uver, uca, ucl, ucc, uia, uil, uic, umost, ukept, ula, uln, ulc⟩ := u
  dsimp only [UD.v] at hrm hkp
  have HH := Lib.hid (And.intro h (And.intro hm (And.intro hx hK)))
  have HRM := Lib.hid hrm
  have HC := Lib.hid hfz
  have HKP := Lib.hid hkp
  have e5 : decide ((0 : Int) < ukept) = false := by rw [decide_eq_false_iff_not]; omega
  have e6 : True := trivial
  have e7 : True := trivial
  have hf256 : t.free ≤ 256 := by unfold TD.free; omega
  have hk256 : 0 ≤ ukept ∧ ukept ≤ 256 := ⟨b2, b3⟩
  clear h hm hx hK hk hrm hfz hkp
  unfold frX
  rw [f9, f20, f22, f192]
  clear f9 f20 f22 f192
  conv => arg 2; whnf
  go_upto_region 53 with (fail)
  refine wp_region_memF (by kernel_rfl) (by kernel_rfl) (by kernel_rfl) (by kernel_rfl) (fun i => ([(.pointer (some ⟨t.tb, 0, none⟩)), undef, (.bool false), (.pointer (some ⟨UB, 4, none⟩)), (.int .i64 ukept), (.bool false), (.bool false)] : List Value).getD i undef) (fun i => i == 1) (fun f' vs w' => KY w0 UB ver a len cap cs set B t (t) V ⟨uver, uca, ucl, ucc, uia, uil, uic, umost, ukept, ula, uln, ulc⟩ rs X x (.int .i64 6) f' vs w') ?_ ?_ ?_ ?_ ?_ ?_
  · intro f' g vs us w' hs hM
    have h1 := hs 1 rfl
    obtain ⟨q1, q2, q3, q4⟩ := hM
    exact ⟨by rw [← h1.1]; exact q1, q2, fun h => by rw [← h1.2]; exact q3 (h1.1.trans h), q4⟩
  · intro i hi
    simp at hi
    show i < 7
    omega
  · intro vs
    exact ⟨HH.out.1.below (Below.refl _ _).drew, HH.out.2.2.1, fun h => Bool.noConfusion h, trivial⟩
  · intro f' vs w' iq o A F hS hMw ho hd
    have m9 : A.tmps[9]?.getD undef = (.pointer (some ⟨t.tb, 0, none⟩)) := F.m (by kernel_rfl) rfl
    have m20 : A.tmps[20]?.getD undef = (.pointer (some ⟨UB, 0, none⟩)) := F.m (by kernel_rfl) rfl
    have G := F.light (n := 417) (by kernel_rfl)
    clear F
    obtain ⟨c0, c1, c2, c3, c4, c5, hul⟩ := hMw.ucells
    dsimp only at c0 c1 c2 c3 c4 c5
    revert hS ho hd
    match iq with
    | 0 =>
      intro _ ho hd
      obtain rfl := (Option.some.inj ho).symm
      clear ho hd G
      exact step_pure (v := (.pointer (some ⟨t.tb, 0, none⟩))) (by clear hMw; go_simp; all_goals (have h0 := HC.out; omega))
    | 1 => intro hS; exact Bool.noConfusion hS
    | 2 =>
      intro _ ho hd
      obtain rfl := (Option.some.inj ho).symm
      have d1 : vs 1 = (.int .i64 6) := hMw.v1 (hd ⟨1, .data⟩ (by simp) rfl).1
      have h312 := G.h (j := 1) (d := 312) rfl (by decide) d1
      clear ho hd G
      exact step_pure (v := (.bool false)) (by clear hMw; go_simp; all_goals (have h0 := HC.out; omega))
    | 3 =>
      intro _ ho hd
      obtain rfl := (Option.some.inj ho).symm
      clear ho hd G
      exact step_pure (v := (.pointer (some ⟨UB, 4, none⟩))) (by clear hMw; go_simp; all_goals (have h0 := HC.out; omega))
    | 4 =>
      intro _ ho hd
      obtain rfl := (Option.some.inj ho).symm
      have d3 : vs 3 = (.pointer (some ⟨UB, 4, none⟩)) := (hd ⟨3, .data⟩ (by simp) rfl).2 rfl
      have h314 := G.h (j := 3) (d := 314) rfl (by decide) d3
      clear ho hd G
      exact step_pure (v := (.int .i64 ukept)) (by clear hMw; go_simp; all_goals (have h0 := HC.out; omega))
    | 5 =>
      intro _ ho hd
      obtain rfl := (Option.some.inj ho).symm
      have d4 : vs 4 = (.int .i64 ukept) := (hd ⟨4, .data⟩ (by simp) rfl).2 rfl
      have h315 := G.h (j := 4) (d := 315) rfl (by decide) d4
      clear ho hd G
      exact step_pure (v := (.bool false)) (by clear hMw; go_simp; all_goals (have h0 := HC.out; omega))
    | 6 =>
      intro _ ho hd
      obtain rfl := (Option.some.inj ho).symm
      have d2 : vs 2 = (.bool false) := (hd ⟨2, .data⟩ (by simp) rfl).2 rfl
      have h313 := G.h (j := 2) (d := 313) rfl (by decide) d2
      have d5 : vs 5 = (.bool false) := (hd ⟨5, .data⟩ (by simp) rfl).2 rfl
      have h316 := G.h (j := 5) (d := 316) rfl (by decide) d5
      clear ho hd G
      exact step_pure (v := (.bool false)) (by clear hMw; go_simp; all_goals (have h0 := HC.out; omega))
    | n + 7 =>
      intro _ ho
      simp at ho
  · intro f' vs w' iq o A F hS hMw hfi ho hd
    have m9 : A.tmps[9]?.getD undef = (.pointer (some ⟨t.tb, 0, none⟩)) := F.m (by kernel_rfl) rfl
    have m20 : A.tmps[20]?.getD undef = (.pointer (some ⟨UB, 0, none⟩)) := F.m (by kernel_rfl) rfl
    have G := F.light (n := 417) (by kernel_rfl)
    clear F
    revert hS hfi ho hd
    match iq with
    | 0 => intro hS; exact Bool.noConfusion hS
    | 1 =>
      intro _ hfi ho hd
      obtain rfl := (Option.some.inj ho).symm
      have d0 : vs 0 = (.pointer (some ⟨t.tb, 0, none⟩)) := (hd ⟨0, .data⟩ (by simp) rfl).2 rfl
      have h311 := G.h (j := 0) (d := 311) rfl (by decide) d0
      clear ho hd G
      have hxp := hMw.xp
      rw [hfi] at hxp
      simp only [Bool.false_eq_true, if_false] at hxp
      have HMw := Lib.hid hMw
      have hcall := tabYield_in hxp.tab
      rw [if_pos HC.out] at hcall
      have HXP := Lib.hid hxp
      clear hMw hxp
      go_simp
      refine hcall.mono ?_
      rintro e w9 ⟨rfl, ht, ho⟩
      rw [if_pos HC.out] at ht
      have hxp2 := HXP.out.table (t' := t) ho ht HXP.out.vals rfl rfl
      exact ⟨_, rfl, HMw.out.do1 hfi hxp2 (ho.keep HMw.out.x (HXP.out.not_act HMw.out.x))⟩
    | 2 => intro hS; exact Bool.noConfusion hS
    | 3 => intro hS; exact Bool.noConfusion hS
    | 4 => intro hS; exact Bool.noConfusion hS
    | 5 => intro hS; exact Bool.noConfusion hS
    | 6 => intro hS; exact Bool.noConfusion hS
    | n + 7 =>
      intro _ _ ho
      simp at ho
  intro vs w6 hMw hcs
  have hv6 : vs 6 = .bool false := hcs 6 (by decide) rfl
  simp only [putAll, Act.put, List.setIfInBounds_toArray, List.set_cons_succ, List.set_cons_zero, Nat.zero_add, Nat.reduceAdd]
  rw [hv6]
  have hX6 := hMw.xp
  rw [if_pos rfl] at hX6
  have HX6 := Lib.hid hX6
  have HA6 := Lib.hid hMw.x
  obtain ⟨c0, c1, c2, c3, c4, c5, hul⟩ := hX6.cells
  dsimp only at c0 c1 c2 c3 c4 c5
  have g4 := free_at hX6.ub 4
  clear hMw hcs hv6 hX6
  have HX7 := Lib.hid HX6.out
  have HA7 := Lib.hid HA6.out
  clear HX6 HA6
  go_wp2_with fail
  obtain ⟨h, hm, hx, hK⟩ := HH.out
  refine hK _ _ t V ⟨uver, uca, ucl, ucc, uia, uil, uic, umost, ukept, ula, uln, ulc⟩ rs HX7.out hm ?_ HA7.out ?_
  · rfl
  · unfold frX
    rw [HF.out.2.1, HF.out.2.2.1, HF.out.2.2.2]
    rfl
set_option maxRecDepth 100000 in
set_option maxHeartbeats 1000000 in
theorem sw_yield1 (h : XP w0 UB ver a len cap cs set B t V u rs w) (hm : MatchR t V u rs) (hs : AtSw X x t UB f w) (hk : x.kind = 7) (hfz : ¬ t.kept = 0) (hK : KSw w0 UB ver a len cap cs set B X x f d K) : (piece Tryz.f6 pSw).wp Tryz.prog (Exit.then K Q) ⟨(frX f).toArray, d⟩ w := by
  obtain ⟨f9, f20, f22, f192, hx⟩ := hs
  rw [hk] at f192
  obtain ⟨b0, b1, b2, b3, b4, b5⟩ := hm.bd h.tab
  have hrm := fun (W : World) => room16_any u W b0 b1 b2 b3 b4
  rw [b5] at hrm
  have hkp := hm.kept
  have hmo := h.tab.most2
  have hro := h.tab.room
  have HF := Lib.hid (And.intro f9 (And.intro f20 (And.intro f22 f192)))
  obtain ⟨uver, uca, ucl, ucc, uia, uil, uic, umost, ukept, ula, uln, ulc⟩ := u
  dsimp only [UD.v] at hrm hkp
  have HH := Lib.hid (And.intro h (And.intro hm (And.intro hx hK)))
  have HRM := Lib.hid hrm
  have HC := Lib.hid hfz
  have HKP := Lib.hid hkp
  have e5 : decide ((0 : Int) < ukept) = true := by rw [decide_eq_true_eq]; omega
  have e6 : True := trivial
  have e7 : True := trivial
  have hf256 : t.free ≤ 256 := by unfold TD.free; omega
  have hk256 : 0 ≤ ukept ∧ ukept ≤ 256 := ⟨b2, b3⟩
  clear h hm hx hK hk hrm hfz hkp
  unfold frX
  rw [f9, f20, f22, f192]
  clear f9 f20 f22 f192
  conv => arg 2; whnf
  go_upto_region 53 with (fail)
  refine wp_region_memF (by kernel_rfl) (by kernel_rfl) (by kernel_rfl) (by kernel_rfl) (fun i => ([(.pointer (some ⟨t.tb, 0, none⟩)), undef, (.bool true), (.pointer (some ⟨UB, 4, none⟩)), (.int .i64 ukept), (.bool true), (.bool false)] : List Value).getD i undef) (fun i => i == 1) (fun f' vs w' => KY w0 UB ver a len cap cs set B t ({ t with kept := t.kept - 1 }) V ⟨uver, uca, ucl, ucc, uia, uil, uic, umost, ukept, ula, uln, ulc⟩ rs X x (.int .i64 0) f' vs w') ?_ ?_ ?_ ?_ ?_ ?_
  · intro f' g vs us w' hs hM
    have h1 := hs 1 rfl
    obtain ⟨q1, q2, q3, q4⟩ := hM
    exact ⟨by rw [← h1.1]; exact q1, q2, fun h => by rw [← h1.2]; exact q3 (h1.1.trans h), q4⟩
  · intro i hi
    simp at hi
    show i < 7
    omega
  · intro vs
    exact ⟨HH.out.1.below (Below.refl _ _).drew, HH.out.2.2.1, fun h => Bool.noConfusion h, trivial⟩
  · intro f' vs w' iq o A F hS hMw ho hd
    have m9 : A.tmps[9]?.getD undef = (.pointer (some ⟨t.tb, 0, none⟩)) := F.m (by kernel_rfl) rfl
    have m20 : A.tmps[20]?.getD undef = (.pointer (some ⟨UB, 0, none⟩)) := F.m (by kernel_rfl) rfl
    have G := F.light (n := 417) (by kernel_rfl)
    clear F
    obtain ⟨c0, c1, c2, c3, c4, c5, hul⟩ := hMw.ucells
    dsimp only at c0 c1 c2 c3 c4 c5
    revert hS ho hd
    match iq with
    | 0 =>
      intro _ ho hd
      obtain rfl := (Option.some.inj ho).symm
      clear ho hd G
      exact step_pure (v := (.pointer (some ⟨t.tb, 0, none⟩))) (by clear hMw; go_simp; all_goals (have h0 := HC.out; omega))
    | 1 => intro hS; exact Bool.noConfusion hS
    | 2 =>
      intro _ ho hd
      obtain rfl := (Option.some.inj ho).symm
      have d1 : vs 1 = (.int .i64 0) := hMw.v1 (hd ⟨1, .data⟩ (by simp) rfl).1
      have h312 := G.h (j := 1) (d := 312) rfl (by decide) d1
      clear ho hd G
      exact step_pure (v := (.bool true)) (by clear hMw; go_simp; all_goals (have h0 := HC.out; omega))
    | 3 =>
      intro _ ho hd
      obtain rfl := (Option.some.inj ho).symm
      clear ho hd G
      exact step_pure (v := (.pointer (some ⟨UB, 4, none⟩))) (by clear hMw; go_simp; all_goals (have h0 := HC.out; omega))
    | 4 =>
      intro _ ho hd
      obtain rfl := (Option.some.inj ho).symm
      have d3 : vs 3 = (.pointer (some ⟨UB, 4, none⟩)) := (hd ⟨3, .data⟩ (by simp) rfl).2 rfl
      have h314 := G.h (j := 3) (d := 314) rfl (by decide) d3
      clear ho hd G
      exact step_pure (v := (.int .i64 ukept)) (by clear hMw; go_simp; all_goals (have h0 := HC.out; omega))
    | 5 =>
      intro _ ho hd
      obtain rfl := (Option.some.inj ho).symm
      have d4 : vs 4 = (.int .i64 ukept) := (hd ⟨4, .data⟩ (by simp) rfl).2 rfl
      have h315 := G.h (j := 4) (d := 315) rfl (by decide) d4
      clear ho hd G
      exact step_pure (v := (.bool true)) (by clear hMw; go_simp; all_goals (have h0 := HC.out; omega))
    | 6 =>
      intro _ ho hd
      obtain rfl := (Option.some.inj ho).symm
      have d2 : vs 2 = (.bool true) := (hd ⟨2, .data⟩ (by simp) rfl).2 rfl
      have h313 := G.h (j := 2) (d := 313) rfl (by decide) d2
      have d5 : vs 5 = (.bool true) := (hd ⟨5, .data⟩ (by simp) rfl).2 rfl
      have h316 := G.h (j := 5) (d := 316) rfl (by decide) d5
      clear ho hd G
      exact step_pure (v := (.bool false)) (by clear hMw; go_simp; all_goals (have h0 := HC.out; omega))
    | n + 7 =>
      intro _ ho
      simp at ho
  · intro f' vs w' iq o A F hS hMw hfi ho hd
    have m9 : A.tmps[9]?.getD undef = (.pointer (some ⟨t.tb, 0, none⟩)) := F.m (by kernel_rfl) rfl
    have m20 : A.tmps[20]?.getD undef = (.pointer (some ⟨UB, 0, none⟩)) := F.m (by kernel_rfl) rfl
    have G := F.light (n := 417) (by kernel_rfl)
    clear F
    revert hS hfi ho hd
    match iq with
    | 0 => intro hS; exact Bool.noConfusion hS
    | 1 =>
      intro _ hfi ho hd
      obtain rfl := (Option.some.inj ho).symm
      have d0 : vs 0 = (.pointer (some ⟨t.tb, 0, none⟩)) := (hd ⟨0, .data⟩ (by simp) rfl).2 rfl
      have h311 := G.h (j := 0) (d := 311) rfl (by decide) d0
      clear ho hd G
      have hxp := hMw.xp
      rw [hfi] at hxp
      simp only [Bool.false_eq_true, if_false] at hxp
      have HMw := Lib.hid hMw
      have hcall := tabYield_in hxp.tab
      rw [if_neg HC.out] at hcall
      have HXP := Lib.hid hxp
      clear hMw hxp
      go_simp
      refine hcall.mono ?_
      rintro e w9 ⟨rfl, ht, ho⟩
      rw [if_neg HC.out] at ht
      have hxp2 := HXP.out.table (t' := { t with kept := t.kept - 1 }) ho ht ⟨HXP.out.vals.len, HXP.out.vals.row, HXP.out.vals.at_⟩ rfl rfl
      exact ⟨_, rfl, HMw.out.do1 hfi hxp2 (ho.keep HMw.out.x (HXP.out.not_act HMw.out.x))⟩
    | 2 => intro hS; exact Bool.noConfusion hS
    | 3 => intro hS; exact Bool.noConfusion hS
    | 4 => intro hS; exact Bool.noConfusion hS
    | 5 => intro hS; exact Bool.noConfusion hS
    | 6 => intro hS; exact Bool.noConfusion hS
    | n + 7 =>
      intro _ _ ho
      simp at ho
  intro vs w6 hMw hcs
  have hv6 : vs 6 = .bool false := hcs 6 (by decide) rfl
  simp only [putAll, Act.put, List.setIfInBounds_toArray, List.set_cons_succ, List.set_cons_zero, Nat.zero_add, Nat.reduceAdd]
  rw [hv6]
  have hX6 := hMw.xp
  rw [if_pos rfl] at hX6
  have HX6 := Lib.hid hX6
  have HA6 := Lib.hid hMw.x
  obtain ⟨c0, c1, c2, c3, c4, c5, hul⟩ := hX6.cells
  dsimp only at c0 c1 c2 c3 c4 c5
  have g4 := free_at hX6.ub 4
  clear hMw hcs hv6 hX6
  have HX7 := Lib.hid HX6.out
  have HA7 := Lib.hid HA6.out
  clear HX6 HA6
  have hw1 : IntKind.i64.wrap (ukept - 1) = ukept - 1 := IntWalk.i64_in _ (by omega)
  go_wp2_with fail
  obtain ⟨h, hm, hx, hK⟩ := HH.out
  have hfin := HX7.out.kept (ukept - 1)
  have hkx := keepO (Only.at w6 UB 4 (.int .i64 (ukept - 1))) HA7.out (fun e => by
    have h1 := HA7.out
    rw [e, HX7.out.ub] at h1
    cases h1)
  have hmr : MatchR { t with kept := t.kept - 1 } V ⟨uver, uca, ucl, ucc, uia, uil, uic, umost, ukept - 1, ula, uln, ulc⟩ rs := ⟨hm.len, hm.ln, hm.ent, hm.val, by have h1 := HKP.out; have h2 := HC.out; show ukept - 1 = ((t.kept - 1 : Nat) : Int); omega, hm.most⟩
  refine hK _ _ ({ t with kept := t.kept - 1 }) V ⟨uver, uca, ucl, ucc, uia, uil, uic, umost, ukept - 1, ula, uln, ulc⟩ rs hfin hmr ?_ hkx ?_
  · rfl
  · unfold frX
    rw [HF.out.2.1, HF.out.2.2.1, HF.out.2.2.2]
    rfl
end
end Go.Proofs.YtoadihebdaooaaaGreat
