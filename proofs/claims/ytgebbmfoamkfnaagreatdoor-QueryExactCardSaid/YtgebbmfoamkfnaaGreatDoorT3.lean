/- A region that draws its order, each operation of which leaves what was there as it was (it reads, calls, makes memory): one fact an operation, in whatever order. · The rule for growing regions with one operation that comes last in every order: the others are all behind it. · Rules for loops and cuts in great frames: what is unknown is one function. · Contracts of the great whole numbers that fields need: Form, size, Cmp. -/
import Derived.Test.YtgebbmfoamkfnaaGreatDoorT1
import Derived.Test.YtgebbmfoamkfnaaGreatDoorT2
import Derived.Orders
import Derived.BigFrame
import Derived.Deep.LoopGhost
import Derived.Deep.Cut
import Derived.Deep.CutBlock
import Derived.Laws.BitsAllLaws
namespace Go.Proofs.YtgebbmfoamkfnaaGreatDoor
open Go.RowKit
set_option linter.unusedVariables false
section
variable {P : Program} {l : List Oper} {Q : Exit → Act → World → Prop} {a0 : Act} {w0 : World} {R : Nat → Value → World → Prop}
def putAll (vs : Nat → Value) : Nat → List Oper → Act → Act
 | _, [], a => a
 | k, o :: r, a => putAll vs (k + 1) r (a.put o.dst (vs k))
def noDup : List Oper → Bool
 | [] => true
 | o :: r => (match o.dst with | none => true | some d => r.all fun x => x.dst != some d) && noDup r
def edgesB : Nat → List Oper → Bool
 | _, [] => true
 | k, o :: r => (o.after.all fun e => !(Region.binds .any e) || decide (e.on < k)) && edgesB (k + 1) r
def updV (vs : Nat → Value) (i : Nat) (v : Value) : Nat → Value := fun j => if j = i then v else vs j
theorem put_put_same (a : Act) (d : Option Tmp) (v u : Value) : (a.put d v).put d u = a.put d u := by
 cases d with
 | none => rfl
 | some d => simp [Act.put, Array.setIfInBounds_setIfInBounds]
theorem putAll_congr {vs vs' : Nat → Value} : ∀ (l : List Oper) (k : Nat) (a : Act), (∀ j, k ≤ j → vs j = vs' j) → putAll vs k l a = putAll vs' k l a
 | [], _, _, _ => rfl
 | o :: r, k, a, h => by
  unfold putAll
  rw [h k (Nat.le_refl k)]
  exact putAll_congr r (k + 1) _ (fun j hj => h j (by omega))
theorem putAll_put {vs : Nat → Value} {d : Tmp} {v : Value} : ∀ (l : List Oper) (k : Nat) (a : Act), (l.all fun x => x.dst != some d) = true → (putAll vs k l a).put (some d) v = putAll vs k l (a.put (some d) v)
 | [], _, _, _ => rfl
 | o :: r, k, a, h => by
  rw [List.all_cons, Bool.and_eq_true] at h
  unfold putAll
  rw [putAll_put r (k + 1) _ h.2]
  congr 1
  refine Act.put_comm a _ _ (fun d' hd hd' => ?_)
  have := h.1
  rw [hd] at this
  cases hd'
  simp at this
theorem putAll_upd {vs : Nat → Value} {v : Value} : ∀ (l : List Oper) (k i : Nat) (a : Act) (o : Oper), noDup l = true → l[i]? = some o → (putAll vs k l a).put o.dst v = putAll (updV vs (k + i) v) k l a
 | [], _, _, _, _, _, h => by simp at h
 | x :: r, k, 0, a, o, hn, h => by
  simp at h
  subst h
  unfold noDup at hn
  rw [Bool.and_eq_true] at hn
  unfold putAll
  have e : updV vs (k + 0) v k = v := by simp [updV]
  rw [e]
  have e2 : ∀ a', putAll vs (k + 1) r a' = putAll (updV vs (k + 0) v) (k + 1) r a' := fun a' => putAll_congr r (k + 1) a' (fun j hj => by unfold updV; rw [if_neg (by omega)])
  cases hd : x.dst with
  | none => rw [show a.put none (vs k) = a from rfl, show a.put none v = a from rfl, ← e2]; rfl
  | some d =>
   have hr := hn.1
   rw [hd] at hr
   rw [putAll_put r (k + 1) _ hr, put_put_same, e2]
 | x :: r, k, i + 1, a, o, hn, h => by
  unfold noDup at hn
  rw [Bool.and_eq_true] at hn
  unfold putAll
  have e : updV vs (k + (i + 1)) v k = vs k := by unfold updV; rw [if_neg (by omega)]
  rw [e, putAll_upd r (k + 1) i _ o hn.2 (by simpa using h), show k + 1 + i = k + (i + 1) by omega]
theorem edges_at : ∀ (l : List Oper) (k i : Nat) (o : Oper), edgesB k l = true → l[i]? = some o → ∀ e ∈ o.after, Region.binds .any e = true → e.on < k + i
 | [], _, _, _, _, h => by simp at h
 | x :: r, k, 0, o, hb, h => by
  simp at h
  subst h
  unfold edgesB at hb
  rw [Bool.and_eq_true, Array.all_eq_true_iff_forall_mem] at hb
  intro e he hbd
  have := hb.1 e he
  rw [hbd] at this
  simp at this
  omega
 | x :: r, k, i + 1, o, hb, h => by
  unfold edgesB at hb
  rw [Bool.and_eq_true] at hb
  intro e he hbd
  have := edges_at r (k + 1) i o hb.2 (by simpa using h) e he hbd
  omega
theorem all_listed {listed : Array Bool} (he : edgesB 0 l = true) (hs : listed.size = l.length) (hr : Region.ready .any l.toArray listed = []) : ∀ i, i < l.length → listed.getD i true = true := by
 intro i
 induction i using Nat.strongRecOn with
 | _ i ih =>
  intro hi
  cases hl : listed.getD i true with
  | true => rfl
  | false =>
   exfalso
   have : i ∈ Region.ready .any l.toArray listed := mem_ready.2 ⟨hl, l[i], by simp [hi], fun e hm hb => by
    have hlt := edges_at l 0 i _ he (List.getElem?_eq_getElem hi) e hm hb
    have := ih e.on (by omega) (by omega)
    have hlt2 : e.on < listed.size := by omega
    simpa [hlt2] using this⟩
   rw [hr] at this
   cases this
def falses (listed : Array Bool) : Nat := listed.toList.countP (fun b => !b)
theorem falses_set {listed : Array Bool} {i : Nat} (h : listed.getD i true = false) : falses listed = falses (listed.setIfInBounds i true) + 1 := by
 unfold falses
 rw [Array.toList_setIfInBounds]
 have hi : i < listed.toList.length := by
  rcases Nat.lt_or_ge i listed.size with h' | h'
  ·simpa using h'
  ·simp [Array.getElem?_eq_none h'] at h
 have hv : listed.toList[i]? = some false := by
  have : i < listed.size := by simpa using hi
  simp [this] at h
  simp [this, h]
 have e := List.take_append_drop i listed.toList
 have hset : listed.toList.set i true = listed.toList.take i ++ true :: listed.toList.drop (i + 1) := by
  rw [List.set_eq_take_append_cons_drop, if_pos hi]
 have hold : listed.toList = listed.toList.take i ++ false :: listed.toList.drop (i + 1) := by
  conv => lhs; rw [← e]
  rw [drop_get hv]
 rw [hset]
 conv => lhs; rw [hold]
 simp [List.countP_append]
 omega
theorem wpAny_grow (hn : noDup l = true) (he : edgesB 0 l = true) (stable : ∀ i v w w', R i v w → Below w.heap.size w w' → R i v w')
  (step : ∀ (vs : Nat → Value) (w : World) (i : Nat) (o : Oper), Below w0.heap.size w0 w → l[i]? = some o → (∀ e ∈ o.after, Region.binds .any e = true → R e.on (vs e.on) w) →
   if Region.wanted o (yielded l.toArray (putAll vs 0 l a0).tmps) = true then o.wp P (putAll vs 0 l a0) w (fun a' w' => ∃ v, a' = (putAll vs 0 l a0).put o.dst v ∧ R i v w' ∧ Below w.heap.size w w') Q else R i undef w)
  (fin : ∀ (vs : Nat → Value) (w : World), Below w0.heap.size w0 w → (∀ i, i < l.length → R i (vs i) w) → Q .normal (putAll vs 0 l a0) w) :
  ∀ (fuel : Nat) (listed : Array Bool) (vs : Nat → Value) (w : World), listed.size = l.length → falses listed = fuel → (∀ i, listed.getD i false = true → R i (vs i) w) → Below w0.heap.size w0 w →
   wpAny P .any l.toArray Q fuel listed (putAll vs 0 l a0) w := by
 have done : ∀ (listed : Array Bool) (vs : Nat → Value) (w : World), listed.size = l.length → (∀ i, listed.getD i false = true → R i (vs i) w) → Below w0.heap.size w0 w → Region.ready .any l.toArray listed = [] → Q .normal (putAll vs 0 l a0) w := by
  intro listed vs w hs hR hb hr
  refine fin vs w hb (fun i hi => hR i ?_)
  have := all_listed he hs hr i hi
  have hlt : i < listed.size := by omega
  simpa [hlt] using this
 intro fuel
 induction fuel with
 | zero =>
  intro listed vs w hs hf hR hb
  have hr : Region.ready .any l.toArray listed = [] := by
   cases hq : Region.ready .any l.toArray listed with
   | nil => rfl
   | cons x xs =>
    exfalso
    have hx : x ∈ Region.ready .any l.toArray listed := by rw [hq]; simp
    have := falses_set (mem_ready.1 hx).1
    omega
  exact ⟨hr, done listed vs w hs hR hb hr⟩
 | succ fuel ih =>
  intro listed vs w hs hf hR hb
  refine ⟨done listed vs w hs hR hb, fun i hi => ?_⟩
  obtain ⟨h0, o, ho, hall⟩ := mem_ready.1 hi
  have ho' : l[i]? = some o := by simpa using ho
  have hst := step vs w i o hb ho' (fun e hm hbd => hR e.on (hall e hm hbd))
  have next : ∀ (v : Value) (w' : World), R i v w' → Below w.heap.size w w' → wpAny P .any l.toArray Q fuel (listed.setIfInBounds i true) ((putAll vs 0 l a0).put o.dst v) w' := by
   intro v w' hv hbw
   rw [putAll_upd l 0 i a0 o hn ho', Nat.zero_add]
   refine ih _ _ _ (by simpa using hs) (by have := falses_set h0; omega) (fun j hj => ?_) (hb.trans (hbw.mono hb.size))
   by_cases hji : j = i
   ·subst hji; simpa [updV] using hv
   ·rw [getD_set_ne false (Ne.symm hji)] at hj
    unfold updV
    rw [if_neg hji]
    exact stable j _ w w' (hR j hj) hbw
  unfold wpOp
  simp only [ho]
  split
  ·rename_i hw
   rw [if_pos hw] at hst
   exact .inl (Oper.wp_mono (fun a' w' ⟨v, ha, hv, hbw⟩ => by rw [ha]; exact next v w' hv hbw) hst)
  ·rename_i hw
   rw [if_neg hw] at hst
   exact next undef w hst (Below.refl _ _)
theorem putAll_self : ∀ (l : List Oper) (k : Nat), ∃ vs : Nat → Value, putAll vs k l a0 = a0
 | [], k => ⟨fun _ => undef, rfl⟩
 | o :: r, k => by
  obtain ⟨vs, h⟩ := putAll_self r (k + 1)
  refine ⟨updV vs k (match o.dst with | some d => a0.tmps.getD d undef | none => undef), ?_⟩
  unfold putAll
  have e : a0.put o.dst (updV vs k (match o.dst with | some d => a0.tmps.getD d undef | none => undef) k) = a0 := by
   cases hd : o.dst with
   | none => rfl
   | some d =>
    unfold Act.put updV
    simp only [if_true]
    have : a0.tmps.setIfInBounds d (a0.tmps.getD d undef) = a0.tmps := by
     apply Array.ext_getElem?
     intro j
     by_cases hj : d = j
     ·subst hj
      rw [Array.getElem?_setIfInBounds]
      rcases Nat.lt_or_ge d a0.tmps.size with h' | h'
      ·simp [h']
      ·simp [Array.getElem?_eq_none h']; omega
     ·rw [Array.getElem?_setIfInBounds_ne hj]
    rw [this]
  rw [e]
  rw [putAll_congr (vs' := vs) r (k + 1) a0 (fun j hj => by unfold updV; rw [if_neg (by omega)])]
  exact h
/-! ### The rule's steps -/
def StepGoal (P : Program) (l : List Oper) (o : Oper) (a : Act) (w : World) (R : Value → World → Prop) (Q : Exit → Act → World → Prop) : Prop :=
 if Region.wanted o (yielded l.toArray a.tmps) = true then o.wp P a w (fun a' w' => ∃ v, a' = a.put o.dst v ∧ R v w' ∧ Below w.heap.size w w') Q else R undef w
theorem step_open {o : Oper} {a : Act} {w : World} {R : Value → World → Prop} (hg : o.guard = none) (h : o.wp P a w (fun a' w' => ∃ v, a' = a.put o.dst v ∧ R v w' ∧ Below w.heap.size w w') Q) : StepGoal P l o a w R Q := by
 unfold StepGoal
 rw [if_pos (by simp [Region.wanted, hg])]
 exact h
theorem wp_region_grow {id : Nat} (hm : P.follows .mixedOrders = true) (hn : noDup l = true) (he : edgesB 0 l = true) (R : Nat → Value → World → Prop) (stable : ∀ i v w w', R i v w → Below w.heap.size w w' → R i v w')
  (step : ∀ (vs : Nat → Value) (w : World) (i : Nat) (o : Oper), Below w0.heap.size w0 w → l[i]? = some o → (∀ e ∈ o.after, Region.binds .any e = true → R e.on (vs e.on) w) →
   StepGoal P l o (putAll vs 0 l a0) w (R i) Q)
  (fin : ∀ (vs : Nat → Value) (w : World), Below w0.heap.size w0 w → (∀ i, i < l.length → R i (vs i) w) → Q .normal (putAll vs 0 l a0) w) :
  (Code.region id l.toArray true).wp P Q a0 w0 := by
 refine wp_region_any hm ?_
 obtain ⟨vs, h⟩ := putAll_self (a0 := a0) l 0
 have hfl : falses (Array.replicate l.toArray.size false) = l.toArray.size := by simp [falses, List.countP_replicate]
 have := wpAny_grow (w0 := w0) (a0 := a0) hn he stable step fin l.toArray.size (Array.replicate l.toArray.size false) vs { w0 with drawn := w0.drawn + 1 } (by simp) hfl (fun i hi => by
  exfalso
  by_cases h' : i < l.length
  ·simp [h'] at hi
  ·simp [h'] at hi) ⟨rfl, rfl, rfl, Nat.le_refl _, fun _ _ => rfl⟩
 rw [h] at this
 exact this
def Lasts (p : Value → World → Prop) : Prop := ∀ v w w', p v w → Below w.heap.size w w' → p v w'
def IsV (x : Value) : Value → World → Prop := fun v _ => v = x
theorem lasts_v (x : Value) : Lasts (IsV x) := fun _ _ _ h _ => h
def byList (ps : List (Value → World → Prop)) (i : Nat) : Value → World → Prop := (ps[i]?).getD fun _ _ => True
theorem lasts_list {ps : List (Value → World → Prop)} (h : ∀ p ∈ ps, Lasts p) : ∀ i v w w', byList ps i v w → Below w.heap.size w w' → byList ps i v w' := by
 intro i v w w' hv hb
 unfold byList at *
 cases hp : ps[i]? with
 | none => simp
 | some p =>
  rw [hp] at hv
  exact h p (List.mem_of_getElem? hp) v w w' hv hb
end
end Go.Proofs.YtgebbmfoamkfnaaGreatDoor
namespace Go.Proofs.YtgebbmfoamkfnaaGreatDoor
open Go.RowKit
set_option linter.unusedVariables false
def waitsFor (l : List Oper) (i : Nat) : List Nat := match l[i]? with | some o => (o.after.toList.filter fun e => Region.binds .any e).map (·.on) | none => []
def clos (l : List Oper) : Nat → List Nat → List Nat
 | 0, s => s
 | f + 1, s => clos l f (s ++ s.flatMap (waitsFor l)).eraseDups
theorem clos_ok {l : List Oper} {p : Nat → Prop} (hc : ∀ i, p i → ∀ j ∈ waitsFor l i, p j) : ∀ (f : Nat) (s : List Nat), (∀ x ∈ s, p x) → ∀ x ∈ clos l f s, p x
 | 0, s, h => h
 | f + 1, s, h => by
  unfold clos
  refine clos_ok hc f _ (fun x hx => ?_)
  rw [List.mem_eraseDups] at hx
  rcases List.mem_append.1 hx with hx | hx
  ·exact h x hx
  ·obtain ⟨y, hy, hxy⟩ := List.mem_flatMap.1 hx
   exact hc y (h y hy) x hxy
section
variable {P : Program} {l : List Oper} {Q : Exit → Act → World → Prop} {a0 : Act} {w0 : World} {R : Nat → Value → World → Prop}
theorem waits_mem {i : Nat} {o : Oper} (ho : l[i]? = some o) {j : Nat} : j ∈ waitsFor l i ↔ ∃ e ∈ o.after, Region.binds .any e = true ∧ e.on = j := by
 unfold waitsFor
 rw [ho]
 simp only [List.mem_map, List.mem_filter, Array.mem_toList_iff]
 constructor
 ·rintro ⟨e, ⟨h1, h2⟩, h3⟩; exact ⟨e, h1, h2, h3⟩
 ·rintro ⟨e, h1, h2, h3⟩; exact ⟨e, ⟨h1, h2⟩, h3⟩
end
end Go.Proofs.YtgebbmfoamkfnaaGreatDoor
namespace Go.Proofs.YtgebbmfoamkfnaaGreatDoor
open Go.RowKit
set_option linter.unusedVariables false
def nthV : List Value → Nat → Value
 | [], _ => undef
 | x :: _, 0 => x
 | _ :: r, n + 1 => nthV r n
def mixF : List Bool → (Nat → Value) → Nat → List Value → List Value
 | true :: bs, f, k, _ :: l => f k :: mixF bs f (k + 1) l
 | false :: bs, f, k, x :: l => x :: mixF bs f (k + 1) l
 | [], _, _, l => l
 | _ :: _, _, _, [] => []
section
variable {P : Program} {Q : Exit → Act → World → Prop} {l : List Value} {d : List Deferred} {w : World} {c : Code}
theorem wp_cut_f {K : Act → World → Prop} (bs : List Bool) (R : (Nat → Value) → World → Prop)
  (rest : ∀ (f : Nat → Value) (wc : World), R f wc → K ⟨(mixF bs f 0 l).toArray, d⟩ wc)
  (first : ∀ (J K' : Act → World → Prop), (∀ (v : List Value) (w' : World), R (nthV v) w' → mixF bs (nthV v) 0 l = v → J ⟨v.toArray, d⟩ w') → (∀ a' w', Met J a' w' → K' a' w') → c.wp P (Exit.then K' Q) ⟨l.toArray, d⟩ w) :
  c.wp P (Exit.then K Q) ⟨l.toArray, d⟩ w := by
 refine wp_cut (fun a' w' => ∃ v : List Value, a' = ⟨v.toArray, d⟩ ∧ R (nthV v) w' ∧ mixF bs (nthV v) 0 l = v) ?_ ?_
 ·rintro a' w' ⟨v, rfl, hR, hv⟩
  have := rest (nthV v) w' hR
  rw [hv] at this
  exact this
 ·intro J K' hJ hK
  exact first J K' (fun v w' h1 h2 => hJ _ w' ⟨v, rfl, h1, h2⟩) hK
end
end Go.Proofs.YtgebbmfoamkfnaaGreatDoor
namespace Go.Proofs.YtgebbmfoamkfnaaGreatDoor
open Go.RowKit
set_option linter.unusedVariables false
structure WI where
 neg : Bool
 hi : Int
 lo : Int
def WI.v (x : WI) : Value := .agg #[.bool x.neg, .int .u64 x.hi, .int .u64 x.lo]
def WI.cs (x : WI) : Array Value := #[.bool x.neg, .int .u64 x.hi, .int .u64 x.lo]
def WI.wf (x : WI) : Prop := (0 ≤ x.hi ∧ x.hi ≤ 18446744073709551615) ∧ 0 ≤ x.lo ∧ x.lo ≤ 18446744073709551615
def WI.val (x : WI) : Int := if x.neg then -(x.hi * 18446744073709551616 + x.lo) else x.hi * 18446744073709551616 + x.lo
def WI.form (x : WI) : Bool := decide (x.hi < 9223372036854775808) && (!x.neg || !(x.hi == 0 && x.lo == 0))
theorem or64_ne {a b : Int} (h1 : 0 ≤ a) (h2 : a ≤ 18446744073709551615) (h3 : 0 ≤ b) (h4 : b ≤ 18446744073709551615) : (bits BinOp.or .u64 a b != 0) = !(a == 0 && b == 0) := by
 rw [u64_or a b h1 (by omega) h3 (by omega)]
 obtain ⟨a, rfl⟩ := Int.eq_ofNat_of_zero_le h1
 obtain ⟨b, rfl⟩ := Int.eq_ofNat_of_zero_le h3
 simp only [Int.toNat_natCast]
 by_cases e : a = 0 ∧ b = 0
 ·obtain ⟨rfl, rfl⟩ := e; rfl
 ·have h : a ||| b ≠ 0 := by
   intro h
   apply e
   constructor
   ·have := Nat.left_le_or (n := a) (m := b); omega
   ·have := Nat.right_le_or (n := a) (m := b); omega
  have e2 : ((a : Int) == 0 && (b : Int) == 0) = false := by
   by_cases ha : a = 0
   ·have hb : b ≠ 0 := fun hb => e ⟨ha, hb⟩
    simp [hb]
   ·simp [ha]
  rw [e2]
  simp only [Bool.not_false, bne_iff_ne]
  omega
set_option maxRecDepth 100000 in
theorem wform_any (x : WI) (w : World) (h : x.wf) : Calls Tryz.prog 182 #[x.v] w fun e w' => e = .returned (.bool x.form) ∧ Below w.heap.size w w' := by
 obtain ⟨n, hi, lo⟩ := x
 obtain ⟨⟨h1, h2⟩, h3, h4⟩ := h
 dsimp only [WI.v] at *
 have HO := Lib.hid (or64_ne h1 h2 h3 h4)
 by_cases ht : hi < 9223372036854775808
 ·have e1 : decide (hi < 9223372036854775808) = true := by simp [ht]
  cases n
  ·go_enter Tryz.func182, Tryz.ntmps182
   go_wp2_with fail
   go_returns
   exact ⟨by simp [WI.form, ht], by go_grown⟩
  ·go_enter Tryz.func182, Tryz.ntmps182
   go_wp2_with fail
   go_returns
   exact ⟨ret_bool (by rw [HO.out]; simp [WI.form, ht]), by go_grown⟩
 ·have e1 : decide (hi < 9223372036854775808) = false := by simp [ht]
  go_enter Tryz.func182, Tryz.ntmps182
  go_wp2_with fail
  go_returns
  exact ⟨ret_bool (by unfold WI.form; rw [show decide (hi < 9223372036854775808) = false from e1]; rfl), by go_grown⟩
def sizeF (x y : WI) : Int := if y.hi < x.hi ∨ (x.hi = y.hi ∧ y.lo < x.lo) then 1 else if x.hi = y.hi ∧ x.lo = y.lo then 0 else -1
set_option maxRecDepth 100000 in
theorem wsize_any (x y : WI) (w : World) : Calls Tryz.prog 205 #[x.v, y.v] w fun e w' => e = .returned (.int .i64 (sizeF x y)) ∧ Below w.heap.size w w' := by
 obtain ⟨n, hi, lo⟩ := x
 obtain ⟨n', hi', lo'⟩ := y
 dsimp only [WI.v] at *
 rcases (by omega : hi' < hi ∨ (hi = hi' ∧ lo' < lo) ∨ (hi = hi' ∧ lo = lo') ∨ (hi = hi' ∧ lo < lo') ∨ hi < hi') with h | ⟨h, j⟩ | ⟨h, j⟩ | ⟨h, j⟩ | h
 ·have HS := Lib.hid (show sizeF ⟨n, hi, lo⟩ ⟨n', hi', lo'⟩ = 1 by unfold sizeF; rw [if_pos (.inl h)])
  have e1 : decide (hi' < hi) = true := by simp [h]
  clear h
  go_enter Tryz.func205, Tryz.ntmps205
  go_wp2_with fail
  go_returns
  exact ⟨ret_intk HS.out.symm, by go_grown⟩
 ·subst h
  have HS := Lib.hid (show sizeF ⟨n, hi, lo⟩ ⟨n', hi, lo'⟩ = 1 by unfold sizeF; rw [if_pos (.inr ⟨rfl, j⟩)])
  have e1 : decide (hi < hi) = false := by simp
  have e2 : decide (lo' < lo) = true := by simp [j]
  clear j
  go_enter Tryz.func205, Tryz.ntmps205
  go_wp2_with fail
  go_returns
  exact ⟨ret_intk HS.out.symm, by go_grown⟩
 ·subst h; subst j
  have HS := Lib.hid (show sizeF ⟨n, hi, lo⟩ ⟨n', hi, lo⟩ = 0 by unfold sizeF; rw [if_neg (by simp), if_pos ⟨rfl, rfl⟩])
  have e1 : decide (hi < hi) = false := by simp
  have e2 : decide (lo < lo) = false := by simp
  go_enter Tryz.func205, Tryz.ntmps205
  go_wp2_with fail
  go_returns
  exact ⟨ret_intk HS.out.symm, by go_grown⟩
 ·subst h
  have HS := Lib.hid (show sizeF ⟨n, hi, lo⟩ ⟨n', hi, lo'⟩ = -1 by unfold sizeF; rw [if_neg (by simp; omega), if_neg (by simp; omega)])
  have e1 : decide (hi < hi) = false := by simp
  have e2 : decide (lo' < lo) = false := by simp; omega
  have e3 : (lo == lo') = false := by simp; omega
  clear j
  go_enter Tryz.func205, Tryz.ntmps205
  go_wp2_with fail
  go_returns
  exact ⟨ret_intk HS.out.symm, by go_grown⟩
 ·have HS := Lib.hid (show sizeF ⟨n, hi, lo⟩ ⟨n', hi', lo'⟩ = -1 by unfold sizeF; rw [if_neg (by simp; omega), if_neg (by simp; omega)])
  have e1 : decide (hi' < hi) = false := by simp; omega
  have e2 : (hi == hi') = false := by simp; omega
  clear h
  go_enter Tryz.func205, Tryz.ntmps205
  go_wp2_with fail
  go_returns
  exact ⟨ret_intk HS.out.symm, by go_grown⟩
def signF (a b : Int) : Int := if a = b then 0 else if a < b then -1 else 1
def cmpF (x y : WI) : Int := if x.form && y.form then signF x.val y.val else 0
theorem size_sign {x y : WI} (hx : x.wf) (hy : y.wf) : sizeF x y = signF (x.hi * 18446744073709551616 + x.lo) (y.hi * 18446744073709551616 + y.lo) := by
 obtain ⟨⟨a1, a2⟩, a3, a4⟩ := hx
 obtain ⟨⟨b1, b2⟩, b3, b4⟩ := hy
 unfold sizeF signF
 by_cases h : y.hi < x.hi ∨ (x.hi = y.hi ∧ y.lo < x.lo)
 ·rw [if_pos h, if_neg (by omega), if_neg (by omega)]
 ·rw [if_neg h]
  by_cases h2 : x.hi = y.hi ∧ x.lo = y.lo
  ·rw [if_pos h2, if_pos (by omega)]
  ·rw [if_neg h2, if_neg (by omega), if_pos (by omega)]
theorem sign_neg (a b : Int) : signF (-a) (-b) = signF b a := by
 unfold signF
 by_cases h : a = b
 ·rw [if_pos (by omega), if_pos (by omega)]
 ·by_cases h2 : b < a
  ·rw [if_neg (by omega), if_pos (by omega), if_neg (by omega), if_pos h2]
  ·rw [if_neg (by omega), if_neg (by omega), if_neg (by omega), if_neg h2]
theorem form_pos {x : WI} (hw : x.wf) (h : x.form = true) (hn : x.neg = true) : x.val < 0 := by
 obtain ⟨⟨a1, a2⟩, a3, a4⟩ := hw
 unfold WI.form at h
 rw [hn] at h
 simp at h
 unfold WI.val
 rw [if_pos hn]
 omega
theorem val_nn {x : WI} (hw : x.wf) (hn : x.neg = false) : 0 ≤ x.val := by
 obtain ⟨⟨a1, a2⟩, a3, a4⟩ := hw
 unfold WI.val
 rw [hn, if_neg (by simp)]
 omega
set_option maxRecDepth 100000 in
theorem wcmp_any (x y : WI) (w : World) (hx : x.wf) (hy : y.wf) : Calls Tryz.prog 183 #[x.v, y.v] w fun e w' => e = .returned (.int .i64 (cmpF x y)) ∧ Below w.heap.size w w' := by
 have HX := Lib.hid hx
 have HY := Lib.hid hy
 have HS1 := Lib.hid (size_sign hx hy)
 have HS2 := Lib.hid (size_sign hy hx)
 have HC : Hid (cmpF x y = if x.form && y.form then signF x.val y.val else 0) := Lib.hid rfl
 have HP1 := Lib.hid (fun h => form_pos hx h)
 have HP2 := Lib.hid (fun h => form_pos hy h)
 have HN1 := Lib.hid (fun h => val_nn hx h)
 have HN2 := Lib.hid (fun h => val_nn hy h)
 clear hx hy
 have hbA : Below w.heap.size w (w.alloc (.cells x.cs 87)) := by go_grown
 have hbA2 : Below w.heap.size w ((w.alloc (.cells x.cs 87)).alloc (.cells y.cs 87)) := by go_grown
 have kx := keepA (.cells y.cs 87) (heap_alloc_new w (.cells x.cs 87))
 have ky := heap_alloc_new (w.alloc (.cells x.cs 87)) (.cells y.cs 87)
 obtain ⟨n, hi, lo⟩ := x
 obtain ⟨n', hi', lo'⟩ := y
 dsimp only [WI.v, WI.cs] at *
 have hz : (w.alloc (.cells #[.bool n, .int .u64 hi, .int .u64 lo] 87)).heap.size = w.heap.size + 1 := by simp
 rw [hz] at ky
 have KX := Lib.hid kx
 have KY := Lib.hid ky
 have HB := Lib.hid hbA2
 clear kx ky hbA hbA2 hz
 cases hfx : WI.form ⟨n, hi, lo⟩
 ·have HR := Lib.hid (show cmpF ⟨n, hi, lo⟩ ⟨n', hi', lo'⟩ = 0 by rw [HC.out, hfx]; rfl)
  go_enter Tryz.func183, Tryz.ntmps183
  go_wp2_with fail
  refine (wform_any ⟨n, hi, lo⟩ _ HX.out).mono ?_
  rintro e w1 ⟨rfl, hb1⟩
  rw [hfx]
  have HB1 := Lib.hid (HB.out.trans (hb1.mono HB.out.size))
  clear hb1
  go_wp2_with fail
  go_returns
  exact ⟨ret_intk HR.out.symm, HB1.out⟩
 ·cases hfy : WI.form ⟨n', hi', lo'⟩
  ·have HR := Lib.hid (show cmpF ⟨n, hi, lo⟩ ⟨n', hi', lo'⟩ = 0 by rw [HC.out, hfx, hfy]; rfl)
   go_enter Tryz.func183, Tryz.ntmps183
   go_wp2_with fail
   refine (wform_any ⟨n, hi, lo⟩ _ HX.out).mono ?_
   rintro e w1 ⟨rfl, hb1⟩
   rw [hfx]
   have hy1 := keep hb1 KY.out
   have y0 := cell_at hy1 0
   have y1 := cell_at hy1 1
   have y2 := cell_at hy1 2
   simp at y0 y1 y2
   have HB1 := Lib.hid (HB.out.trans (hb1.mono HB.out.size))
   clear hb1 hy1
   go_wp2_with fail
   refine (wform_any ⟨n', hi', lo'⟩ _ HY.out).mono ?_
   rintro e w2 ⟨rfl, hb2⟩
   rw [hfy]
   have HB2 := Lib.hid (HB1.out.trans (hb2.mono HB1.out.size))
   clear hb2
   go_wp2_with fail
   go_returns
   exact ⟨ret_intk HR.out.symm, HB2.out⟩
  ·have HR := Lib.hid (show cmpF ⟨n, hi, lo⟩ ⟨n', hi', lo'⟩ = signF (WI.val ⟨n, hi, lo⟩) (WI.val ⟨n', hi', lo'⟩) by rw [HC.out, hfx, hfy]; rfl)
   go_enter Tryz.func183, Tryz.ntmps183
   go_wp2_with fail
   refine (wform_any ⟨n, hi, lo⟩ _ HX.out).mono ?_
   rintro e w1 ⟨rfl, hb1⟩
   rw [hfx]
   have hx1 := keep hb1 KX.out
   have hy1 := keep hb1 KY.out
   have y0 := cell_at hy1 0
   have y1 := cell_at hy1 1
   have y2 := cell_at hy1 2
   simp at y0 y1 y2
   have HB1 := Lib.hid (HB.out.trans (hb1.mono HB.out.size))
   have HX1 := Lib.hid hx1
   have HY1 := Lib.hid hy1
   clear hb1 hy1 hx1
   go_wp2_with fail
   refine (wform_any ⟨n', hi', lo'⟩ _ HY.out).mono ?_
   rintro e w2 ⟨rfl, hb2⟩
   rw [hfy]
   have hx2 := keep hb2 HX1.out
   have hy2 := keep hb2 HY1.out
   clear y0 y1 y2
   have x0 := cell_at hx2 0
   have x1 := cell_at hx2 1
   have x2 := cell_at hx2 2
   have y0 := cell_at hy2 0
   have y1 := cell_at hy2 1
   have y2 := cell_at hy2 2
   simp at x0 x1 x2 y0 y1 y2
   have HB2 := Lib.hid (HB1.out.trans (hb2.mono HB1.out.size))
   have HF := Lib.hid (And.intro hfx hfy)
   clear hb2 hx2 hy2 hfx hfy
   cases n <;> cases n'
   ·have HV := Lib.hid (HS1.out.trans (show signF _ _ = signF (WI.val ⟨false, hi, lo⟩) (WI.val ⟨false, hi', lo'⟩) from rfl))
    go_wp2_with fail
    refine (wsize_any ⟨false, hi, lo⟩ ⟨false, hi', lo'⟩ _).mono ?_
    rintro e w3 ⟨rfl, hb3⟩
    have HB3 := Lib.hid (HB2.out.trans (hb3.mono HB2.out.size))
    clear hb3
    go_wp2_with fail
    go_returns
    exact ⟨ret_intk (HV.out.trans HR.out.symm), HB3.out⟩
   ·have HV := Lib.hid (show signF (WI.val ⟨false, hi, lo⟩) (WI.val ⟨true, hi', lo'⟩) = 1 by
     have a := HN1.out rfl
     have b := HP2.out HF.out.2 rfl
     unfold signF; rw [if_neg (by omega), if_neg (by omega)])
    go_wp2_with fail
    go_returns
    exact ⟨ret_intk (HV.out.symm.trans HR.out.symm), HB2.out⟩
   ·have HV := Lib.hid (show signF (WI.val ⟨true, hi, lo⟩) (WI.val ⟨false, hi', lo'⟩) = -1 by
     have a := HP1.out HF.out.1 rfl
     have b := HN2.out rfl
     unfold signF; rw [if_neg (by omega), if_pos (by omega)])
    go_wp2_with fail
    go_returns
    exact ⟨ret_intk (HV.out.symm.trans HR.out.symm), HB2.out⟩
   ·have HV := Lib.hid (HS2.out.trans ((sign_neg _ _).symm.trans (show signF _ _ = signF (WI.val ⟨true, hi, lo⟩) (WI.val ⟨true, hi', lo'⟩) from rfl)))
    go_wp2_with fail
    refine (wsize_any ⟨true, hi', lo'⟩ ⟨true, hi, lo⟩ _).mono ?_
    rintro e w3 ⟨rfl, hb3⟩
    have HB3 := Lib.hid (HB2.out.trans (hb3.mono HB2.out.size))
    clear hb3
    go_wp2_with fail
    go_returns
    exact ⟨ret_intk (HV.out.trans HR.out.symm), HB3.out⟩
end Go.Proofs.YtgebbmfoamkfnaaGreatDoor
