/- A region that draws its order, each operation of which leaves what was there as it was (it reads, calls, makes memory): one fact an operation, in whatever order. · The rule for growing regions with one operation that comes last in every order: the others are all behind it. · Contracts of the great whole numbers that fields need: Form, size, Cmp. · Contracts of the great whole numbers that fields need: made, OfWord, Of, Neg, Sub. · The rule wp_region_grow with the frame as a letter: for regions in great frames. · Contracts of the two slices.Clone. -/
import Derived.Test.YtgnilkjdpfbjgaaGreatQ1
import Derived.Test.YtgnilkjdpfbjgaaGreatQ2
import Derived.Orders
import Derived.BigFrame
import Derived.Deep.LoopGhost
import Derived.Deep.Cut
import Derived.Deep.CutBlock
import Derived.Laws.BitsAllLaws
import Derived.Laws.Externs
namespace Go.Proofs.YtgnilkjdpfbjgaaGreat
open Go.RowKit
set_option linter.unusedVariables false
section
variable {P : Program} {l : List Oper} {Q : Exit → Act → World → Prop} {a0 : Act} {w0 : World} {R : Nat → Value → World → Prop}
/-- A frame in which each operation has laid its value. -/
def putAll (vs : Nat → Value) : Nat → List Oper → Act → Act
  | _, [], a => a
  | k, o :: r, a => putAll vs (k + 1) r (a.put o.dst (vs k))
def noDup : List Oper → Bool
  | [] => true
  | o :: r => (match o.dst with | none => true | some d => r.all fun x => x.dst != some d) && noDup r
def edgesB : Nat → List Oper → Bool
  | _, [] => true
  | k, o :: r => (o.after.all fun e => !(Region.binds .any e) || decide (e.on < k)) && edgesB (k + 1) r
def updV (vs : Nat → Value) (i : Nat) (v : Value) : Nat → Value := fun j => if j = i then v else vs j
theorem put_put_same (a : Act) (d : Option Tmp) (v u : Value) : (a.put d v).put d u = a.put d u := by
  cases d with
  | none => rfl
  | some d => simp [Act.put, Array.setIfInBounds_setIfInBounds]
theorem putAll_congr {vs vs' : Nat → Value} : ∀ (l : List Oper) (k : Nat) (a : Act), (∀ j, k ≤ j → vs j = vs' j) → putAll vs k l a = putAll vs' k l a
  | [], _, _, _ => rfl
  | o :: r, k, a, h => by
    unfold putAll
    rw [h k (Nat.le_refl k)]
    exact putAll_congr r (k + 1) _ (fun j hj => h j (by omega))
theorem putAll_put {vs : Nat → Value} {d : Tmp} {v : Value} : ∀ (l : List Oper) (k : Nat) (a : Act), (l.all fun x => x.dst != some d) = true → (putAll vs k l a).put (some d) v = putAll vs k l (a.put (some d) v)
  | [], _, _, _ => rfl
  | o :: r, k, a, h => by
    rw [List.all_cons, Bool.and_eq_true] at h
    unfold putAll
    rw [putAll_put r (k + 1) _ h.2]
    congr 1
    refine Act.put_comm a _ _ (fun d' hd hd' => ?_)
    have := h.1
    rw [hd] at this
    cases hd'
    simp at this
theorem putAll_upd {vs : Nat → Value} {v : Value} : ∀ (l : List Oper) (k i : Nat) (a : Act) (o : Oper), noDup l = true → l[i]? = some o → (putAll vs k l a).put o.dst v = putAll (updV vs (k + i) v) k l a
  | [], _, _, _, _, _, h => by simp at h
  | x :: r, k, 0, a, o, hn, h => by
    simp at h
    subst h
    unfold noDup at hn
    rw [Bool.and_eq_true] at hn
    unfold putAll
    have e : updV vs (k + 0) v k = v := by simp [updV]
    rw [e]
    have e2 : ∀ a', putAll vs (k + 1) r a' = putAll (updV vs (k + 0) v) (k + 1) r a' := fun a' => putAll_congr r (k + 1) a' (fun j hj => by unfold updV; rw [if_neg (by omega)])
    cases hd : x.dst with
    | none => rw [show a.put none (vs k) = a from rfl, show a.put none v = a from rfl, ← e2]; rfl
    | some d =>
      have hr := hn.1
      rw [hd] at hr
      rw [putAll_put r (k + 1) _ hr, put_put_same, e2]
  | x :: r, k, i + 1, a, o, hn, h => by
    unfold noDup at hn
    rw [Bool.and_eq_true] at hn
    unfold putAll
    have e : updV vs (k + (i + 1)) v k = vs k := by unfold updV; rw [if_neg (by omega)]
    rw [e, putAll_upd r (k + 1) i _ o hn.2 (by simpa using h), show k + 1 + i = k + (i + 1) by omega]
theorem edges_at : ∀ (l : List Oper) (k i : Nat) (o : Oper), edgesB k l = true → l[i]? = some o → ∀ e ∈ o.after, Region.binds .any e = true → e.on < k + i
  | [], _, _, _, _, h => by simp at h
  | x :: r, k, 0, o, hb, h => by
    simp at h
    subst h
    unfold edgesB at hb
    rw [Bool.and_eq_true, Array.all_eq_true_iff_forall_mem] at hb
    intro e he hbd
    have := hb.1 e he
    rw [hbd] at this
    simp at this
    omega
  | x :: r, k, i + 1, o, hb, h => by
    unfold edgesB at hb
    rw [Bool.and_eq_true] at hb
    intro e he hbd
    have := edges_at r (k + 1) i o hb.2 (by simpa using h) e he hbd
    omega
theorem all_listed {listed : Array Bool} (he : edgesB 0 l = true) (hs : listed.size = l.length) (hr : Region.ready .any l.toArray listed = []) : ∀ i, i < l.length → listed.getD i true = true := by
  intro i
  induction i using Nat.strongRecOn with
  | _ i ih =>
    intro hi
    cases hl : listed.getD i true with
    | true => rfl
    | false =>
      exfalso
      have : i ∈ Region.ready .any l.toArray listed := mem_ready.2 ⟨hl, l[i], by simp [hi], fun e hm hb => by
        have hlt := edges_at l 0 i _ he (List.getElem?_eq_getElem hi) e hm hb
        have := ih e.on (by omega) (by omega)
        have hlt2 : e.on < listed.size := by omega
        simpa [hlt2] using this⟩
      rw [hr] at this
      cases this
def falses (listed : Array Bool) : Nat := listed.toList.countP (fun b => !b)
theorem falses_set {listed : Array Bool} {i : Nat} (h : listed.getD i true = false) : falses listed = falses (listed.setIfInBounds i true) + 1 := by
  unfold falses
  rw [Array.toList_setIfInBounds]
  have hi : i < listed.toList.length := by
    rcases Nat.lt_or_ge i listed.size with h' | h'
    · simpa using h'
    · simp [Array.getElem?_eq_none h'] at h
  have hv : listed.toList[i]? = some false := by
    have : i < listed.size := by simpa using hi
    simp [this] at h
    simp [this, h]
  have e := List.take_append_drop i listed.toList
  have hset : listed.toList.set i true = listed.toList.take i ++ true :: listed.toList.drop (i + 1) := by
    rw [List.set_eq_take_append_cons_drop, if_pos hi]
  have hold : listed.toList = listed.toList.take i ++ false :: listed.toList.drop (i + 1) := by
    conv => lhs; rw [← e]
    rw [drop_get hv]
  rw [hset]
  conv => lhs; rw [hold]
  simp [List.countP_append]
  omega
theorem wpAny_grow (hn : noDup l = true) (he : edgesB 0 l = true) (stable : ∀ i v w w', R i v w → Below w.heap.size w w' → R i v w')
    (step : ∀ (vs : Nat → Value) (w : World) (i : Nat) (o : Oper), Below w0.heap.size w0 w → l[i]? = some o → (∀ e ∈ o.after, Region.binds .any e = true → R e.on (vs e.on) w) →
      if Region.wanted o (yielded l.toArray (putAll vs 0 l a0).tmps) = true then o.wp P (putAll vs 0 l a0) w (fun a' w' => ∃ v, a' = (putAll vs 0 l a0).put o.dst v ∧ R i v w' ∧ Below w.heap.size w w') Q else R i undef w)
    (fin : ∀ (vs : Nat → Value) (w : World), Below w0.heap.size w0 w → (∀ i, i < l.length → R i (vs i) w) → Q .normal (putAll vs 0 l a0) w) :
    ∀ (fuel : Nat) (listed : Array Bool) (vs : Nat → Value) (w : World), listed.size = l.length → falses listed = fuel → (∀ i, listed.getD i false = true → R i (vs i) w) → Below w0.heap.size w0 w →
      wpAny P .any l.toArray Q fuel listed (putAll vs 0 l a0) w := by
  have done : ∀ (listed : Array Bool) (vs : Nat → Value) (w : World), listed.size = l.length → (∀ i, listed.getD i false = true → R i (vs i) w) → Below w0.heap.size w0 w → Region.ready .any l.toArray listed = [] → Q .normal (putAll vs 0 l a0) w := by
    intro listed vs w hs hR hb hr
    refine fin vs w hb (fun i hi => hR i ?_)
    have := all_listed he hs hr i hi
    have hlt : i < listed.size := by omega
    simpa [hlt] using this
  intro fuel
  induction fuel with
  | zero =>
    intro listed vs w hs hf hR hb
    have hr : Region.ready .any l.toArray listed = [] := by
      cases hq : Region.ready .any l.toArray listed with
      | nil => rfl
      | cons x xs =>
        exfalso
        have hx : x ∈ Region.ready .any l.toArray listed := by rw [hq]; simp
        have := falses_set (mem_ready.1 hx).1
        omega
    exact ⟨hr, done listed vs w hs hR hb hr⟩
  | succ fuel ih =>
    intro listed vs w hs hf hR hb
    refine ⟨done listed vs w hs hR hb, fun i hi => ?_⟩
    obtain ⟨h0, o, ho, hall⟩ := mem_ready.1 hi
    have ho' : l[i]? = some o := by simpa using ho
    have hst := step vs w i o hb ho' (fun e hm hbd => hR e.on (hall e hm hbd))
    have next : ∀ (v : Value) (w' : World), R i v w' → Below w.heap.size w w' → wpAny P .any l.toArray Q fuel (listed.setIfInBounds i true) ((putAll vs 0 l a0).put o.dst v) w' := by
      intro v w' hv hbw
      rw [putAll_upd l 0 i a0 o hn ho', Nat.zero_add]
      refine ih _ _ _ (by simpa using hs) (by have := falses_set h0; omega) (fun j hj => ?_) (hb.trans (hbw.mono hb.size))
      by_cases hji : j = i
      · subst hji; simpa [updV] using hv
      · rw [getD_set_ne false (Ne.symm hji)] at hj
        unfold updV
        rw [if_neg hji]
        exact stable j _ w w' (hR j hj) hbw
    unfold wpOp
    simp only [ho]
    split
    · rename_i hw
      rw [if_pos hw] at hst
      exact .inl (Oper.wp_mono (fun a' w' ⟨v, ha, hv, hbw⟩ => by rw [ha]; exact next v w' hv hbw) hst)
    · rename_i hw
      rw [if_neg hw] at hst
      exact next undef w hst (Below.refl _ _)
theorem putAll_self : ∀ (l : List Oper) (k : Nat), ∃ vs : Nat → Value, putAll vs k l a0 = a0
  | [], k => ⟨fun _ => undef, rfl⟩
  | o :: r, k => by
    obtain ⟨vs, h⟩ := putAll_self r (k + 1)
    refine ⟨updV vs k (match o.dst with | some d => a0.tmps.getD d undef | none => undef), ?_⟩
    unfold putAll
    have e : a0.put o.dst (updV vs k (match o.dst with | some d => a0.tmps.getD d undef | none => undef) k) = a0 := by
      cases hd : o.dst with
      | none => rfl
      | some d =>
        unfold Act.put updV
        simp only [if_true]
        have : a0.tmps.setIfInBounds d (a0.tmps.getD d undef) = a0.tmps := by
          apply Array.ext_getElem?
          intro j
          by_cases hj : d = j
          · subst hj
            rw [Array.getElem?_setIfInBounds]
            rcases Nat.lt_or_ge d a0.tmps.size with h' | h'
            · simp [h']
            · simp [Array.getElem?_eq_none h']; omega
          · rw [Array.getElem?_setIfInBounds_ne hj]
        rw [this]
    rw [e]
    rw [putAll_congr (vs' := vs) r (k + 1) a0 (fun j hj => by unfold updV; rw [if_neg (by omega)])]
    exact h
/-! ### The rule's steps -/
/-- What a step owes. -/
def StepGoal (P : Program) (l : List Oper) (o : Oper) (a : Act) (w : World) (R : Value → World → Prop) (Q : Exit → Act → World → Prop) : Prop :=
  if Region.wanted o (yielded l.toArray a.tmps) = true then o.wp P a w (fun a' w' => ∃ v, a' = a.put o.dst v ∧ R v w' ∧ Below w.heap.size w w') Q else R undef w
theorem step_open {o : Oper} {a : Act} {w : World} {R : Value → World → Prop} (hg : o.guard = none) (h : o.wp P a w (fun a' w' => ∃ v, a' = a.put o.dst v ∧ R v w' ∧ Below w.heap.size w w') Q) : StepGoal P l o a w R Q := by
  unfold StepGoal
  rw [if_pos (by simp [Region.wanted, hg])]
  exact h
/-- The rule. -/
theorem wp_region_grow {id : Nat} (hm : P.follows .mixedOrders = true) (hn : noDup l = true) (he : edgesB 0 l = true) (R : Nat → Value → World → Prop) (stable : ∀ i v w w', R i v w → Below w.heap.size w w' → R i v w')
    (step : ∀ (vs : Nat → Value) (w : World) (i : Nat) (o : Oper), Below w0.heap.size w0 w → l[i]? = some o → (∀ e ∈ o.after, Region.binds .any e = true → R e.on (vs e.on) w) →
      StepGoal P l o (putAll vs 0 l a0) w (R i) Q)
    (fin : ∀ (vs : Nat → Value) (w : World), Below w0.heap.size w0 w → (∀ i, i < l.length → R i (vs i) w) → Q .normal (putAll vs 0 l a0) w) :
    (Code.region id l.toArray true).wp P Q a0 w0 := by
  refine wp_region_any hm ?_
  obtain ⟨vs, h⟩ := putAll_self (a0 := a0) l 0
  have hfl : falses (Array.replicate l.toArray.size false) = l.toArray.size := by simp [falses, List.countP_replicate]
  have := wpAny_grow (w0 := w0) (a0 := a0) hn he stable step fin l.toArray.size (Array.replicate l.toArray.size false) vs { w0 with drawn := w0.drawn + 1 } (by simp) hfl (fun i hi => by
    exfalso
    by_cases h' : i < l.length
    · simp [h'] at hi
    · simp [h'] at hi) ⟨rfl, rfl, rfl, Nat.le_refl _, fun _ _ => rfl⟩
  rw [h] at this
  exact this
/-- Facts that last while memory only grows. -/
def Lasts (p : Value → World → Prop) : Prop := ∀ v w w', p v w → Below w.heap.size w w' → p v w'
def IsV (x : Value) : Value → World → Prop := fun v _ => v = x
theorem lasts_v (x : Value) : Lasts (IsV x) := fun _ _ _ h _ => h
/-- A new slice, known whole. -/
def IsRow (cs : Array Value) (n : Nat) (e : TypeId) : Value → World → Prop := fun v w => ∃ q, v = .slice (some ⟨q, 0, none⟩) n n ∧ w.heap[q]? = some (.cells cs e (0, 0))
theorem lasts_row (cs : Array Value) (n : Nat) (e : TypeId) : Lasts (IsRow cs n e) := fun _ _ _ ⟨q, hv, hq⟩ hb => ⟨q, hv, keep hb hq⟩
def byList (ps : List (Value → World → Prop)) (i : Nat) : Value → World → Prop := (ps[i]?).getD fun _ _ => True
theorem lasts_list {ps : List (Value → World → Prop)} (h : ∀ p ∈ ps, Lasts p) : ∀ i v w w', byList ps i v w → Below w.heap.size w w' → byList ps i v w' := by
  intro i v w w' hv hb
  unfold byList at *
  cases hp : ps[i]? with
  | none => simp
  | some p =>
    rw [hp] at hv
    exact h p (List.mem_of_getElem? hp) v w w' hv hb
end
end Go.Proofs.YtgnilkjdpfbjgaaGreat
namespace Go.Proofs.YtgnilkjdpfbjgaaGreat
open Go.RowKit
set_option linter.unusedVariables false
/-- What an operation waits for. -/
def waitsFor (l : List Oper) (i : Nat) : List Nat := match l[i]? with | some o => (o.after.toList.filter fun e => Region.binds .any e).map (·.on) | none => []
def clos (l : List Oper) : Nat → List Nat → List Nat
  | 0, s => s
  | f + 1, s => clos l f (s ++ s.flatMap (waitsFor l)).eraseDups
theorem clos_ok {l : List Oper} {p : Nat → Prop} (hc : ∀ i, p i → ∀ j ∈ waitsFor l i, p j) : ∀ (f : Nat) (s : List Nat), (∀ x ∈ s, p x) → ∀ x ∈ clos l f s, p x
  | 0, s, h => h
  | f + 1, s, h => by
    unfold clos
    refine clos_ok hc f _ (fun x hx => ?_)
    rw [List.mem_eraseDups] at hx
    rcases List.mem_append.1 hx with hx | hx
    · exact h x hx
    · obtain ⟨y, hy, hxy⟩ := List.mem_flatMap.1 hx
      exact hc y (h y hy) x hxy
section
variable {P : Program} {l : List Oper} {Q : Exit → Act → World → Prop} {a0 : Act} {w0 : World} {R : Nat → Value → World → Prop}
theorem waits_mem {i : Nat} {o : Oper} (ho : l[i]? = some o) {j : Nat} : j ∈ waitsFor l i ↔ ∃ e ∈ o.after, Region.binds .any e = true ∧ e.on = j := by
  unfold waitsFor
  rw [ho]
  simp only [List.mem_map, List.mem_filter, Array.mem_toList_iff]
  constructor
  · rintro ⟨e, ⟨h1, h2⟩, h3⟩; exact ⟨e, h1, h2, h3⟩
  · rintro ⟨e, h1, h2, h3⟩; exact ⟨e, ⟨h1, h2⟩, h3⟩
end
end Go.Proofs.YtgnilkjdpfbjgaaGreat
namespace Go.Proofs.YtgnilkjdpfbjgaaGreat
open Go.RowKit
set_option linter.unusedVariables false
/-- A great number. -/
structure WI where
  neg : Bool
  hi : Int
  lo : Int
def WI.v (x : WI) : Value := .agg #[.bool x.neg, .int .u64 x.hi, .int .u64 x.lo]
def WI.cs (x : WI) : Array Value := #[.bool x.neg, .int .u64 x.hi, .int .u64 x.lo]
def WI.wf (x : WI) : Prop := (0 ≤ x.hi ∧ x.hi ≤ 18446744073709551615) ∧ 0 ≤ x.lo ∧ x.lo ≤ 18446744073709551615
def WI.val (x : WI) : Int := if x.neg then -(x.hi * 18446744073709551616 + x.lo) else x.hi * 18446744073709551616 + x.lo
def WI.form (x : WI) : Bool := decide (x.hi < 9223372036854775808) && (!x.neg || !(x.hi == 0 && x.lo == 0))
theorem or64_ne {a b : Int} (h1 : 0 ≤ a) (h2 : a ≤ 18446744073709551615) (h3 : 0 ≤ b) (h4 : b ≤ 18446744073709551615) : (bits BinOp.or .u64 a b != 0) = !(a == 0 && b == 0) := by
  rw [u64_or a b h1 (by omega) h3 (by omega)]
  obtain ⟨a, rfl⟩ := Int.eq_ofNat_of_zero_le h1
  obtain ⟨b, rfl⟩ := Int.eq_ofNat_of_zero_le h3
  simp only [Int.toNat_natCast]
  by_cases e : a = 0 ∧ b = 0
  · obtain ⟨rfl, rfl⟩ := e; rfl
  · have h : a ||| b ≠ 0 := by
      intro h
      apply e
      constructor
      · have := Nat.left_le_or (n := a) (m := b); omega
      · have := Nat.right_le_or (n := a) (m := b); omega
    have e2 : ((a : Int) == 0 && (b : Int) == 0) = false := by
      by_cases ha : a = 0
      · have hb : b ≠ 0 := fun hb => e ⟨ha, hb⟩
        simp [hb]
      · simp [ha]
    rw [e2]
    simp only [Bool.not_false, bne_iff_ne]
    omega
set_option maxRecDepth 100000 in
theorem wform_any (x : WI) (w : World) (h : x.wf) : Calls Tryz.prog 151 #[x.v] w fun e w' => e = .returned (.bool x.form) ∧ Below w.heap.size w w' := by
  obtain ⟨n, hi, lo⟩ := x
  obtain ⟨⟨h1, h2⟩, h3, h4⟩ := h
  dsimp only [WI.v] at *
  have HO := Lib.hid (or64_ne h1 h2 h3 h4)
  by_cases ht : hi < 9223372036854775808
  · have e1 : decide (hi < 9223372036854775808) = true := by simp [ht]
    cases n
    · go_enter Tryz.func151, Tryz.ntmps151
      go_wp2_with fail
      go_returns
      exact ⟨by simp [WI.form, ht], by go_grown⟩
    · go_enter Tryz.func151, Tryz.ntmps151
      go_wp2_with fail
      go_returns
      exact ⟨ret_bool (by rw [HO.out]; simp [WI.form, ht]), by go_grown⟩
  · have e1 : decide (hi < 9223372036854775808) = false := by simp [ht]
    go_enter Tryz.func151, Tryz.ntmps151
    go_wp2_with fail
    go_returns
    exact ⟨ret_bool (by unfold WI.form; rw [show decide (hi < 9223372036854775808) = false from e1]; rfl), by go_grown⟩
end Go.Proofs.YtgnilkjdpfbjgaaGreat
namespace Go.Proofs.YtgnilkjdpfbjgaaGreat
open Go.RowKit
set_option linter.unusedVariables false
def WI.made (n : Bool) (hi lo : Int) : WI := ⟨n && !(hi == 0 && lo == 0), hi, lo⟩
set_option maxRecDepth 100000 in
theorem wmade_any (n : Bool) (hi lo : Int) (w : World) (h1 : 0 ≤ hi) (h2 : hi ≤ 18446744073709551615) (h3 : 0 ≤ lo) (h4 : lo ≤ 18446744073709551615) :
    Calls Tryz.prog 116 #[.bool n, .int .u64 hi, .int .u64 lo] w fun e w' => e = .returned (WI.v (WI.made n hi lo)) ∧ Below w.heap.size w w' := by
  have HO := Lib.hid (or64_ne h1 h2 h3 h4)
  cases n
  · go_enter Tryz.func116, Tryz.ntmps116
    go_wp2_with fail
    refine bodyPost_ret (v := .agg #[.bool false, .int .u64 hi, .int .u64 lo]) (by simp [results, Tryz.results116, go_sem]) rfl ?_
    exact ⟨rfl, by go_grown⟩
  · go_enter Tryz.func116, Tryz.ntmps116
    go_wp2_with fail
    rw [HO.out]
    refine bodyPost_ret (v := .agg #[.bool (!(hi == 0 && lo == 0)), .int .u64 hi, .int .u64 lo]) (by simp [results, Tryz.results116, go_sem]) rfl ?_
    exact ⟨rfl, by go_grown⟩
set_option maxRecDepth 100000 in
theorem wofword_any (n : Int) (w : World) : Calls Tryz.prog 117 #[.int .u64 n] w fun e w' => e = .returned (WI.v ⟨false, 0, n⟩) ∧ Below w.heap.size w w' := by
  go_enter Tryz.func117, Tryz.ntmps117
  go_wp2_with fail
  refine bodyPost_ret (v := .agg #[.bool false, .int .u64 0, .int .u64 n]) (by simp [results, Tryz.results117, go_sem]) rfl ?_
  exact ⟨rfl, by go_grown⟩
end Go.Proofs.YtgnilkjdpfbjgaaGreat
namespace Go.Proofs.YtgnilkjdpfbjgaaGreat
open Go.RowKit
set_option linter.unusedVariables false
section
variable {P : Program} {l : List Oper} {Q : Exit → Act → World → Prop} {a0 : Act} {w0 : World}
theorem putAll_size {vs : Nat → Value} : ∀ (l : List Oper) (k : Nat) (a : Act), (putAll vs k l a).tmps.size = a.tmps.size
  | [], _, _ => rfl
  | o :: r, k, a => by
    unfold putAll
    rw [putAll_size r (k + 1) _]
    cases o.dst <;> simp [Act.put]
theorem putAll_miss {vs : Nat → Value} {d : Nat} : ∀ (l : List Oper) (k : Nat) (a : Act), (l.all fun o => o.dst != some d) = true → (putAll vs k l a).tmps[d]? = a.tmps[d]?
  | [], _, _, _ => rfl
  | o :: r, k, a, h => by
    rw [List.all_cons, Bool.and_eq_true] at h
    unfold putAll
    rw [putAll_miss r (k + 1) _ h.2]
    cases hd : o.dst with
    | none => rfl
    | some e =>
      have : e ≠ d := fun he => by subst he; rw [hd] at h; simp at h
      simp [Act.put, this]
theorem putAll_hit {vs : Nat → Value} {j d : Nat} {o : Oper} (hn : noDup l = true) (ho : l[j]? = some o) (hd : o.dst = some d) (hs : d < a0.tmps.size) : (putAll vs 0 l a0).tmps[d]? = some (vs j) := by
  have h := putAll_upd (vs := vs) (v := vs j) l 0 j a0 o hn ho
  have e : putAll (updV vs (0 + j) (vs j)) 0 l a0 = putAll vs 0 l a0 := putAll_congr l 0 a0 (fun i _ => by
    unfold updV
    by_cases hi : i = 0 + j
    · rw [if_pos hi, hi, Nat.zero_add]
    · rw [if_neg hi])
  rw [e] at h
  rw [← h, hd]
  have hs' : d < (putAll vs 0 l a0).tmps.size := by rw [putAll_size]; exact hs
  simp [Act.put, hs']
/-- What a frame is while a region draws. -/
structure FrameIs (l : List Oper) (vs : Nat → Value) (a0 A : Act) : Prop where
  hit : ∀ (j d : Nat), (l[j]?).bind (·.dst) = some d → d < a0.tmps.size → A.tmps[d]? = some (vs j)
  miss : ∀ (d : Nat), (l.all fun o => o.dst != some d) = true → A.tmps[d]? = a0.tmps[d]?
theorem frameIs_put (hn : noDup l = true) (vs : Nat → Value) : FrameIs l vs a0 (putAll vs 0 l a0) := by
  refine ⟨fun j d h hs => ?_, fun d h => putAll_miss l 0 a0 h⟩
  cases ho : l[j]? with
  | none => rw [ho] at h; cases h
  | some o => rw [ho] at h; exact putAll_hit hn ho h hs
/-- The rule. -/
theorem wp_region_frame {id : Nat} (hm : P.follows .mixedOrders = true) (hn : noDup l = true) (he : edgesB 0 l = true) (R : Nat → Value → World → Prop) (stable : ∀ i v w w', R i v w → Below w.heap.size w w' → R i v w')
    (step : ∀ (vs : Nat → Value) (w : World) (i : Nat) (o : Oper) (A : Act), FrameIs l vs a0 A → Below w0.heap.size w0 w → l[i]? = some o → (∀ e ∈ o.after, Region.binds .any e = true → R e.on (vs e.on) w) → StepGoal P l o A w (R i) Q)
    (fin : ∀ (vs : Nat → Value) (w : World), Below w0.heap.size w0 w → (∀ i, i < l.length → R i (vs i) w) → Q .normal (putAll vs 0 l a0) w) :
    (Code.region id l.toArray true).wp P Q a0 w0 :=
  wp_region_grow hm hn he R stable (fun vs w i o hb ho hd => step vs w i o _ (frameIs_put hn vs) hb ho hd) fin
theorem FrameIs.m {vs : Nat → Value} {A : Act} (F : FrameIs l vs a0 A) {d : Nat} {v : Value} (h1 : (l.all fun o => o.dst != some d) = true) (hv : a0.tmps[d]? = some v) : A.tmps[d]?.getD undef = v := by
  rw [F.miss d h1, hv]; rfl
/-- The same without the frame that was. -/
def FrameL (l : List Oper) (vs : Nat → Value) (n : Nat) (A : Act) : Prop := ∀ (j d : Nat), (l[j]?).bind (·.dst) = some d → d < n → A.tmps[d]? = some (vs j)
theorem FrameIs.light {vs : Nat → Value} {A : Act} (F : FrameIs l vs a0 A) {n : Nat} (h : a0.tmps.size = n) : FrameL l vs n A := fun j d h1 h2 => F.hit j d h1 (by rw [h]; exact h2)
theorem FrameL.h {vs : Nat → Value} {A : Act} {n : Nat} (F : FrameL l vs n A) {j d : Nat} {v : Value} (h1 : (l[j]?).bind (·.dst) = some d) (h2 : d < n) (hv : vs j = v) : A.tmps[d]?.getD undef = v := by
  rw [F j d h1 h2, hv]; rfl
theorem frame_wanted {vs : Nat → Value} {A : Act} {n : Nat} (F : FrameL l vs n A) {o : Oper} {g d : Nat} {b c : Bool} (hg : o.guard = some (g, b)) (h1 : (l[g]?).bind (·.dst) = some d) (h2 : d < n) (hv : vs g = .bool c) :
    Region.wanted o (yielded l.toArray A.tmps) = (c == b) := by
  unfold Region.wanted yielded
  rw [hg]
  simp only [List.getElem?_toArray]
  rw [h1]
  simp only [Option.bind_some]
  rw [F g d h1 h2, hv]
  cases c <;> cases b <;> rfl
theorem step_yes {vs : Nat → Value} {A : Act} {n : Nat} {w : World} {R : Value → World → Prop} (F : FrameL l vs n A) {o : Oper} {g d : Nat} {b : Bool} (hg : o.guard = some (g, b)) (h1 : (l[g]?).bind (·.dst) = some d) (h2 : d < n) (hv : vs g = .bool b)
    (h : o.wp P A w (fun a' w' => ∃ v, a' = A.put o.dst v ∧ R v w' ∧ Below w.heap.size w w') Q) : StepGoal P l o A w R Q := by
  unfold StepGoal
  rw [if_pos (by rw [frame_wanted F hg h1 h2 hv]; cases b <;> rfl)]
  exact h
theorem step_not {vs : Nat → Value} {A : Act} {n : Nat} {w : World} {R : Value → World → Prop} (F : FrameL l vs n A) {o : Oper} {g d : Nat} {b : Bool} (hg : o.guard = some (g, b)) (h1 : (l[g]?).bind (·.dst) = some d) (h2 : d < n) (hv : vs g = .bool !b)
    (h : R undef w) : StepGoal P l o A w R Q := by
  unfold StepGoal
  rw [if_neg (by rw [frame_wanted F hg h1 h2 hv]; cases b <;> simp)]
  exact h
/-- An operation that reads. -/
theorem step_run {A : Act} {w : World} {R : Value → World → Prop} {o : Oper} {v : Value} (hv : (execOp A.eval o).run P w = .ok (.value v) w) (hR : R v w) :
    o.wp P A w (fun a' w' => ∃ v, a' = A.put o.dst v ∧ R v w' ∧ Below w.heap.size w w') Q := by
  unfold Oper.wp
  rw [hv]
  exact ⟨v, rfl, hR, Below.refl _ _⟩
end
end Go.Proofs.YtgnilkjdpfbjgaaGreat
namespace Go.Proofs.YtgnilkjdpfbjgaaGreat
open Go.RowKit
set_option linter.unusedVariables false
theorem Tryz.info64 : (Tryz.prog.info? 64).map (fun i => (i.zero, i.size, i.bytes)) = some (some (.agg #[.string ByteArray.empty, .int .i64 0, .int .i64 0]), 3, 32) := by kernel_rfl
theorem Tryz.info67 : (Tryz.prog.info? 67).map (fun i => (i.zero, i.size, i.bytes)) = some (some (.agg #[.int .i64 0, .string ByteArray.empty, .slice none 0 0]), 3, 48) := by kernel_rfl
/-- Cells, three a place, as one list. -/
theorem flat3 {α : Type} (c0 c1 c2 : α → Value) : ∀ (l : List α) (i : Nat) (x : α), l[i]? = some x →
    (l.flatMap fun x => [c0 x, c1 x, c2 x])[i * 3]? = some (c0 x) ∧ (l.flatMap fun x => [c0 x, c1 x, c2 x])[i * 3 + 1]? = some (c1 x) ∧ (l.flatMap fun x => [c0 x, c1 x, c2 x])[i * 3 + 2]? = some (c2 x)
  | [], i, x, h => by simp at h
  | y :: r, 0, x, h => by simp at h; subst h; simp
  | y :: r, i + 1, x, h => by
    have ih := flat3 c0 c1 c2 r i x (by simpa using h)
    have e : (i + 1) * 3 = i * 3 + 3 := by omega
    simp only [List.flatMap_cons, e]
    refine ⟨?_, ?_, ?_⟩
    · rw [List.getElem?_append_right (by simp)]; simpa using ih.1
    · rw [List.getElem?_append_right (by simp)]; simpa [show i * 3 + 3 + 1 - 3 = i * 3 + 1 by omega] using ih.2.1
    · rw [List.getElem?_append_right (by simp)]; simpa [show i * 3 + 3 + 2 - 3 = i * 3 + 2 by omega] using ih.2.2
theorem flat3_len {α : Type} (c0 c1 c2 : α → Value) (l : List α) : (l.flatMap fun x => [c0 x, c1 x, c2 x]).length = l.length * 3 := by
  induction l with
  | nil => rfl
  | cons a l ih => simp only [List.flatMap_cons, List.length_append, ih]; simp; omega
theorem flat3_at {α : Type} (c0 c1 c2 : α → Value) (l : List α) (j : Nat) (u : Value) (h : (l.flatMap fun x => [c0 x, c1 x, c2 x])[j]? = some u) :
    ∃ i x, l[i]? = some x ∧ ((j = i * 3 ∧ u = c0 x) ∨ (j = i * 3 + 1 ∧ u = c1 x) ∨ (j = i * 3 + 2 ∧ u = c2 x)) := by
  have hj : j < l.length * 3 := by rw [← flat3_len c0 c1 c2]; exact (List.getElem?_eq_some_iff.1 h).1
  have hi : j / 3 < l.length := by omega
  obtain ⟨h0, h1, h2⟩ := flat3 c0 c1 c2 l (j / 3) l[j / 3] (List.getElem?_eq_getElem hi)
  refine ⟨j / 3, l[j / 3], List.getElem?_eq_getElem hi, ?_⟩
  rcases (by omega : j = j / 3 * 3 ∨ j = j / 3 * 3 + 1 ∨ j = j / 3 * 3 + 2) with e | e | e
  · rw [e] at h; rw [h0] at h; exact .inl ⟨e, (Option.some.inj h).symm⟩
  · rw [e] at h; rw [h1] at h; exact .inr (.inl ⟨e, (Option.some.inj h).symm⟩)
  · rw [e] at h; rw [h2] at h; exact .inr (.inr ⟨e, (Option.some.inj h).symm⟩)
def fldCells (fs : List Fld) : List Value := fs.flatMap fun f => [.string f.name, .int .i64 f.kind, .int .i64 f.count]
/-- The answer of slices.Clone: nil stays nil; else a row of one's own. -/
def IsClone (e : TypeId) (a : Option Addr) (len : Nat) (cells : List Value) (w : World) (en : Ending) (w' : World) : Prop :=
  ∃ va vc, en = .returned (.slice va len vc) ∧ w'.ownsRow w.heap.size e 3 (.slice va len vc) len cells ∧ Below w.heap.size w w' ∧ (va = none → len = 0 ∧ vc = 0)
theorem FieldsAt.cells {B : Nat} {w : World} {b off len : Nat} {fs : List Fld} (h : FieldsAt B w (some ⟨b, off, none⟩) len fs) :
    ∀ j u, (fldCells fs)[j]? = some u → w.cell? ((⟨b, off, none⟩ : Addr).add j) = some u := by
  intro j u hu
  obtain ⟨h1, h2, h3⟩ := h
  obtain ⟨i, x, hx, hc⟩ := flat3_at _ _ _ fs j u hu
  have hadd : (⟨b, off, none⟩ : Addr).add j = ⟨b, off + j, none⟩ := by unfold Addr.add; split <;> simp_all
  rw [hadd]
  rcases h3 with h3 | ⟨b', off', ha, hB, hcell⟩
  · have := (List.getElem?_eq_some_iff.1 hx).1
    omega
  · cases ha
    obtain ⟨c0, c1, c2⟩ := hcell i x hx
    rcases hc with ⟨rfl, rfl⟩ | ⟨rfl, rfl⟩ | ⟨rfl, rfl⟩
    · exact c0
    · exact c1
    · exact c2
theorem fldCells_one (fs : List Fld) : ∀ u ∈ fldCells fs, u.oneCell' = true := by
  intro u hu
  simp only [fldCells, List.mem_flatMap] at hu
  obtain ⟨f, _, hf⟩ := hu
  simp at hf
  rcases hf with rfl | rfl | rfl <;> rfl
set_option maxRecDepth 100000 in
set_option maxHeartbeats 400000 in
theorem cloneFields_any (a : Option Addr) (len cap : Nat) (w : World) (hl : len ≤ 100000) (hn : a = none → len = 0 ∧ cap = 0) (cells : List Value) (hcl : cells.length = len * 3)
    (hc : ∀ ad, a = some ad → ∀ j u, cells[j]? = some u → w.cell? (ad.add j) = some u) (h1 : ∀ u ∈ cells, u.oneCell' = true) :
    Calls Tryz.prog 83 #[.slice a len cap] w (IsClone 64 a len cells w) := by
  obtain ⟨i0, hi, hz0, hz1, hz2⟩ := info_parts Tryz.info64
  have hnn := fun (wx : World) (a : Option Addr) (n c : Nat) => Lib.run_eql_slice_nil (P := Tryz.prog) wx 65 64 a n c 0 0 Tryz.underlying65
  cases a with
  | none =>
    obtain ⟨rfl, rfl⟩ := hn rfl
    go_enter Tryz.func83, Tryz.ntmps83
    go_wp2
    go_returns
    exact ⟨none, 0, rfl, ⟨by simpa using hcl, .inl ⟨rfl, rfl⟩⟩, Below.refl _ _, fun _ => ⟨rfl, rfl⟩⟩
  | some ad =>
    have hcc : ∀ j u, cells[j]? = some u → (w.alloc (.cells #[] 64)).cell? (ad.add j) = some u := fun j u hu => by
      have h := hc ad rfl j u hu
      have hb := World.block_lt_of_cell? w _ h
      rw [World.cell?_of_block (w := w) (by rw [halloc, if_neg (by omega)])]
      exact h
    have hown : (w.alloc (.cells #[] 64)).ownsRow w.heap.size 64 3 (.slice (some ⟨w.heap.size, 0, none⟩) 0 0) 0 [] := World.ownsRow_made w #[] 0 (Nat.le_refl _) (by simp) (by simp)
    go_enter Tryz.func83, Tryz.ntmps83
    go_wp2_with (at_builtin; refine wpList_append_own _ rfl (.tmp 5) (.tmp 6) 65 rfl w.heap.size 64 i0 (.agg #[.string ByteArray.empty, .int .i64 0, .int .i64 0]) 3 32 Tryz.underlying65 hi hz0 hz1 hz2 rfl (by decide) (.slice (some ⟨w.heap.size, 0, none⟩) 0 0) 0 [] rfl hown ad len cap cells rfl hcl hcc h1 (by unfold maxLen; omega) (by omega) (by simp) ?_)
    intro v' w1 hown1 hg1 hnil
    obtain ⟨va, vc, hv⟩ := ownsRow_slice hown1
    rw [hv] at hown1 hnil ⊢
    clear hv
    have hbel : Below w.heap.size w w1 := ((Below.refl _ w).alloc (Nat.le_refl _) _).grown hg1 (by simp) (fun x hx => by simp [Value.ownBlock] at hx; omega)
    have HO := Lib.hid hown1
    have HN : Hid (va = none → len = 0 ∧ vc = 0) := Lib.hid (by
      intro h; subst h
      rcases hown1.2 with ⟨h2, _⟩ | ⟨g, cap', cur, hv, _⟩
      · cases h2; exact ⟨by omega, rfl⟩
      · cases hv)
    clear hown1 hnil
    go_wp2
    go_returns
    exact ⟨va, vc, rfl, HO.out, hbel, HN.out⟩
set_option maxRecDepth 100000 in
set_option maxHeartbeats 400000 in
theorem cloneComps_any (a : Option Addr) (len cap : Nat) (w : World) (hl : len ≤ 100000) (hn : a = none → len = 0 ∧ cap = 0) (cells : List Value) (hcl : cells.length = len * 3)
    (hc : ∀ ad, a = some ad → ∀ j u, cells[j]? = some u → w.cell? (ad.add j) = some u) (h1 : ∀ u ∈ cells, u.oneCell' = true) :
    Calls Tryz.prog 82 #[.slice a len cap] w (IsClone 67 a len cells w) := by
  obtain ⟨i0, hi, hz0, hz1, hz2⟩ := info_parts Tryz.info67
  have hnn := fun (wx : World) (a : Option Addr) (n c : Nat) => Lib.run_eql_slice_nil (P := Tryz.prog) wx 23 67 a n c 0 0 Tryz.underlying23
  cases a with
  | none =>
    obtain ⟨rfl, rfl⟩ := hn rfl
    go_enter Tryz.func82, Tryz.ntmps82
    go_wp2
    go_returns
    exact ⟨none, 0, rfl, ⟨by simpa using hcl, .inl ⟨rfl, rfl⟩⟩, Below.refl _ _, fun _ => ⟨rfl, rfl⟩⟩
  | some ad =>
    have hcc : ∀ j u, cells[j]? = some u → (w.alloc (.cells #[] 67)).cell? (ad.add j) = some u := fun j u hu => by
      have h := hc ad rfl j u hu
      have hb := World.block_lt_of_cell? w _ h
      rw [World.cell?_of_block (w := w) (by rw [halloc, if_neg (by omega)])]
      exact h
    have hown : (w.alloc (.cells #[] 67)).ownsRow w.heap.size 67 3 (.slice (some ⟨w.heap.size, 0, none⟩) 0 0) 0 [] := World.ownsRow_made w #[] 0 (Nat.le_refl _) (by simp) (by simp)
    go_enter Tryz.func82, Tryz.ntmps82
    go_wp2_with (at_builtin; refine wpList_append_own _ rfl (.tmp 5) (.tmp 6) 23 rfl w.heap.size 67 i0 (.agg #[.int .i64 0, .string ByteArray.empty, .slice none 0 0]) 3 48 Tryz.underlying23 hi hz0 hz1 hz2 rfl (by decide) (.slice (some ⟨w.heap.size, 0, none⟩) 0 0) 0 [] rfl hown ad len cap cells rfl hcl hcc h1 (by unfold maxLen; omega) (by omega) (by simp) ?_)
    intro v' w1 hown1 hg1 hnil
    obtain ⟨va, vc, hv⟩ := ownsRow_slice hown1
    rw [hv] at hown1 hnil ⊢
    clear hv
    have hbel : Below w.heap.size w w1 := ((Below.refl _ w).alloc (Nat.le_refl _) _).grown hg1 (by simp) (fun x hx => by simp [Value.ownBlock] at hx; omega)
    have HO := Lib.hid hown1
    have HN : Hid (va = none → len = 0 ∧ vc = 0) := Lib.hid (by
      intro h; subst h
      rcases hown1.2 with ⟨h2, _⟩ | ⟨g, cap', cur, hv, _⟩
      · cases h2; exact ⟨by omega, rfl⟩
      · cases hv)
    clear hown1 hnil
    go_wp2
    go_returns
    exact ⟨va, vc, rfl, HO.out, hbel, HN.out⟩
end Go.Proofs.YtgnilkjdpfbjgaaGreat
