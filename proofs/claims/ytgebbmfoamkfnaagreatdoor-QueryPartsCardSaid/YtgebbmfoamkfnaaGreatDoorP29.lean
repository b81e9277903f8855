/- The rule wp_region_frame with a tail: the last operations come in one order behind all others, and may do anything. · Appends of rows that may be nil; to a slice that has just been made. · What operations of a region may leave: an empty row, a row, a row of one. -/
import Derived.Test.YtgebbmfoamkfnaaGreatDoorP6
import Derived.Laws.AppendOwnNone
import Derived.Test.YtgebbmfoamkfnaaGreatDoorP23
namespace Go.Proofs.YtgebbmfoamkfnaaGreatDoor
open Go.RowKit
set_option linter.unusedVariables false
/-- Operations one behind the other. -/
def wpTail (P : Program) (Q : Exit → Act → World → Prop) : List Oper → Act → World → Prop
  | [], a, w => Q .normal a w
  | o :: r, a, w => o.wp P a w (fun a' w' => wpTail P Q r a' w') Q
/-- From operation n on each waits for all before it, and has no guard. -/
def tailOk (l : List Oper) (n : Nat) : Bool := ((List.range l.length).all fun m => decide (m < n) || ((List.range m).all fun i => (clos l 8 (waitsFor l m)).contains i)) && ((l.drop n).all fun o => o.guard.isNone)
/-- What a frame is ahead of the tail. -/
structure FrameT (l : List Oper) (n : Nat) (vs : Nat → Value) (a0 A : Act) : Prop where
  hit : ∀ (j d : Nat), (l[j]?).bind (·.dst) = some d → d < a0.tmps.size → A.tmps[d]? = some (vs j)
  miss : ∀ (d : Nat), ((l.take n).all fun o => o.dst != some d) = true → A.tmps[d]? = a0.tmps[d]?
theorem FrameT.m {l : List Oper} {n : Nat} {vs : Nat → Value} {a0 A : Act} (F : FrameT l n vs a0 A) {d : Nat} {v : Value} (h1 : ((l.take n).all fun o => o.dst != some d) = true) (hv : a0.tmps[d]? = some v) : A.tmps[d]?.getD undef = v := by
  rw [F.miss d h1, hv]; rfl
theorem FrameT.light {l : List Oper} {k : Nat} {vs : Nat → Value} {a0 A : Act} (F : FrameT l k vs a0 A) {n : Nat} (h : a0.tmps.size = n) : FrameL l vs n A := fun j d h1 h2 => F.hit j d h1 (by rw [h]; exact h2)
section
variable {P : Program} {l : List Oper} {Q : Exit → Act → World → Prop} {a0 : Act} {w0 : World} {R : Nat → Value → World → Prop}
theorem put_miss {o : Oper} {v : Value} {A : Act} {d : Nat} (h : (o.dst != some d) = true) : (A.put o.dst v).tmps[d]? = A.tmps[d]? := by
  cases hd : o.dst with
  | none => rfl
  | some e =>
    have : e ≠ d := fun he => by subst he; rw [hd] at h; simp at h
    simp [Act.put, this]
theorem falses_zero {listed : Array Bool} (h : ∀ i, i < listed.size → listed.getD i false = true) : falses listed = 0 := by
  unfold falses
  rw [List.countP_eq_zero]
  intro b hbm
  obtain ⟨j, hj⟩ := List.getElem?_of_mem hbm
  rw [Array.getElem?_toList] at hj
  have hjs : j < listed.size := (Array.getElem?_eq_some_iff.1 hj).1
  have := h j hjs
  simp [hjs] at this
  rw [Array.getElem?_eq_getElem hjs] at hj
  cases hj
  simp [this]
theorem wpAny_tail (he : edgesB 0 l = true) {n : Nat} (ht : tailOk l n = true) : ∀ (r : List Oper) (m : Nat), l.drop m = r → n ≤ m → ∀ (fuel : Nat) (listed : Array Bool) (a : Act) (w : World), listed.size = l.length → falses listed = fuel →
    (∀ i, i < m → listed.getD i false = true) → (∀ i, m ≤ i → i < l.length → listed.getD i true = false) → wpTail P Q r a w → wpAny P .any l.toArray Q fuel listed a w := by
  intro r
  induction r with
  | nil =>
    intro m hr hnm fuel listed a w hs hf hlow hhi h
    have hml : l.length ≤ m := by
      have := congrArg List.length hr
      simp at this
      omega
    have hf0 : fuel = 0 := by rw [← hf]; exact falses_zero (fun i hi => hlow i (by omega))
    subst hf0
    have hrd : Region.ready .any l.toArray listed = [] := by
      cases hq : Region.ready .any l.toArray listed with
      | nil => rfl
      | cons x xs =>
        exfalso
        have hx : x ∈ Region.ready .any l.toArray listed := by rw [hq]; simp
        have := falses_set (mem_ready.1 hx).1
        omega
    exact ⟨hrd, h⟩
  | cons o r ih =>
    intro m hr hnm fuel listed a w hs hf hlow hhi h
    have hml : m < l.length := by
      have := congrArg List.length hr
      simp at this
      omega
    have hom : l[m]? = some o := by
      have := congrArg (·[0]?) hr
      simpa using this
    have hr' : l.drop (m + 1) = r := by
      have := congrArg (List.drop 1) hr
      simpa [List.drop_drop] using this
    have hm0 := hhi m (Nat.le_refl _) hml
    cases fuel with
    | zero => exfalso; have := falses_set hm0; omega
    | succ fuel =>
      refine ⟨fun hrd => ?_, fun i hi => ?_⟩
      · exfalso
        have := all_listed he hs hrd m hml
        rw [this] at hm0; cases hm0
      · obtain ⟨h1, o', ho, hall⟩ := mem_ready.1 hi
        have ho' : l[i]? = some o' := by simpa using ho
        have hil : i < l.length := (List.getElem?_eq_some_iff.1 ho').1
        have him : ¬ i < m := fun hlt => by
          have := hlow i hlt
          have hlt' : i < listed.size := by omega
          simp [hlt'] at this h1
          rw [this] at h1; cases h1
        have hmi : i = m := by
          rcases Nat.lt_or_ge m i with hlt | hge
          · exfalso
            unfold tailOk at ht
            rw [Bool.and_eq_true, List.all_eq_true] at ht
            have h2 := ht.1 i (List.mem_range.2 hil)
            rw [Bool.or_eq_true] at h2
            rcases h2 with h2 | h2
            · simp at h2; omega
            · rw [List.all_eq_true] at h2
              have h3 : m ∈ clos l 8 (waitsFor l i) := by simpa using h2 m (List.mem_range.2 hlt)
              have hclosed : ∀ k, (listed.getD k false = true ∨ k > m) → ∀ j ∈ waitsFor l k, (listed.getD j false = true ∨ k > m) := fun k hk j hj => by
                rcases hk with hk | hk
                · have hkm : k < m := by
                    rcases Nat.lt_or_ge k m with h | h
                    · exact h
                    · exfalso
                      by_cases hkl : k < l.length
                      · have := hhi k h hkl
                        have hlt' : k < listed.size := by omega
                        simp [hlt'] at this hk
                        rw [this] at hk; cases hk
                      · have : ¬ k < listed.size := by omega
                        simp [this] at hk
                  obtain ⟨ok, hok⟩ : ∃ ok, l[k]? = some ok := ⟨_, List.getElem?_eq_getElem (by omega)⟩
                  obtain ⟨e, hm, hbd, rfl⟩ := (waits_mem hok).1 hj
                  have := edges_at l 0 k ok he hok e hm hbd
                  exact .inl (hlow _ (by omega))
                · exact .inr hk
              have hw : ∀ j ∈ waitsFor l i, listed.getD j false = true := by
                intro j hj
                obtain ⟨e, hm, hbd, rfl⟩ := (waits_mem ho').1 hj
                exact hall e hm hbd
              have h4 : ∀ x ∈ clos l 8 (waitsFor l i), listed.getD x false = true := clos_ok (p := fun j => listed.getD j false = true) (fun k hk j hj => by
                have hkm : k < m := by
                  rcases Nat.lt_or_ge k m with h | h
                  · exact h
                  · exfalso
                    by_cases hkl : k < l.length
                    · have := hhi k h hkl
                      have hlt' : k < listed.size := by omega
                      simp [hlt'] at this hk
                      rw [this] at hk; cases hk
                    · have : ¬ k < listed.size := by omega
                      simp [this] at hk
                obtain ⟨ok, hok⟩ : ∃ ok, l[k]? = some ok := ⟨_, List.getElem?_eq_getElem (by omega)⟩
                obtain ⟨e, hm, hbd, rfl⟩ := (waits_mem hok).1 hj
                have := edges_at l 0 k ok he hok e hm hbd
                exact hlow _ (by omega)) 8 _ hw
              have h5 := h4 m h3
              have hlt' : m < listed.size := by omega
              simp [hlt'] at h5 hm0
              rw [h5] at hm0; cases hm0
          · omega
        subst hmi
        obtain rfl : o' = o := by rw [hom] at ho'; exact (Option.some.inj ho').symm
        have hgn : o'.guard = none := by
          unfold tailOk at ht
          rw [Bool.and_eq_true] at ht
          have h2 := ht.2
          rw [List.all_eq_true] at h2
          have := h2 o' (List.mem_of_getElem? (i := i - n) (by rw [List.getElem?_drop, show n + (i - n) = i by omega]; exact hom))
          cases hgd : o'.guard with
          | none => rfl
          | some _ => rw [hgd] at this; cases this
        unfold wpOp
        simp only [ho]
        rw [if_pos (by simp [Region.wanted, hgn])]
        refine .inl (Oper.wp_mono (fun a' w' h' => ?_) h)
        refine ih (i + 1) hr' (by omega) fuel _ a' w' (by simpa using hs) (by have := falses_set h1; omega) (fun j hj => ?_) (fun j hj hjl => ?_) h'
        · by_cases hji : j = i
          · subst hji
            have : j < listed.size := by omega
            simp [this]
          · rw [getD_set_ne false (Ne.symm hji)]
            exact hlow j (by omega)
        · rw [getD_set_ne true (show i ≠ j by omega)]
          exact hhi j (by omega) hjl
theorem wpAny_grow_tail {n : Nat} (hnl : n < l.length) (ht : tailOk l n = true) (hn : noDup l = true) (he : edgesB 0 l = true) (stable : ∀ i v w w', R i v w → Below w.heap.size w w' → R i v w')
    (step : ∀ (vs : Nat → Value) (w : World) (i : Nat) (o : Oper), i < n → (∀ (d : Nat), ((l.take n).all fun o => o.dst != some d) = true → (putAll vs 0 l a0).tmps[d]? = a0.tmps[d]?) → Below w0.heap.size w0 w → l[i]? = some o → (∀ e ∈ o.after, Region.binds .any e = true → R e.on (vs e.on) w) →
      if Region.wanted o (yielded l.toArray (putAll vs 0 l a0).tmps) = true then o.wp P (putAll vs 0 l a0) w (fun a' w' => ∃ v, a' = (putAll vs 0 l a0).put o.dst v ∧ R i v w' ∧ Below w.heap.size w w') Q else R i undef w)
    (last : ∀ (vs : Nat → Value) (w : World), (∀ (d : Nat), ((l.take n).all fun o => o.dst != some d) = true → (putAll vs 0 l a0).tmps[d]? = a0.tmps[d]?) → Below w0.heap.size w0 w → (∀ i, i < n → R i (vs i) w) → wpTail P Q (l.drop n) (putAll vs 0 l a0) w) :
    ∀ (fuel : Nat) (listed : Array Bool) (vs : Nat → Value) (w : World), (∀ (d : Nat), ((l.take n).all fun o => o.dst != some d) = true → (putAll vs 0 l a0).tmps[d]? = a0.tmps[d]?) → listed.size = l.length → falses listed = fuel → (∀ i, i < n → listed.getD i false = true → R i (vs i) w) →
      (∀ i, n ≤ i → i < l.length → listed.getD i true = false) → (∀ i, listed.getD i false = true → ∀ j ∈ waitsFor l i, listed.getD j false = true) → Below w0.heap.size w0 w →
      wpAny P .any l.toArray Q fuel listed (putAll vs 0 l a0) w := by
  intro fuel
  induction fuel with
  | zero =>
    intro listed vs w hM hs hf hR h0 hcl hb
    exfalso
    have := falses_set (h0 n (Nat.le_refl _) hnl)
    omega
  | succ fuel ih =>
    intro listed vs w hM hs hf hR h0 hcl hb
    by_cases hdone : ∀ i, i < n → listed.getD i false = true
    · exact wpAny_tail he ht _ n rfl (Nat.le_refl _) _ listed _ w hs hf hdone h0 (last vs w hM hb (fun i hi => hR i hi (hdone i hi)))
    · refine ⟨fun hr => absurd (fun i hi => ?_) hdone, fun i hi => ?_⟩
      · have := all_listed he hs hr i (by omega)
        have hlt : i < listed.size := by omega
        simpa [hlt] using this
      · obtain ⟨h1, o, ho, hall⟩ := mem_ready.1 hi
        have ho' : l[i]? = some o := by simpa using ho
        have hil : i < l.length := (List.getElem?_eq_some_iff.1 ho').1
        have hw : ∀ j ∈ waitsFor l i, listed.getD j false = true := by
          intro j hj
          obtain ⟨e, hm, hbd, rfl⟩ := (waits_mem ho').1 hj
          exact hall e hm hbd
        have hi' : i < n := by
          rcases Nat.lt_or_ge i n with h | h
          · exact h
          · exfalso
            refine hdone (fun j hj => ?_)
            have ht' := ht
            unfold tailOk at ht'
            rw [Bool.and_eq_true, List.all_eq_true] at ht'
            have h2 := ht'.1 i (List.mem_range.2 hil)
            rw [Bool.or_eq_true] at h2
            rcases h2 with h2 | h2
            · simp at h2; omega
            · rw [List.all_eq_true] at h2
              have h3 : j ∈ clos l 8 (waitsFor l i) := by simpa using h2 j (List.mem_range.2 (by omega))
              exact clos_ok (p := fun j => listed.getD j false = true) hcl 8 _ hw j h3
        have hst := step vs w i o hi' hM hb ho' (fun e hm hbd => hR e.on (by have := edges_at l 0 i o he ho' e hm hbd; omega) (hall e hm hbd))
        have next : ∀ (v : Value) (w' : World), R i v w' → Below w.heap.size w w' → wpAny P .any l.toArray Q fuel (listed.setIfInBounds i true) ((putAll vs 0 l a0).put o.dst v) w' := by
          intro v w' hv hbw
          have hM' : ∀ (d : Nat), ((l.take n).all fun o => o.dst != some d) = true → ((putAll vs 0 l a0).put o.dst v).tmps[d]? = a0.tmps[d]? := fun d hd => by
            rw [put_miss, hM d hd]
            rw [List.all_eq_true] at hd
            exact hd o (List.mem_of_getElem? (i := i) (by rw [List.getElem?_take, if_pos hi']; exact ho'))
          rw [putAll_upd l 0 i a0 o hn ho', Nat.zero_add] at hM' ⊢
          refine ih _ _ _ hM' (by simpa using hs) (by have := falses_set h1; omega) (fun j hjl hj => ?_) (fun j hj hjl => ?_) ?_ (hb.trans (hbw.mono hb.size))
          · by_cases hji : j = i
            · subst hji; simpa [updV] using hv
            · rw [getD_set_ne false (Ne.symm hji)] at hj
              unfold updV
              rw [if_neg hji]
              exact stable j _ w w' (hR j hjl hj) hbw
          · rw [getD_set_ne true (show i ≠ j by omega)]; exact h0 j hj hjl
          · intro j hj k hk
            have mono : ∀ m, listed.getD m false = true → (listed.setIfInBounds i true).getD m false = true := by
              intro m hm
              by_cases hmi : m = i
              · subst hmi
                have : m < listed.size := by omega
                simp [this]
              · rw [getD_set_ne false (Ne.symm hmi)]; exact hm
            by_cases hji : j = i
            · subst hji; exact mono k (hw k hk)
            · rw [getD_set_ne false (Ne.symm hji)] at hj
              exact mono k (hcl j hj k hk)
        unfold wpOp
        simp only [ho]
        split
        · rename_i hw
          rw [if_pos hw] at hst
          exact .inl (Oper.wp_mono (fun a' w' ⟨v, ha, hv, hbw⟩ => by rw [ha]; exact next v w' hv hbw) hst)
        · rename_i hw
          rw [if_neg hw] at hst
          exact next undef w hst (Below.refl _ _)
/-- The rule. -/
theorem wp_region_tail {id : Nat} (n : Nat) (hm : P.follows .mixedOrders = true) (hn : noDup l = true) (he : edgesB 0 l = true) (hnl : n < l.length) (ht : tailOk l n = true) (R : Nat → Value → World → Prop) (stable : ∀ i v w w', R i v w → Below w.heap.size w w' → R i v w')
    (step : ∀ (vs : Nat → Value) (w : World) (i : Nat) (o : Oper) (A : Act), i < n → FrameT l n vs a0 A → Below w0.heap.size w0 w → l[i]? = some o → (∀ e ∈ o.after, Region.binds .any e = true → R e.on (vs e.on) w) → StepGoal P l o A w (R i) Q)
    (last : ∀ (vs : Nat → Value) (w : World) (A : Act), A = putAll vs 0 l a0 → FrameT l n vs a0 A → Below w0.heap.size w0 w → (∀ i, i < n → R i (vs i) w) → wpTail P Q (l.drop n) A w) :
    (Code.region id l.toArray true).wp P Q a0 w0 := by
  refine wp_region_any hm ?_
  obtain ⟨vs, h⟩ := putAll_self (a0 := a0) l 0
  have hfl : falses (Array.replicate l.toArray.size false) = l.toArray.size := by simp [falses, List.countP_replicate]
  have hno : ∀ i, (Array.replicate l.toArray.size false).getD i false = true → False := by
    intro i hi
    by_cases h' : i < l.length
    · simp [h'] at hi
    · simp [h'] at hi
  have := wpAny_grow_tail (w0 := w0) (a0 := a0) (R := R) (Q := Q) hnl ht hn he stable (fun vs w i o hi hM hb ho hd => step vs w i o _ hi ⟨(frameIs_put hn vs).hit, hM⟩ hb ho hd) (fun vs w hM hb hR => last vs w _ rfl ⟨(frameIs_put hn vs).hit, hM⟩ hb hR)
    l.toArray.size (Array.replicate l.toArray.size false) vs { w0 with drawn := w0.drawn + 1 } (fun d _ => by rw [h]) (by simp) hfl (fun i _ hi => (hno i hi).elim) (fun i _ hi => by simp [hi]) (fun i hi => (hno i hi).elim) ⟨rfl, rfl, rfl, Nat.le_refl _, fun _ _ => rfl⟩
  rw [h] at this
  exact this
end
end Go.Proofs.YtgebbmfoamkfnaaGreatDoor
namespace Go.Proofs.YtgebbmfoamkfnaaGreatDoor
open Go.RowKit
set_option linter.unusedVariables false
/-- What is appended: cells that lie at an address, or nothing. -/
def SrcAt (w : World) (size : Nat) (x : Option Addr) (m c : Nat) (news : List Value) : Prop :=
  news.length = m * size ∧ (∀ u ∈ news, u.oneCell' = true) ∧ ((x = none ∧ m = 0 ∧ c = 0) ∨ ∃ a, x = some a ∧ ∀ (j : Nat) (u : Value), news[j]? = some u → w.cell? (a.add j) = some u)
theorem SrcAt.row {w : World} {B : Nat} {e : TypeId} {s : Nat} {a : Option Addr} {n c : Nat} {xs : List Value} (h : w.ownsRow B e s (.slice a n c) n xs) (h1 : ∀ u ∈ xs, u.oneCell' = true) : SrcAt w s a n c xs := by
  refine ⟨h.1, h1, ?_⟩
  rcases h.2 with ⟨he, h0⟩ | ⟨g, cap, cur, he, _⟩
  · cases he; exact .inl ⟨rfl, rfl, rfl⟩
  · cases he
    exact .inr ⟨⟨g, 0, none⟩, rfl, fun j u hu => h.cells (g := g) rfl j u hu⟩
end Go.Proofs.YtgebbmfoamkfnaaGreatDoor
namespace Go.Proofs.YtgebbmfoamkfnaaGreatDoor
open Go.RowKit
set_option linter.unusedVariables false
def IsEmp (U : Nat) (e : TypeId) (s : Nat) (v : Value) (w : World) : Prop := ∃ q, v = .slice (some ⟨q, 0, none⟩) 0 0 ∧ w.ownsRow U e s (.slice (some ⟨q, 0, none⟩) 0 0) 0 []
theorem lasts_emp (U : Nat) (e : TypeId) (s : Nat) : Lasts (IsEmp U e s) := fun _ _ _ ⟨q, h1, h2⟩ hb => ⟨q, h1, ownsRow_below h2 hb⟩
def IsRowO (U : Nat) (e : TypeId) (s l : Nat) (xs : List Value) (v : Value) (w : World) : Prop := ∃ va vc, v = .slice va l vc ∧ w.ownsRow U e s (.slice va l vc) l xs
theorem lasts_rowO (U : Nat) (e : TypeId) (s l : Nat) (xs : List Value) : Lasts (IsRowO U e s l xs) := fun _ _ _ ⟨va, vc, h1, h2⟩ hb => ⟨va, vc, h1, ownsRow_below h2 hb⟩
/-- A value made of a row. -/
def IsWith (U : Nat) (e : TypeId) (s l : Nat) (xs : List Value) (g : Option Addr → Nat → Value) (v : Value) (w : World) : Prop := ∃ va vc, v = g va vc ∧ w.ownsRow U e s (.slice va l vc) l xs
theorem lasts_with (U : Nat) (e : TypeId) (s l : Nat) (xs : List Value) (g : Option Addr → Nat → Value) : Lasts (IsWith U e s l xs g) := fun _ _ _ ⟨va, vc, h1, h2⟩ hb => ⟨va, vc, h1, ownsRow_below h2 hb⟩
/-- A slice of one element, made of a row. -/
def IsOneW (U : Nat) (e : TypeId) (s l : Nat) (xs : List Value) (e' : TypeId) (g : Option Addr → Nat → Array Value) (v : Value) (w : World) : Prop := ∃ va vc q, v = .slice (some ⟨q, 0, none⟩) 1 1 ∧ w.heap[q]? = some (.cells (g va vc) e' (0, 0)) ∧ w.ownsRow U e s (.slice va l vc) l xs
theorem lasts_oneW (U : Nat) (e : TypeId) (s l : Nat) (xs : List Value) (e' : TypeId) (g : Option Addr → Nat → Array Value) : Lasts (IsOneW U e s l xs e' g) := fun _ _ _ ⟨va, vc, q, h1, h2, h3⟩ hb => ⟨va, vc, q, h1, keep hb h2, ownsRow_below h3 hb⟩
def IsOne (e' : TypeId) (cs : Array Value) (v : Value) (w : World) : Prop := ∃ q, v = .slice (some ⟨q, 0, none⟩) 1 1 ∧ w.heap[q]? = some (.cells cs e' (0, 0))
theorem lasts_one (e' : TypeId) (cs : Array Value) : Lasts (IsOne e' cs) := fun _ _ _ ⟨q, h1, h2⟩ hb => ⟨q, h1, keep hb h2⟩
end Go.Proofs.YtgebbmfoamkfnaaGreatDoor
