/- The rule wp_region_frame with a tail: the last operations come in one order behind all others, and may do anything. · Appends of rows that may be nil; to a slice that has just been made. · What operations of a region may leave: an empty row, a row, a row of one. ·  -/
import Derived.Test.YtnhlnnehpmjeiaaGreatDoorP4
import Derived.Laws.AppendOwnNone
import Derived.Test.YtnhlnnehpmjeiaaGreatDoorP26
import Derived.Shelf.Strings.Builder1
import Derived.Shelf.Strings.Builder2
import Derived.Shelf.Strings.OnBuilder
import Derived.Shelf.Strings.BuilderF
import Derived.Shelf.Strings.BuilderK
import Derived.Shelf.Strings.Builder2Cap
import Derived.Shelf.Strconv.Itoa0
import Derived.Shelf.Strconv.Itoa1
import Derived.Shelf.LaysM
import Derived.Shelf.Strconv.Itoa2
import Derived.Shelf.Strconv.Itoa3
import Derived.Shelf.Strings.Prefix
import Derived.Shelf.Bits.Mul64
import Derived.Shelf.Strings.Repeat
import Derived.Shelf.Strings.BuilderCap
import Derived.Test.YtnhlnnehpmjeiaaGreatDoorProg
namespace Go.Proofs.YtnhlnnehpmjeiaaGreatDoor
open Go.RowKit
set_option linter.unusedVariables false
/-- Operations one behind the other. -/
def wpTail (P : Program) (Q : Exit → Act → World → Prop) : List Oper → Act → World → Prop
  | [], a, w => Q .normal a w
  | o :: r, a, w => o.wp P a w (fun a' w' => wpTail P Q r a' w') Q
/-- From operation n on each waits for all before it, and has no guard. -/
def tailOk (l : List Oper) (n : Nat) : Bool := ((List.range l.length).all fun m => decide (m < n) || ((List.range m).all fun i => (clos l 8 (waitsFor l m)).contains i)) && ((l.drop n).all fun o => o.guard.isNone)
/-- What a frame is ahead of the tail. -/
structure FrameT (l : List Oper) (n : Nat) (vs : Nat → Value) (a0 A : Act) : Prop where
  hit : ∀ (j d : Nat), (l[j]?).bind (·.dst) = some d → d < a0.tmps.size → A.tmps[d]? = some (vs j)
  miss : ∀ (d : Nat), ((l.take n).all fun o => o.dst != some d) = true → A.tmps[d]? = a0.tmps[d]?
theorem FrameT.m {l : List Oper} {n : Nat} {vs : Nat → Value} {a0 A : Act} (F : FrameT l n vs a0 A) {d : Nat} {v : Value} (h1 : ((l.take n).all fun o => o.dst != some d) = true) (hv : a0.tmps[d]? = some v) : A.tmps[d]?.getD undef = v := by
  rw [F.miss d h1, hv]; rfl
theorem FrameT.light {l : List Oper} {k : Nat} {vs : Nat → Value} {a0 A : Act} (F : FrameT l k vs a0 A) {n : Nat} (h : a0.tmps.size = n) : FrameL l vs n A := fun j d h1 h2 => F.hit j d h1 (by rw [h]; exact h2)
section
variable {P : Program} {l : List Oper} {Q : Exit → Act → World → Prop} {a0 : Act} {w0 : World} {R : Nat → Value → World → Prop}
theorem put_miss {o : Oper} {v : Value} {A : Act} {d : Nat} (h : (o.dst != some d) = true) : (A.put o.dst v).tmps[d]? = A.tmps[d]? := by
  cases hd : o.dst with
  | none => rfl
  | some e =>
    have : e ≠ d := fun he => by subst he; rw [hd] at h; simp at h
    simp [Act.put, this]
theorem falses_zero {listed : Array Bool} (h : ∀ i, i < listed.size → listed.getD i false = true) : falses listed = 0 := by
  unfold falses
  rw [List.countP_eq_zero]
  intro b hbm
  obtain ⟨j, hj⟩ := List.getElem?_of_mem hbm
  rw [Array.getElem?_toList] at hj
  have hjs : j < listed.size := (Array.getElem?_eq_some_iff.1 hj).1
  have := h j hjs
  simp [hjs] at this
  rw [Array.getElem?_eq_getElem hjs] at hj
  cases hj
  simp [this]
theorem wpAny_tail (he : edgesB 0 l = true) {n : Nat} (ht : tailOk l n = true) : ∀ (r : List Oper) (m : Nat), l.drop m = r → n ≤ m → ∀ (fuel : Nat) (listed : Array Bool) (a : Act) (w : World), listed.size = l.length → falses listed = fuel →
    (∀ i, i < m → listed.getD i false = true) → (∀ i, m ≤ i → i < l.length → listed.getD i true = false) → wpTail P Q r a w → wpAny P .any l.toArray Q fuel listed a w := by
  intro r
  induction r with
  | nil =>
    intro m hr hnm fuel listed a w hs hf hlow hhi h
    have hml : l.length ≤ m := by
      have := congrArg List.length hr
      simp at this
      omega
    have hf0 : fuel = 0 := by rw [← hf]; exact falses_zero (fun i hi => hlow i (by omega))
    subst hf0
    have hrd : Region.ready .any l.toArray listed = [] := by
      cases hq : Region.ready .any l.toArray listed with
      | nil => rfl
      | cons x xs =>
        exfalso
        have hx : x ∈ Region.ready .any l.toArray listed := by rw [hq]; simp
        have := falses_set (mem_ready.1 hx).1
        omega
    exact ⟨hrd, h⟩
  | cons o r ih =>
    intro m hr hnm fuel listed a w hs hf hlow hhi h
    have hml : m < l.length := by
      have := congrArg List.length hr
      simp at this
      omega
    have hom : l[m]? = some o := by
      have := congrArg (·[0]?) hr
      simpa using this
    have hr' : l.drop (m + 1) = r := by
      have := congrArg (List.drop 1) hr
      simpa [List.drop_drop] using this
    have hm0 := hhi m (Nat.le_refl _) hml
    cases fuel with
    | zero => exfalso; have := falses_set hm0; omega
    | succ fuel =>
      refine ⟨fun hrd => ?_, fun i hi => ?_⟩
      · exfalso
        have := all_listed he hs hrd m hml
        rw [this] at hm0; cases hm0
      · obtain ⟨h1, o', ho, hall⟩ := mem_ready.1 hi
        have ho' : l[i]? = some o' := by simpa using ho
        have hil : i < l.length := (List.getElem?_eq_some_iff.1 ho').1
        have him : ¬ i < m := fun hlt => by
          have := hlow i hlt
          have hlt' : i < listed.size := by omega
          simp [hlt'] at this h1
          rw [this] at h1; cases h1
        have hmi : i = m := by
          rcases Nat.lt_or_ge m i with hlt | hge
          · exfalso
            unfold tailOk at ht
            rw [Bool.and_eq_true, List.all_eq_true] at ht
            have h2 := ht.1 i (List.mem_range.2 hil)
            rw [Bool.or_eq_true] at h2
            rcases h2 with h2 | h2
            · simp at h2; omega
            · rw [List.all_eq_true] at h2
              have h3 : m ∈ clos l 8 (waitsFor l i) := by simpa using h2 m (List.mem_range.2 hlt)
              have hclosed : ∀ k, (listed.getD k false = true ∨ k > m) → ∀ j ∈ waitsFor l k, (listed.getD j false = true ∨ k > m) := fun k hk j hj => by
                rcases hk with hk | hk
                · have hkm : k < m := by
                    rcases Nat.lt_or_ge k m with h | h
                    · exact h
                    · exfalso
                      by_cases hkl : k < l.length
                      · have := hhi k h hkl
                        have hlt' : k < listed.size := by omega
                        simp [hlt'] at this hk
                        rw [this] at hk; cases hk
                      · have : ¬ k < listed.size := by omega
                        simp [this] at hk
                  obtain ⟨ok, hok⟩ : ∃ ok, l[k]? = some ok := ⟨_, List.getElem?_eq_getElem (by omega)⟩
                  obtain ⟨e, hm, hbd, rfl⟩ := (waits_mem hok).1 hj
                  have := edges_at l 0 k ok he hok e hm hbd
                  exact .inl (hlow _ (by omega))
                · exact .inr hk
              have hw : ∀ j ∈ waitsFor l i, listed.getD j false = true := by
                intro j hj
                obtain ⟨e, hm, hbd, rfl⟩ := (waits_mem ho').1 hj
                exact hall e hm hbd
              have h4 : ∀ x ∈ clos l 8 (waitsFor l i), listed.getD x false = true := clos_ok (p := fun j => listed.getD j false = true) (fun k hk j hj => by
                have hkm : k < m := by
                  rcases Nat.lt_or_ge k m with h | h
                  · exact h
                  · exfalso
                    by_cases hkl : k < l.length
                    · have := hhi k h hkl
                      have hlt' : k < listed.size := by omega
                      simp [hlt'] at this hk
                      rw [this] at hk; cases hk
                    · have : ¬ k < listed.size := by omega
                      simp [this] at hk
                obtain ⟨ok, hok⟩ : ∃ ok, l[k]? = some ok := ⟨_, List.getElem?_eq_getElem (by omega)⟩
                obtain ⟨e, hm, hbd, rfl⟩ := (waits_mem hok).1 hj
                have := edges_at l 0 k ok he hok e hm hbd
                exact hlow _ (by omega)) 8 _ hw
              have h5 := h4 m h3
              have hlt' : m < listed.size := by omega
              simp [hlt'] at h5 hm0
              rw [h5] at hm0; cases hm0
          · omega
        subst hmi
        obtain rfl : o' = o := by rw [hom] at ho'; exact (Option.some.inj ho').symm
        have hgn : o'.guard = none := by
          unfold tailOk at ht
          rw [Bool.and_eq_true] at ht
          have h2 := ht.2
          rw [List.all_eq_true] at h2
          have := h2 o' (List.mem_of_getElem? (i := i - n) (by rw [List.getElem?_drop, show n + (i - n) = i by omega]; exact hom))
          cases hgd : o'.guard with
          | none => rfl
          | some _ => rw [hgd] at this; cases this
        unfold wpOp
        simp only [ho]
        rw [if_pos (by simp [Region.wanted, hgn])]
        refine .inl (Oper.wp_mono (fun a' w' h' => ?_) h)
        refine ih (i + 1) hr' (by omega) fuel _ a' w' (by simpa using hs) (by have := falses_set h1; omega) (fun j hj => ?_) (fun j hj hjl => ?_) h'
        · by_cases hji : j = i
          · subst hji
            have : j < listed.size := by omega
            simp [this]
          · rw [getD_set_ne false (Ne.symm hji)]
            exact hlow j (by omega)
        · rw [getD_set_ne true (show i ≠ j by omega)]
          exact hhi j (by omega) hjl
theorem wpAny_grow_tail {n : Nat} (hnl : n < l.length) (ht : tailOk l n = true) (hn : noDup l = true) (he : edgesB 0 l = true) (stable : ∀ i v w w', R i v w → Below w.heap.size w w' → R i v w')
    (step : ∀ (vs : Nat → Value) (w : World) (i : Nat) (o : Oper), i < n → (∀ (d : Nat), ((l.take n).all fun o => o.dst != some d) = true → (putAll vs 0 l a0).tmps[d]? = a0.tmps[d]?) → Below w0.heap.size w0 w → l[i]? = some o → (∀ e ∈ o.after, Region.binds .any e = true → R e.on (vs e.on) w) →
      if Region.wanted o (yielded l.toArray (putAll vs 0 l a0).tmps) = true then o.wp P (putAll vs 0 l a0) w (fun a' w' => ∃ v, a' = (putAll vs 0 l a0).put o.dst v ∧ R i v w' ∧ Below w.heap.size w w') Q else R i undef w)
    (last : ∀ (vs : Nat → Value) (w : World), (∀ (d : Nat), ((l.take n).all fun o => o.dst != some d) = true → (putAll vs 0 l a0).tmps[d]? = a0.tmps[d]?) → Below w0.heap.size w0 w → (∀ i, i < n → R i (vs i) w) → wpTail P Q (l.drop n) (putAll vs 0 l a0) w) :
    ∀ (fuel : Nat) (listed : Array Bool) (vs : Nat → Value) (w : World), (∀ (d : Nat), ((l.take n).all fun o => o.dst != some d) = true → (putAll vs 0 l a0).tmps[d]? = a0.tmps[d]?) → listed.size = l.length → falses listed = fuel → (∀ i, i < n → listed.getD i false = true → R i (vs i) w) →
      (∀ i, n ≤ i → i < l.length → listed.getD i true = false) → (∀ i, listed.getD i false = true → ∀ j ∈ waitsFor l i, listed.getD j false = true) → Below w0.heap.size w0 w →
      wpAny P .any l.toArray Q fuel listed (putAll vs 0 l a0) w := by
  intro fuel
  induction fuel with
  | zero =>
    intro listed vs w hM hs hf hR h0 hcl hb
    exfalso
    have := falses_set (h0 n (Nat.le_refl _) hnl)
    omega
  | succ fuel ih =>
    intro listed vs w hM hs hf hR h0 hcl hb
    by_cases hdone : ∀ i, i < n → listed.getD i false = true
    · exact wpAny_tail he ht _ n rfl (Nat.le_refl _) _ listed _ w hs hf hdone h0 (last vs w hM hb (fun i hi => hR i hi (hdone i hi)))
    · refine ⟨fun hr => absurd (fun i hi => ?_) hdone, fun i hi => ?_⟩
      · have := all_listed he hs hr i (by omega)
        have hlt : i < listed.size := by omega
        simpa [hlt] using this
      · obtain ⟨h1, o, ho, hall⟩ := mem_ready.1 hi
        have ho' : l[i]? = some o := by simpa using ho
        have hil : i < l.length := (List.getElem?_eq_some_iff.1 ho').1
        have hw : ∀ j ∈ waitsFor l i, listed.getD j false = true := by
          intro j hj
          obtain ⟨e, hm, hbd, rfl⟩ := (waits_mem ho').1 hj
          exact hall e hm hbd
        have hi' : i < n := by
          rcases Nat.lt_or_ge i n with h | h
          · exact h
          · exfalso
            refine hdone (fun j hj => ?_)
            have ht' := ht
            unfold tailOk at ht'
            rw [Bool.and_eq_true, List.all_eq_true] at ht'
            have h2 := ht'.1 i (List.mem_range.2 hil)
            rw [Bool.or_eq_true] at h2
            rcases h2 with h2 | h2
            · simp at h2; omega
            · rw [List.all_eq_true] at h2
              have h3 : j ∈ clos l 8 (waitsFor l i) := by simpa using h2 j (List.mem_range.2 (by omega))
              exact clos_ok (p := fun j => listed.getD j false = true) hcl 8 _ hw j h3
        have hst := step vs w i o hi' hM hb ho' (fun e hm hbd => hR e.on (by have := edges_at l 0 i o he ho' e hm hbd; omega) (hall e hm hbd))
        have next : ∀ (v : Value) (w' : World), R i v w' → Below w.heap.size w w' → wpAny P .any l.toArray Q fuel (listed.setIfInBounds i true) ((putAll vs 0 l a0).put o.dst v) w' := by
          intro v w' hv hbw
          have hM' : ∀ (d : Nat), ((l.take n).all fun o => o.dst != some d) = true → ((putAll vs 0 l a0).put o.dst v).tmps[d]? = a0.tmps[d]? := fun d hd => by
            rw [put_miss, hM d hd]
            rw [List.all_eq_true] at hd
            exact hd o (List.mem_of_getElem? (i := i) (by rw [List.getElem?_take, if_pos hi']; exact ho'))
          rw [putAll_upd l 0 i a0 o hn ho', Nat.zero_add] at hM' ⊢
          refine ih _ _ _ hM' (by simpa using hs) (by have := falses_set h1; omega) (fun j hjl hj => ?_) (fun j hj hjl => ?_) ?_ (hb.trans (hbw.mono hb.size))
          · by_cases hji : j = i
            · subst hji; simpa [updV] using hv
            · rw [getD_set_ne false (Ne.symm hji)] at hj
              unfold updV
              rw [if_neg hji]
              exact stable j _ w w' (hR j hjl hj) hbw
          · rw [getD_set_ne true (show i ≠ j by omega)]; exact h0 j hj hjl
          · intro j hj k hk
            have mono : ∀ m, listed.getD m false = true → (listed.setIfInBounds i true).getD m false = true := by
              intro m hm
              by_cases hmi : m = i
              · subst hmi
                have : m < listed.size := by omega
                simp [this]
              · rw [getD_set_ne false (Ne.symm hmi)]; exact hm
            by_cases hji : j = i
            · subst hji; exact mono k (hw k hk)
            · rw [getD_set_ne false (Ne.symm hji)] at hj
              exact mono k (hcl j hj k hk)
        unfold wpOp
        simp only [ho]
        split
        · rename_i hw
          rw [if_pos hw] at hst
          exact .inl (Oper.wp_mono (fun a' w' ⟨v, ha, hv, hbw⟩ => by rw [ha]; exact next v w' hv hbw) hst)
        · rename_i hw
          rw [if_neg hw] at hst
          exact next undef w hst (Below.refl _ _)
/-- The rule. -/
theorem wp_region_tail {id : Nat} (n : Nat) (hm : P.follows .mixedOrders = true) (hn : noDup l = true) (he : edgesB 0 l = true) (hnl : n < l.length) (ht : tailOk l n = true) (R : Nat → Value → World → Prop) (stable : ∀ i v w w', R i v w → Below w.heap.size w w' → R i v w')
    (step : ∀ (vs : Nat → Value) (w : World) (i : Nat) (o : Oper) (A : Act), i < n → FrameT l n vs a0 A → Below w0.heap.size w0 w → l[i]? = some o → (∀ e ∈ o.after, Region.binds .any e = true → R e.on (vs e.on) w) → StepGoal P l o A w (R i) Q)
    (last : ∀ (vs : Nat → Value) (w : World) (A : Act), A = putAll vs 0 l a0 → FrameT l n vs a0 A → Below w0.heap.size w0 w → (∀ i, i < n → R i (vs i) w) → wpTail P Q (l.drop n) A w) :
    (Code.region id l.toArray true).wp P Q a0 w0 := by
  refine wp_region_any hm ?_
  obtain ⟨vs, h⟩ := putAll_self (a0 := a0) l 0
  have hfl : falses (Array.replicate l.toArray.size false) = l.toArray.size := by simp [falses, List.countP_replicate]
  have hno : ∀ i, (Array.replicate l.toArray.size false).getD i false = true → False := by
    intro i hi
    by_cases h' : i < l.length
    · simp [h'] at hi
    · simp [h'] at hi
  have := wpAny_grow_tail (w0 := w0) (a0 := a0) (R := R) (Q := Q) hnl ht hn he stable (fun vs w i o hi hM hb ho hd => step vs w i o _ hi ⟨(frameIs_put hn vs).hit, hM⟩ hb ho hd) (fun vs w hM hb hR => last vs w _ rfl ⟨(frameIs_put hn vs).hit, hM⟩ hb hR)
    l.toArray.size (Array.replicate l.toArray.size false) vs { w0 with drawn := w0.drawn + 1 } (fun d _ => by rw [h]) (by simp) hfl (fun i _ hi => (hno i hi).elim) (fun i _ hi => by simp [hi]) (fun i hi => (hno i hi).elim) ⟨rfl, rfl, rfl, Nat.le_refl _, fun _ _ => rfl⟩
  rw [h] at this
  exact this
end
end Go.Proofs.YtnhlnnehpmjeiaaGreatDoor
namespace Go.Proofs.YtnhlnnehpmjeiaaGreatDoor
open Go.RowKit
set_option linter.unusedVariables false
/-- What is appended: cells that lie at an address, or nothing. -/
def SrcAt (w : World) (size : Nat) (x : Option Addr) (m c : Nat) (news : List Value) : Prop :=
  news.length = m * size ∧ (∀ u ∈ news, u.oneCell' = true) ∧ ((x = none ∧ m = 0 ∧ c = 0) ∨ ∃ a, x = some a ∧ ∀ (j : Nat) (u : Value), news[j]? = some u → w.cell? (a.add j) = some u)
theorem SrcAt.row {w : World} {B : Nat} {e : TypeId} {s : Nat} {a : Option Addr} {n c : Nat} {xs : List Value} (h : w.ownsRow B e s (.slice a n c) n xs) (h1 : ∀ u ∈ xs, u.oneCell' = true) : SrcAt w s a n c xs := by
  refine ⟨h.1, h1, ?_⟩
  rcases h.2 with ⟨he, h0⟩ | ⟨g, cap, cur, he, _⟩
  · cases he; exact .inl ⟨rfl, rfl, rfl⟩
  · cases he
    exact .inr ⟨⟨g, 0, none⟩, rfl, fun j u hu => h.cells (g := g) rfl j u hu⟩
section
variable {P : Program} {w : World} {o : Oper} {A : Act} {Q : Exit → Act → World → Prop}
theorem wp_append_src {K : Act → World → Prop} (s x : Operand) (t : TypeId)
    (ho : o.op = .call { callee := .builtin .append, args := #[s, x], argTypes := #[t, t] })
    (base : Nat) (e : TypeId) (i : TypeInfo) (z : Value) (size bytes : Nat) (ht : P.underlying t = some (.slice e)) (hi : P.info? e = some i) (hz : i.zero = some z)
    (hsize : i.size = size) (hby : i.bytes = bytes) (hzs : z.cells.size = size) (hsz : 0 < size)
    (v : Value) (n : Nat) (xs : List Value) (hs : A.eval s = v) (hown : w.ownsRow base e size v n xs)
    (xa : Option Addr) (m c : Nat) (news : List Value) (hx : A.eval x = .slice xa m c) (hsrc : SrcAt w size xa m c news)
    (h63 : n + m ≤ maxLen) (hbytes : (n + m) * bytes ≤ 140737488355328) (hbase : base ≤ w.heap.size)
    (h : ∀ v' w', w'.ownsRow base e size v' (n + m) (xs ++ news) → w.grownBy w' v.ownBlock → K (A.put o.dst v') w') : o.wp P A w K Q := by
  obtain ⟨hl, h1, hsrc⟩ := hsrc
  rcases hsrc with ⟨rfl, rfl, rfl⟩ | ⟨a, rfl, hnews⟩
  · have hrun := run_append_owned_none (P := P) (w := w) base t o.type e i size ht hi v n xs hown
    obtain rfl : news = [] := List.eq_nil_of_length_eq_zero (by simpa using hl)
    have hK := h v w (by simpa using hown) ⟨rfl, rfl, rfl, Nat.le_refl _, fun _ _ _ => rfl⟩
    unfold Oper.wp
    simp only [execOp, ho, resolve, invoke, builtin, Sem.run_bind, Sem.run_pure, Result.andThen_ok, List.map_toArray, List.map_cons, List.map_nil, hs, hx, hrun]
    exact hK
  · exact wp_append_own w s x t ho base e i z size bytes ht hi hz hsize hby hzs hsz v n xs hs hown a m c news hx hl hnews h1 h63 hbytes hbase (fun v' w' h2 h3 _ => h v' w' h2 h3)
end
end Go.Proofs.YtnhlnnehpmjeiaaGreatDoor
namespace Go.Proofs.YtnhlnnehpmjeiaaGreatDoor
open Go.RowKit
set_option linter.unusedVariables false
theorem eval_of {A : Act} {t : Nat} {v : Value} (h : A.tmps[t]?.getD undef = v) : A.eval (.tmp t) = v := by
  rw [← h]
  simp [Act.eval]
def IsEmp (U : Nat) (e : TypeId) (s : Nat) (v : Value) (w : World) : Prop := ∃ q, v = .slice (some ⟨q, 0, none⟩) 0 0 ∧ w.ownsRow U e s (.slice (some ⟨q, 0, none⟩) 0 0) 0 []
theorem lasts_emp (U : Nat) (e : TypeId) (s : Nat) : Lasts (IsEmp U e s) := fun _ _ _ ⟨q, h1, h2⟩ hb => ⟨q, h1, ownsRow_below h2 hb⟩
def IsRowO (U : Nat) (e : TypeId) (s l : Nat) (xs : List Value) (v : Value) (w : World) : Prop := ∃ va vc, v = .slice va l vc ∧ w.ownsRow U e s (.slice va l vc) l xs
theorem lasts_rowO (U : Nat) (e : TypeId) (s l : Nat) (xs : List Value) : Lasts (IsRowO U e s l xs) := fun _ _ _ ⟨va, vc, h1, h2⟩ hb => ⟨va, vc, h1, ownsRow_below h2 hb⟩
/-- A value made of a row. -/
def IsWith (U : Nat) (e : TypeId) (s l : Nat) (xs : List Value) (g : Option Addr → Nat → Value) (v : Value) (w : World) : Prop := ∃ va vc, v = g va vc ∧ w.ownsRow U e s (.slice va l vc) l xs
theorem lasts_with (U : Nat) (e : TypeId) (s l : Nat) (xs : List Value) (g : Option Addr → Nat → Value) : Lasts (IsWith U e s l xs g) := fun _ _ _ ⟨va, vc, h1, h2⟩ hb => ⟨va, vc, h1, ownsRow_below h2 hb⟩
/-- A slice of one element, made of a row. -/
def IsOneW (U : Nat) (e : TypeId) (s l : Nat) (xs : List Value) (e' : TypeId) (g : Option Addr → Nat → Array Value) (v : Value) (w : World) : Prop := ∃ va vc q, v = .slice (some ⟨q, 0, none⟩) 1 1 ∧ w.heap[q]? = some (.cells (g va vc) e' (0, 0)) ∧ w.ownsRow U e s (.slice va l vc) l xs
theorem lasts_oneW (U : Nat) (e : TypeId) (s l : Nat) (xs : List Value) (e' : TypeId) (g : Option Addr → Nat → Array Value) : Lasts (IsOneW U e s l xs e' g) := fun _ _ _ ⟨va, vc, q, h1, h2, h3⟩ hb => ⟨va, vc, q, h1, keep hb h2, ownsRow_below h3 hb⟩
def IsOne (e' : TypeId) (cs : Array Value) (v : Value) (w : World) : Prop := ∃ q, v = .slice (some ⟨q, 0, none⟩) 1 1 ∧ w.heap[q]? = some (.cells cs e' (0, 0))
theorem lasts_one (e' : TypeId) (cs : Array Value) : Lasts (IsOne e' cs) := fun _ _ _ ⟨q, h1, h2⟩ hb => ⟨q, h1, keep hb h2⟩
end Go.Proofs.YtnhlnnehpmjeiaaGreatDoor
namespace Go.Proofs
open Go.Shelf
def Tryz.lays156_ren : Go.Shelf.Ren := ⟨fun | 156 => 33 | 165 => 53 | 166 => 54 | 169 => 55 | 240 => 68 | 241 => 69 | 276 => 81 | 277 => 82 | n => n, fun | 31 => 79 | 9 => 9 | 3 => 3 | 4 => 4 | 0 => 0 | 20 => 20 | 72 => 115 | 76 => 119 | 70 => 112 | 37 => 113 | 75 => 118 | 127 => 149 | 164 => 171 | 5 => 5 | 80 => 121 | n => n, fun | n => n⟩
theorem Tryz.lays156 : Go.Proofs.Lays.n156 Tryz.prog Tryz.lays156_ren := {
  mixed := by kernel_rfl
  f156 := Tryz.func33.trans (congrArg some (by kernel_rfl))
  f165 := Tryz.func53.trans (congrArg some (by kernel_rfl))
  f166 := Tryz.func54.trans (congrArg some (by kernel_rfl))
  f169 := Tryz.func55.trans (congrArg some (by kernel_rfl))
  f240 := Tryz.func68.trans (congrArg some (by kernel_rfl))
  f241 := Tryz.func69.trans (congrArg some (by kernel_rfl))
  f276 := Tryz.func81.trans (congrArg some (by kernel_rfl))
  f277 := Tryz.func82.trans (congrArg some (by kernel_rfl))
  t0 := Tryz.underlying0
  a0 := Tryz.isAgg0
  z0 := Tryz.sizeOf0
  v0 := Tryz.zeroValue0
  t3 := Tryz.underlying3
  a3 := Tryz.isAgg3
  z3 := Tryz.sizeOf3
  v3 := Tryz.zeroValue3
  t4 := Tryz.underlying4
  a4 := Tryz.isAgg4
  z4 := Tryz.sizeOf4
  v4 := Tryz.zeroValue4
  t9 := Tryz.underlying9
  a9 := Tryz.isAgg9
  z9 := Tryz.sizeOf9
  v9 := Tryz.zeroValue9
  t20 := Tryz.underlying20
  a20 := Tryz.isAgg20
  z20 := Tryz.sizeOf20
  v20 := Tryz.zeroValue20
  t31 := Tryz.underlying79
  a31 := Tryz.isAgg79
  z31 := Tryz.sizeOf79
  v31 := Tryz.zeroValue79
  t37 := Tryz.underlying113
  a37 := Tryz.isAgg113
  z37 := Tryz.sizeOf113
  v37 := Tryz.zeroValue113
  t70 := Tryz.underlying112
  a70 := Tryz.isAgg112
  z70 := Tryz.sizeOf112
  v70 := Tryz.zeroValue112
  t72 := Tryz.underlying115
  a72 := Tryz.isAgg115
  z72 := Tryz.sizeOf115
  v72 := Tryz.zeroValue115
  t75 := Tryz.underlying118
  a75 := Tryz.isAgg118
  z75 := Tryz.sizeOf118
  v75 := Tryz.zeroValue118
  t76 := Tryz.underlying119
  a76 := Tryz.isAgg119
  z76 := Tryz.sizeOf119
  v76 := Tryz.zeroValue119
  t127 := Tryz.underlying149
  a127 := Tryz.isAgg149
  z127 := Tryz.sizeOf149
  v127 := Tryz.zeroValue149
  t164 := Tryz.underlying171
  a164 := Tryz.isAgg171
  z164 := Tryz.sizeOf171
  v164 := Tryz.zeroValue171 }
theorem Tryz.Builder_Extra_156 : Builder.Extra Tryz.prog Tryz.lays156_ren := {
  sizeBuilder := by kernel_rfl
  liesBuilder := by kernel_rfl
  t5 := Tryz.underlying5
  a5 := Tryz.isAgg5
  z5 := Tryz.sizeOf5
  v5 := Tryz.zeroValue5
  infoByte := by kernel_rfl
  cellsByte := by kernel_rfl
  sizeByte := by kernel_rfl
  neB5 := by decide }
open Go.RowKit in
theorem Tryz.strings_Join (bk o c : Nat) (xs : List ByteArray) (sep : ByteArray) (w : World) (hcells : ∀ (j : Nat) x, xs[j]? = some x → w.cell? ⟨bk, o + j, none⟩ = some (.string x)) (hbk : bk < w.heap.size) (hN : xs.length ≤ 140737488355328) (hcap : xs.length ≤ c) (hlen : (Lib.join (xs.map (·.data.toList)) sep.data.toList).length ≤ 140737488355328) :
    Calls Tryz.prog 33 #[.slice (some ⟨bk, o, none⟩) xs.length c, .string sep] w fun e w' => e = .returned (.string ⟨(Lib.join (xs.map (·.data.toList)) sep.data.toList).toArray⟩) ∧ Below w.heap.size w w' := Any.strings_Join Tryz.lays156 Tryz.Builder_Extra_156 bk o c xs sep w hcells hbk hN hcap hlen
def Tryz.lays171_ren : Go.Shelf.Ren := ⟨fun | 171 => 30 | 243 => 52 | 246 => 67 | 283 => 77 | 284 => 78 | 285 => 79 | 286 => 80 | 129 => 93 | 317 => 92 | 318 => 94 | 319 => 95 | 320 => 96 | 337 => 105 | 338 => 106 | n => n, fun | 3 => 3 | 9 => 9 | 2 => 2 | 4 => 4 | 171 => 166 | 0 => 0 | 53 => 30 | 37 => 113 | 5 => 5 | 173 => 169 | 212 => 187 | 51 => 188 | 20 => 20 | 213 => 189 | 46 => 111 | 232 => 203 | 233 => 204 | n => n, fun | 17 => 0 | 18 => 4 | 19 => 5 | n => n⟩
theorem Tryz.lays171 : Go.Proofs.Lays.n171 Tryz.prog Tryz.lays171_ren := {
  mixed := by kernel_rfl
  f129 := Tryz.func93.trans (congrArg some (by kernel_rfl))
  f171 := Tryz.func30.trans (congrArg some (by kernel_rfl))
  f243 := Tryz.func52.trans (congrArg some (by kernel_rfl))
  f246 := Tryz.func67.trans (congrArg some (by kernel_rfl))
  f283 := Tryz.func77.trans (congrArg some (by kernel_rfl))
  f284 := Tryz.func78.trans (congrArg some (by kernel_rfl))
  f285 := Tryz.func79.trans (congrArg some (by kernel_rfl))
  f286 := Tryz.func80.trans (congrArg some (by kernel_rfl))
  f317 := Tryz.func92.trans (congrArg some (by kernel_rfl))
  f318 := Tryz.func94.trans (congrArg some (by kernel_rfl))
  f319 := Tryz.func95.trans (congrArg some (by kernel_rfl))
  f320 := Tryz.func96.trans (congrArg some (by kernel_rfl))
  f337 := Tryz.func105.trans (congrArg some (by kernel_rfl))
  f338 := Tryz.func106.trans (congrArg some (by kernel_rfl))
  t0 := Tryz.underlying0
  a0 := Tryz.isAgg0
  z0 := Tryz.sizeOf0
  v0 := Tryz.zeroValue0
  t2 := Tryz.underlying2
  a2 := Tryz.isAgg2
  z2 := Tryz.sizeOf2
  v2 := Tryz.zeroValue2
  t3 := Tryz.underlying3
  a3 := Tryz.isAgg3
  z3 := Tryz.sizeOf3
  v3 := Tryz.zeroValue3
  t4 := Tryz.underlying4
  a4 := Tryz.isAgg4
  z4 := Tryz.sizeOf4
  v4 := Tryz.zeroValue4
  t5 := Tryz.underlying5
  a5 := Tryz.isAgg5
  z5 := Tryz.sizeOf5
  v5 := Tryz.zeroValue5
  t9 := Tryz.underlying9
  a9 := Tryz.isAgg9
  z9 := Tryz.sizeOf9
  v9 := Tryz.zeroValue9
  t20 := Tryz.underlying20
  a20 := Tryz.isAgg20
  z20 := Tryz.sizeOf20
  v20 := Tryz.zeroValue20
  t37 := Tryz.underlying113
  a37 := Tryz.isAgg113
  z37 := Tryz.sizeOf113
  v37 := Tryz.zeroValue113
  t46 := Tryz.underlying111
  a46 := Tryz.isAgg111
  z46 := Tryz.sizeOf111
  v46 := Tryz.zeroValue111
  t51 := Tryz.underlying188
  a51 := Tryz.isAgg188
  z51 := Tryz.sizeOf188
  v51 := Tryz.zeroValue188
  t53 := Tryz.underlying30
  a53 := Tryz.isAgg30
  z53 := Tryz.sizeOf30
  v53 := Tryz.zeroValue30
  t171 := Tryz.underlying166
  a171 := Tryz.isAgg166
  z171 := Tryz.sizeOf166
  v171 := Tryz.zeroValue166
  t173 := Tryz.underlying169
  a173 := Tryz.isAgg169
  z173 := Tryz.sizeOf169
  v173 := Tryz.zeroValue169
  t212 := Tryz.underlying187
  a212 := Tryz.isAgg187
  z212 := Tryz.sizeOf187
  v212 := Tryz.zeroValue187
  t213 := Tryz.underlying189
  a213 := Tryz.isAgg189
  z213 := Tryz.sizeOf189
  t232 := Tryz.underlying203
  a232 := Tryz.isAgg203
  z232 := Tryz.sizeOf203
  v232 := Tryz.zeroValue203
  t233 := Tryz.underlying204
  a233 := Tryz.isAgg204
  z233 := Tryz.sizeOf204
  v233 := Tryz.zeroValue204
  g17 := by kernel_rfl
  g18 := by kernel_rfl
  g19 := by kernel_rfl }
open Go.RowKit Go.Sort Go.Lib in
theorem Tryz.strconv_Itoa_small (i : Nat) (hi : i < 100) (w : World) :
    Calls Tryz.prog 30 #[.int .i64 i] w fun e w' => e = .returned (.string ⟨(Lib.decDigits i).toArray⟩) ∧ w' = w := Any.strconv_Itoa_small Tryz.lays171 i hi w
end Go.Proofs
