/- What keeps each name: schema.FieldNamed, check.plain. · The rule wp_region_frame with a tail: the last operations come in one order behind all others, and may do anything. -/
import Derived.Test.YtgnilkjdpfbjgaaGreatQ8
import Derived.Test.YtgnilkjdpfbjgaaGreatQ3
namespace Go.Proofs.YtgnilkjdpfbjgaaGreat
open Go.RowKit
set_option linter.unusedVariables false
theorem str_eqB (s t : ByteArray) : (s.toList == t.toList) = decide (s = t) := by
  rw [Bool.eq_iff_iff, beq_iff_eq, decide_eq_true_eq, ByteArray.toList_eq, ByteArray.toList_eq]
  constructor
  · intro h
    cases s; cases t
    simp at h
    rw [h]
  · intro h; rw [h]
set_option maxRecDepth 100000 in
theorem fldNamed1_any (f : Fld) (s : ByteArray) (p : Addr) (w : World) (hp : w.cell? p = some (.string s)) :
    Calls Tryz.prog 137 #[.agg #[.string f.name, .int .i64 f.kind, .int .i64 f.count], .pointer (some p)] w fun e w' => e = .returned (.bool (decide (f.name = s))) ∧ Below w.heap.size w w' := by
  have hpb := World.block_lt_of_cell? w p hp
  have hp' : (w.alloc (.cells #[.string f.name, .int .i64 f.kind, .int .i64 f.count] 64)).cell? p = some (.string s) := by
    rw [World.cell?_of_block (w := w) (by rw [halloc, if_neg (by omega)])]; exact hp
  have H := Lib.hid (str_eqB f.name s)
  go_enter Tryz.func137, Tryz.ntmps137
  go_wp2
  go_ret
  exact ⟨congrArg (fun b => Ending.returned (.bool b)) H.out, by go_grown⟩
theorem named_skip {s : ByteArray} {fs : List Fld} {i k : Nat} (h : namedF s fs = some i) {f : Fld} (hk : fs[k]? = some f) (hki : k < i) : decide (f.name = s) = false := by
  unfold namedF at h
  rw [List.findIdx?_eq_some_iff_getElem] at h
  obtain ⟨hi, _, h2⟩ := h
  have := h2 k hki
  obtain ⟨hk1, hk2⟩ := List.getElem?_eq_some_iff.1 hk
  rw [hk2] at this
  simpa using this
theorem named_is {s : ByteArray} {fs : List Fld} {i : Nat} (h : namedF s fs = some i) {f : Fld} (hk : fs[i]? = some f) : f.name = s := by
  unfold namedF at h
  rw [List.findIdx?_eq_some_iff_getElem] at h
  obtain ⟨hi, h1, _⟩ := h
  obtain ⟨hk1, hk2⟩ := List.getElem?_eq_some_iff.1 hk
  rw [hk2] at h1
  simpa using h1
theorem named_lt {s : ByteArray} {fs : List Fld} {i : Nat} (h : namedF s fs = some i) : i < fs.length := by
  unfold namedF at h
  rw [List.findIdx?_eq_some_iff_getElem] at h
  exact h.1
set_option maxRecDepth 100000 in
set_option maxHeartbeats 1000000 in
theorem ixField_any (s : ByteArray) (fs : List Fld) (i : Nat) (a : Option Addr) (len cap : Nat) (p : Addr) (w : World) (hfs : FieldsAt w.heap.size w a len fs) (hp : w.cell? p = some (.string s)) (h : namedF s fs = some i) :
    Calls Tryz.prog 136 #[.slice a len cap, .func (.func 137) #[] #[.pointer (some p)]] w fun e w' => e = .returned (.int .i64 i) ∧ Below w.heap.size w w' := by
  have hmx : len ≤ maxLen := hfs.2.1
  have hil : i < len := by have := named_lt h; have := hfs.1; omega
  unfold maxLen at hmx
  have hpb := World.block_lt_of_cell? w p hp
  have HN := Lib.hid h
  clear h
  go_enter Tryz.func136, Tryz.ntmps136
  go_wp2_with fail
  go_loopw [8] (fun j wr => ∃ (k : Nat), k ≤ i ∧ j = .int .i64 k ∧ Below w.heap.size w wr) (fun j _ => len - (intOf j).toNat)
  case atStart => exact ⟨0, Nat.zero_le _, rfl, Below.refl _ _⟩
  case round =>
    obtain ⟨k, hk, rfl, hbw⟩ := hrel
    have hzr := hbw.size
    obtain ⟨b, off, f, rfl, hB, hf, c0, c1, c2⟩ := hfs.get hbw (by omega : k < len)
    have HC := Lib.hid (fldNamed1_any f s p wr ((hbw.cell hpb).trans hp))
    rcases Nat.lt_or_ge k i with hlt | hge
    · have hd := named_skip HN.out hf hlt
      rw [hd] at HC
      have hkl : k < len := by omega
      clear hd
      go_wp2_with fail
      refine HC.out.mono ?_
      rintro e w1 ⟨rfl, hb1⟩
      have hbel := hbw.trans (hb1.mono hzr)
      go_wp2
      go_roundw
      case rel => exact ⟨k + 1, by omega, by go_num, hbel⟩
      case measure => simp [intOf]; omega
    · obtain rfl : k = i := by omega
      have hd := named_is HN.out hf
      rw [decide_eq_true hd] at HC
      clear hd
      go_wp2_with fail
      refine HC.out.mono ?_
      rintro e w1 ⟨rfl, hb1⟩
      have hbel := hbw.trans (hb1.mono hzr)
      go_wp2
      go_ret
      exact ⟨rfl, hbel⟩
set_option maxRecDepth 100000 in
set_option maxHeartbeats 1000000 in
theorem fldNamed_any (id : Int) (nm s : ByteArray) (fs : List Fld) (i : Nat) (a : Option Addr) (len cap : Nat) (w : World) (hfs : FieldsAt w.heap.size w a len fs) (h : namedF s fs = some i) :
    Calls Tryz.prog 112 #[.agg #[.int .i64 id, .string nm, .slice a len cap], .string s] w fun e w' => e = .returned (.tuple #[.int .i64 i, .bool true]) ∧ Below w.heap.size w w' := by
  have hB : Below w.heap.size w ((w.alloc (.cells #[.int .i64 id, .string nm, .slice a len cap] 67)).alloc (.cells #[.string s] 9)) := by go_grown
  have hmax : max (i : Int) 0 = i := by omega
  go_enter Tryz.func112, Tryz.ntmps112
  go_wp2_with fail
  refine (ixField_any s fs i a len cap _ _ ((hfs.below hB).mono hB.size) ?_ h).mono ?_
  · simp
  rintro e w1 ⟨rfl, hb1⟩
  have hbel := hB.trans (hb1.mono hB.size)
  clear hB hb1
  go_wp2
  go_returns
  exact ⟨rfl, hbel⟩
/-- The types of a program's rows. -/
def TP : Nat → TypeId → Prop := fun _ t => t = 207 ∨ t = 175 ∨ t = 167
/-- The types of a rule's rows. -/
def TC : Nat → TypeId → Prop := fun _ t => t = 207
theorem code_made (w : World) (op a : Int) (q : Nat) (hq : q = w.heap.size) : At (w.alloc (.cells #[.int .i64 op, .int .i64 a, .int .i64 0, .bool false, .int .u64 0, .int .u64 0] 207)) TC (codeD ⟨op, a⟩) (.slice (some ⟨q, 0, none⟩) 1 1) := by
  subst hq
  unfold codeD At
  refine ⟨_, _, rfl, Nat.le_refl _, by unfold maxLen; omega, .inr ⟨_, 0, _, _, _, rfl, heap_alloc_new _ _, rfl, AtL.mk fun i d hd => ?_⟩⟩
  have hi : i < 6 := (List.getElem?_eq_some_iff.1 hd).1
  rw [Nat.zero_add, cell_at (heap_alloc_new _ _)]
  rcases (by omega : i = 0 ∨ i = 1 ∨ i = 2 ∨ i = 3 ∨ i = 4 ∨ i = 5) with rfl | rfl | rfl | rfl | rfl | rfl <;> (cases hd; exact ⟨_, rfl, by unfold At; rfl⟩)
set_option maxRecDepth 100000 in
set_option maxHeartbeats 1000000 in
theorem chplain_any (id : Int) (nm : ByteArray) (fs : List Fld) (f g : Fld) (i : Nat) (a : Option Addr) (len cap : Nat) (w : World) (hfs : FieldsAt w.heap.size w a len fs) (h : namedF f.name fs = some i) (hg : fs[i]? = some g) (hc : f.count ≤ g.count) (k1 : g.kind ≠ 10) (k2 : f.kind ≠ 10) :
    Calls Tryz.prog 85 #[.agg #[.int .i64 id, .string nm, .slice a len cap], .agg #[.string f.name, .int .i64 f.kind, .int .i64 f.count]] w fun e w' => ∃ u, e = .returned u ∧ At w' TC (codeD ⟨3, i⟩) u ∧ Below w.heap.size w w' := by
  have hmx : len ≤ maxLen := hfs.2.1
  have hil : i < len := by have := named_lt h; have := hfs.1; omega
  unfold maxLen at hmx
  have hq1 := keepA (.cells #[.string f.name, .int .i64 f.kind, .int .i64 f.count] 64) (heap_alloc_new w (.cells #[.int .i64 id, .string nm, .slice a len cap] 67))
  have hq2 := heap_alloc_new (w.alloc (.cells #[.int .i64 id, .string nm, .slice a len cap] 67)) (.cells #[.string f.name, .int .i64 f.kind, .int .i64 f.count] 64)
  rw [World.size_alloc] at hq2
  have hB : Below w.heap.size w ((w.alloc (.cells #[.int .i64 id, .string nm, .slice a len cap] 67)).alloc (.cells #[.string f.name, .int .i64 f.kind, .int .i64 f.count] 64)) := by go_grown
  have HK := Lib.hid (fldNamed_any id nm f.name fs i a len cap _ ((hfs.below hB).mono hB.size) h)
  have e1 : (g.kind == 10) = false := by simpa using k1
  have e2 : (f.kind == 10) = false := by simpa using k2
  have e3 : decide (f.count ≤ g.count) = true := by simpa using hc
  have HQ1 := Lib.hid hq1
  have HQ2 := Lib.hid hq2
  have HBB := Lib.hid hB
  clear hq1 hq2 hB h k1 k2
  go_enter Tryz.func85, Tryz.ntmps85
  go_wp2_with fail
  refine HK.out.mono ?_
  rintro e w1 ⟨rfl, hb1⟩
  have hbel1 := HBB.out.trans (hb1.mono HBB.out.size)
  have p1 := keep hb1 HQ1.out
  have p2 := keep hb1 HQ2.out
  have c2 := cell_at p1 2
  have d1 := cell_at p2 1
  have d2 := cell_at p2 2
  simp at c2 d1 d2
  obtain ⟨b, off, g', rfl, hb, hg', g0, g1, g2⟩ := hfs.get hbel1 hil
  obtain rfl : g = g' := Option.some.inj (hg.symm.trans hg')
  have hz1 := lt_some p2
  clear hb1 p1 p2 HQ1 HQ2
  go_wp2_with fail
  go_ret
  exact ⟨_, rfl, code_made _ 3 i _ (by simp), (hbel1.alloc hbel1.size _).alloc (by have := hbel1.size; simp; omega) _⟩
end Go.Proofs.YtgnilkjdpfbjgaaGreat
namespace Go.Proofs.YtgnilkjdpfbjgaaGreat
open Go.RowKit
set_option linter.unusedVariables false
/-- Operations one behind the other. -/
def wpTail (P : Program) (Q : Exit → Act → World → Prop) : List Oper → Act → World → Prop
  | [], a, w => Q .normal a w
  | o :: r, a, w => o.wp P a w (fun a' w' => wpTail P Q r a' w') Q
/-- From operation n on each waits for all before it, and has no guard. -/
def tailOk (l : List Oper) (n : Nat) : Bool := ((List.range l.length).all fun m => decide (m < n) || ((List.range m).all fun i => (clos l 8 (waitsFor l m)).contains i)) && ((l.drop n).all fun o => o.guard.isNone)
/-- What a frame is ahead of the tail. -/
structure FrameT (l : List Oper) (n : Nat) (vs : Nat → Value) (a0 A : Act) : Prop where
  hit : ∀ (j d : Nat), (l[j]?).bind (·.dst) = some d → d < a0.tmps.size → A.tmps[d]? = some (vs j)
  miss : ∀ (d : Nat), ((l.take n).all fun o => o.dst != some d) = true → A.tmps[d]? = a0.tmps[d]?
theorem FrameT.m {l : List Oper} {n : Nat} {vs : Nat → Value} {a0 A : Act} (F : FrameT l n vs a0 A) {d : Nat} {v : Value} (h1 : ((l.take n).all fun o => o.dst != some d) = true) (hv : a0.tmps[d]? = some v) : A.tmps[d]?.getD undef = v := by
  rw [F.miss d h1, hv]; rfl
theorem FrameT.light {l : List Oper} {k : Nat} {vs : Nat → Value} {a0 A : Act} (F : FrameT l k vs a0 A) {n : Nat} (h : a0.tmps.size = n) : FrameL l vs n A := fun j d h1 h2 => F.hit j d h1 (by rw [h]; exact h2)
section
variable {P : Program} {l : List Oper} {Q : Exit → Act → World → Prop} {a0 : Act} {w0 : World} {R : Nat → Value → World → Prop}
theorem put_miss {o : Oper} {v : Value} {A : Act} {d : Nat} (h : (o.dst != some d) = true) : (A.put o.dst v).tmps[d]? = A.tmps[d]? := by
  cases hd : o.dst with
  | none => rfl
  | some e =>
    have : e ≠ d := fun he => by subst he; rw [hd] at h; simp at h
    simp [Act.put, this]
theorem falses_zero {listed : Array Bool} (h : ∀ i, i < listed.size → listed.getD i false = true) : falses listed = 0 := by
  unfold falses
  rw [List.countP_eq_zero]
  intro b hbm
  obtain ⟨j, hj⟩ := List.getElem?_of_mem hbm
  rw [Array.getElem?_toList] at hj
  have hjs : j < listed.size := (Array.getElem?_eq_some_iff.1 hj).1
  have := h j hjs
  simp [hjs] at this
  rw [Array.getElem?_eq_getElem hjs] at hj
  cases hj
  simp [this]
theorem wpAny_tail (he : edgesB 0 l = true) {n : Nat} (ht : tailOk l n = true) : ∀ (r : List Oper) (m : Nat), l.drop m = r → n ≤ m → ∀ (fuel : Nat) (listed : Array Bool) (a : Act) (w : World), listed.size = l.length → falses listed = fuel →
    (∀ i, i < m → listed.getD i false = true) → (∀ i, m ≤ i → i < l.length → listed.getD i true = false) → wpTail P Q r a w → wpAny P .any l.toArray Q fuel listed a w := by
  intro r
  induction r with
  | nil =>
    intro m hr hnm fuel listed a w hs hf hlow hhi h
    have hml : l.length ≤ m := by
      have := congrArg List.length hr
      simp at this
      omega
    have hf0 : fuel = 0 := by rw [← hf]; exact falses_zero (fun i hi => hlow i (by omega))
    subst hf0
    have hrd : Region.ready .any l.toArray listed = [] := by
      cases hq : Region.ready .any l.toArray listed with
      | nil => rfl
      | cons x xs =>
        exfalso
        have hx : x ∈ Region.ready .any l.toArray listed := by rw [hq]; simp
        have := falses_set (mem_ready.1 hx).1
        omega
    exact ⟨hrd, h⟩
  | cons o r ih =>
    intro m hr hnm fuel listed a w hs hf hlow hhi h
    have hml : m < l.length := by
      have := congrArg List.length hr
      simp at this
      omega
    have hom : l[m]? = some o := by
      have := congrArg (·[0]?) hr
      simpa using this
    have hr' : l.drop (m + 1) = r := by
      have := congrArg (List.drop 1) hr
      simpa [List.drop_drop] using this
    have hm0 := hhi m (Nat.le_refl _) hml
    cases fuel with
    | zero => exfalso; have := falses_set hm0; omega
    | succ fuel =>
      refine ⟨fun hrd => ?_, fun i hi => ?_⟩
      · exfalso
        have := all_listed he hs hrd m hml
        rw [this] at hm0; cases hm0
      · obtain ⟨h1, o', ho, hall⟩ := mem_ready.1 hi
        have ho' : l[i]? = some o' := by simpa using ho
        have hil : i < l.length := (List.getElem?_eq_some_iff.1 ho').1
        have him : ¬ i < m := fun hlt => by
          have := hlow i hlt
          have hlt' : i < listed.size := by omega
          simp [hlt'] at this h1
          rw [this] at h1; cases h1
        have hmi : i = m := by
          rcases Nat.lt_or_ge m i with hlt | hge
          · exfalso
            unfold tailOk at ht
            rw [Bool.and_eq_true, List.all_eq_true] at ht
            have h2 := ht.1 i (List.mem_range.2 hil)
            rw [Bool.or_eq_true] at h2
            rcases h2 with h2 | h2
            · simp at h2; omega
            · rw [List.all_eq_true] at h2
              have h3 : m ∈ clos l 8 (waitsFor l i) := by simpa using h2 m (List.mem_range.2 hlt)
              have hclosed : ∀ k, (listed.getD k false = true ∨ k > m) → ∀ j ∈ waitsFor l k, (listed.getD j false = true ∨ k > m) := fun k hk j hj => by
                rcases hk with hk | hk
                · have hkm : k < m := by
                    rcases Nat.lt_or_ge k m with h | h
                    · exact h
                    · exfalso
                      by_cases hkl : k < l.length
                      · have := hhi k h hkl
                        have hlt' : k < listed.size := by omega
                        simp [hlt'] at this hk
                        rw [this] at hk; cases hk
                      · have : ¬ k < listed.size := by omega
                        simp [this] at hk
                  obtain ⟨ok, hok⟩ : ∃ ok, l[k]? = some ok := ⟨_, List.getElem?_eq_getElem (by omega)⟩
                  obtain ⟨e, hm, hbd, rfl⟩ := (waits_mem hok).1 hj
                  have := edges_at l 0 k ok he hok e hm hbd
                  exact .inl (hlow _ (by omega))
                · exact .inr hk
              have hw : ∀ j ∈ waitsFor l i, listed.getD j false = true := by
                intro j hj
                obtain ⟨e, hm, hbd, rfl⟩ := (waits_mem ho').1 hj
                exact hall e hm hbd
              have h4 : ∀ x ∈ clos l 8 (waitsFor l i), listed.getD x false = true := clos_ok (p := fun j => listed.getD j false = true) (fun k hk j hj => by
                have hkm : k < m := by
                  rcases Nat.lt_or_ge k m with h | h
                  · exact h
                  · exfalso
                    by_cases hkl : k < l.length
                    · have := hhi k h hkl
                      have hlt' : k < listed.size := by omega
                      simp [hlt'] at this hk
                      rw [this] at hk; cases hk
                    · have : ¬ k < listed.size := by omega
                      simp [this] at hk
                obtain ⟨ok, hok⟩ : ∃ ok, l[k]? = some ok := ⟨_, List.getElem?_eq_getElem (by omega)⟩
                obtain ⟨e, hm, hbd, rfl⟩ := (waits_mem hok).1 hj
                have := edges_at l 0 k ok he hok e hm hbd
                exact hlow _ (by omega)) 8 _ hw
              have h5 := h4 m h3
              have hlt' : m < listed.size := by omega
              simp [hlt'] at h5 hm0
              rw [h5] at hm0; cases hm0
          · omega
        subst hmi
        obtain rfl : o' = o := by rw [hom] at ho'; exact (Option.some.inj ho').symm
        have hgn : o'.guard = none := by
          unfold tailOk at ht
          rw [Bool.and_eq_true] at ht
          have h2 := ht.2
          rw [List.all_eq_true] at h2
          have := h2 o' (List.mem_of_getElem? (i := i - n) (by rw [List.getElem?_drop, show n + (i - n) = i by omega]; exact hom))
          cases hgd : o'.guard with
          | none => rfl
          | some _ => rw [hgd] at this; cases this
        unfold wpOp
        simp only [ho]
        rw [if_pos (by simp [Region.wanted, hgn])]
        refine .inl (Oper.wp_mono (fun a' w' h' => ?_) h)
        refine ih (i + 1) hr' (by omega) fuel _ a' w' (by simpa using hs) (by have := falses_set h1; omega) (fun j hj => ?_) (fun j hj hjl => ?_) h'
        · by_cases hji : j = i
          · subst hji
            have : j < listed.size := by omega
            simp [this]
          · rw [getD_set_ne false (Ne.symm hji)]
            exact hlow j (by omega)
        · rw [getD_set_ne true (show i ≠ j by omega)]
          exact hhi j (by omega) hjl
theorem wpAny_grow_tail {n : Nat} (hnl : n < l.length) (ht : tailOk l n = true) (hn : noDup l = true) (he : edgesB 0 l = true) (stable : ∀ i v w w', R i v w → Below w.heap.size w w' → R i v w')
    (step : ∀ (vs : Nat → Value) (w : World) (i : Nat) (o : Oper), i < n → (∀ (d : Nat), ((l.take n).all fun o => o.dst != some d) = true → (putAll vs 0 l a0).tmps[d]? = a0.tmps[d]?) → Below w0.heap.size w0 w → l[i]? = some o → (∀ e ∈ o.after, Region.binds .any e = true → R e.on (vs e.on) w) →
      if Region.wanted o (yielded l.toArray (putAll vs 0 l a0).tmps) = true then o.wp P (putAll vs 0 l a0) w (fun a' w' => ∃ v, a' = (putAll vs 0 l a0).put o.dst v ∧ R i v w' ∧ Below w.heap.size w w') Q else R i undef w)
    (last : ∀ (vs : Nat → Value) (w : World), (∀ (d : Nat), ((l.take n).all fun o => o.dst != some d) = true → (putAll vs 0 l a0).tmps[d]? = a0.tmps[d]?) → Below w0.heap.size w0 w → (∀ i, i < n → R i (vs i) w) → wpTail P Q (l.drop n) (putAll vs 0 l a0) w) :
    ∀ (fuel : Nat) (listed : Array Bool) (vs : Nat → Value) (w : World), (∀ (d : Nat), ((l.take n).all fun o => o.dst != some d) = true → (putAll vs 0 l a0).tmps[d]? = a0.tmps[d]?) → listed.size = l.length → falses listed = fuel → (∀ i, i < n → listed.getD i false = true → R i (vs i) w) →
      (∀ i, n ≤ i → i < l.length → listed.getD i true = false) → (∀ i, listed.getD i false = true → ∀ j ∈ waitsFor l i, listed.getD j false = true) → Below w0.heap.size w0 w →
      wpAny P .any l.toArray Q fuel listed (putAll vs 0 l a0) w := by
  intro fuel
  induction fuel with
  | zero =>
    intro listed vs w hM hs hf hR h0 hcl hb
    exfalso
    have := falses_set (h0 n (Nat.le_refl _) hnl)
    omega
  | succ fuel ih =>
    intro listed vs w hM hs hf hR h0 hcl hb
    by_cases hdone : ∀ i, i < n → listed.getD i false = true
    · exact wpAny_tail he ht _ n rfl (Nat.le_refl _) _ listed _ w hs hf hdone h0 (last vs w hM hb (fun i hi => hR i hi (hdone i hi)))
    · refine ⟨fun hr => absurd (fun i hi => ?_) hdone, fun i hi => ?_⟩
      · have := all_listed he hs hr i (by omega)
        have hlt : i < listed.size := by omega
        simpa [hlt] using this
      · obtain ⟨h1, o, ho, hall⟩ := mem_ready.1 hi
        have ho' : l[i]? = some o := by simpa using ho
        have hil : i < l.length := (List.getElem?_eq_some_iff.1 ho').1
        have hw : ∀ j ∈ waitsFor l i, listed.getD j false = true := by
          intro j hj
          obtain ⟨e, hm, hbd, rfl⟩ := (waits_mem ho').1 hj
          exact hall e hm hbd
        have hi' : i < n := by
          rcases Nat.lt_or_ge i n with h | h
          · exact h
          · exfalso
            refine hdone (fun j hj => ?_)
            have ht' := ht
            unfold tailOk at ht'
            rw [Bool.and_eq_true, List.all_eq_true] at ht'
            have h2 := ht'.1 i (List.mem_range.2 hil)
            rw [Bool.or_eq_true] at h2
            rcases h2 with h2 | h2
            · simp at h2; omega
            · rw [List.all_eq_true] at h2
              have h3 : j ∈ clos l 8 (waitsFor l i) := by simpa using h2 j (List.mem_range.2 (by omega))
              exact clos_ok (p := fun j => listed.getD j false = true) hcl 8 _ hw j h3
        have hst := step vs w i o hi' hM hb ho' (fun e hm hbd => hR e.on (by have := edges_at l 0 i o he ho' e hm hbd; omega) (hall e hm hbd))
        have next : ∀ (v : Value) (w' : World), R i v w' → Below w.heap.size w w' → wpAny P .any l.toArray Q fuel (listed.setIfInBounds i true) ((putAll vs 0 l a0).put o.dst v) w' := by
          intro v w' hv hbw
          have hM' : ∀ (d : Nat), ((l.take n).all fun o => o.dst != some d) = true → ((putAll vs 0 l a0).put o.dst v).tmps[d]? = a0.tmps[d]? := fun d hd => by
            rw [put_miss, hM d hd]
            rw [List.all_eq_true] at hd
            exact hd o (List.mem_of_getElem? (i := i) (by rw [List.getElem?_take, if_pos hi']; exact ho'))
          rw [putAll_upd l 0 i a0 o hn ho', Nat.zero_add] at hM' ⊢
          refine ih _ _ _ hM' (by simpa using hs) (by have := falses_set h1; omega) (fun j hjl hj => ?_) (fun j hj hjl => ?_) ?_ (hb.trans (hbw.mono hb.size))
          · by_cases hji : j = i
            · subst hji; simpa [updV] using hv
            · rw [getD_set_ne false (Ne.symm hji)] at hj
              unfold updV
              rw [if_neg hji]
              exact stable j _ w w' (hR j hjl hj) hbw
          · rw [getD_set_ne true (show i ≠ j by omega)]; exact h0 j hj hjl
          · intro j hj k hk
            have mono : ∀ m, listed.getD m false = true → (listed.setIfInBounds i true).getD m false = true := by
              intro m hm
              by_cases hmi : m = i
              · subst hmi
                have : m < listed.size := by omega
                simp [this]
              · rw [getD_set_ne false (Ne.symm hmi)]; exact hm
            by_cases hji : j = i
            · subst hji; exact mono k (hw k hk)
            · rw [getD_set_ne false (Ne.symm hji)] at hj
              exact mono k (hcl j hj k hk)
        unfold wpOp
        simp only [ho]
        split
        · rename_i hw
          rw [if_pos hw] at hst
          exact .inl (Oper.wp_mono (fun a' w' ⟨v, ha, hv, hbw⟩ => by rw [ha]; exact next v w' hv hbw) hst)
        · rename_i hw
          rw [if_neg hw] at hst
          exact next undef w hst (Below.refl _ _)
/-- The rule. -/
theorem wp_region_tail {id : Nat} (n : Nat) (hm : P.follows .mixedOrders = true) (hn : noDup l = true) (he : edgesB 0 l = true) (hnl : n < l.length) (ht : tailOk l n = true) (R : Nat → Value → World → Prop) (stable : ∀ i v w w', R i v w → Below w.heap.size w w' → R i v w')
    (step : ∀ (vs : Nat → Value) (w : World) (i : Nat) (o : Oper) (A : Act), i < n → FrameT l n vs a0 A → Below w0.heap.size w0 w → l[i]? = some o → (∀ e ∈ o.after, Region.binds .any e = true → R e.on (vs e.on) w) → StepGoal P l o A w (R i) Q)
    (last : ∀ (vs : Nat → Value) (w : World) (A : Act), A = putAll vs 0 l a0 → FrameT l n vs a0 A → Below w0.heap.size w0 w → (∀ i, i < n → R i (vs i) w) → wpTail P Q (l.drop n) A w) :
    (Code.region id l.toArray true).wp P Q a0 w0 := by
  refine wp_region_any hm ?_
  obtain ⟨vs, h⟩ := putAll_self (a0 := a0) l 0
  have hfl : falses (Array.replicate l.toArray.size false) = l.toArray.size := by simp [falses, List.countP_replicate]
  have hno : ∀ i, (Array.replicate l.toArray.size false).getD i false = true → False := by
    intro i hi
    by_cases h' : i < l.length
    · simp [h'] at hi
    · simp [h'] at hi
  have := wpAny_grow_tail (w0 := w0) (a0 := a0) (R := R) (Q := Q) hnl ht hn he stable (fun vs w i o hi hM hb ho hd => step vs w i o _ hi ⟨(frameIs_put hn vs).hit, hM⟩ hb ho hd) (fun vs w hM hb hR => last vs w _ rfl ⟨(frameIs_put hn vs).hit, hM⟩ hb hR)
    l.toArray.size (Array.replicate l.toArray.size false) vs { w0 with drawn := w0.drawn + 1 } (fun d _ => by rw [h]) (by simp) hfl (fun i _ hi => (hno i hi).elim) (fun i _ hi => by simp [hi]) (fun i hi => (hno i hi).elim) ⟨rfl, rfl, rfl, Nat.le_refl _, fun _ _ => rfl⟩
  rw [h] at this
  exact this
end
end Go.Proofs.YtgnilkjdpfbjgaaGreat
