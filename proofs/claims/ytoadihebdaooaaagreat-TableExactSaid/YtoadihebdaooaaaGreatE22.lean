/- How the arguments of the tables' laws are read: a schema, parts, deeds. · Contracts of retrofitref10.Bits, Is, Ids. -/
import Derived.Test.YtoadihebdaooaaaGreatE21
import Derived.ProofKit
import Derived.OpenShut
import Derived.Deep.Slices
import Derived.Deep.Fields
import Derived.Lib.SmallJoins
import Derived.Test.YtoadihebdaooaaaGreatE1
import Derived.Deep.DeepCutAuto
namespace Go.Proofs.YtoadihebdaooaaaGreat
open Go.ChangeShapes Go.WideShapes Go.RowKit Go.Deep
set_option linter.unusedVariables false
theorem list_of {α : Type} (P : Nat → α → Prop) : ∀ (len : Nat), (∀ i, i < len → ∃ x, P i x) → ∃ l : List α, l.length = len ∧ ∀ (i : Nat) (x : α), l[i]? = some x → P i x
  | 0, _ => ⟨[], rfl, fun i x h => by simp at h⟩
  | n + 1, h => by
    obtain ⟨l, hl, hp⟩ := list_of P n (fun i hi => h i (by omega))
    obtain ⟨x, hx⟩ := h n (by omega)
    refine ⟨l ++ [x], by simp [hl], fun i y hy => ?_⟩
    by_cases hi : i < n
    · rw [List.getElem?_append_left (by omega)] at hy; exact hp i y hy
    · have hlt := (List.getElem?_eq_some_iff.1 hy).1
      simp [hl] at hlt
      obtain rfl : i = n := by omega
      rw [List.getElem?_append_right (by omega), hl] at hy
      simp at hy
      subst hy; exact hx
section
variable {H : Type} {enc : TypeId × Value → H} {P : Program} {w : World} {base : Nat} {spare : Nat → Bool} {held : Bool}
/-- A slice of structs of one-cell fields: each field's cell, and its reading. -/
theorem open_elems {t e : TypeId} {fs : Array Field} {fuel : Nat} {cs : List Value} {x : DataW H × List MemPlace} (ht : P.underlying t = some (.slice e)) (he : P.underlying e = some (.struct fs)) (hone : oneCellFields P fs = true) (hC : P.cellsOf e = fs.size) (h0 : 0 < fs.size)
    (h : DataW.trod enc P w base spare held fuel t cs = some x) :
    cs = [.slice none 0 0] ∨ ∃ (b off : Nat) (sp : Option Nat) (len cap : Nat), cs = [.slice (some ⟨b, off, sp⟩) len cap] ∧ len ≤ maxLen ∧ (len ≤ cap ∧ cap ≤ maxLen) ∧ (0 < len → sp = none ∧ b < w.heap.size) ∧
      ∀ i, i < len → ∀ (j : Nat) (f : Field), fs[j]? = some f → ∃ (v : Value) (y : DataW H × List MemPlace) (n : Nat), w.cell? ⟨b, off + (i * fs.size + j), none⟩ = some v ∧ DataW.trod enc P w base spare held n f.type [v] = some y := by
  rcases open_slice ht h with ⟨h1, _⟩ | ⟨a, len, cap, m, n, D, Pl, hcs, hb, hl, hm, hmm, hx, hi⟩
  · exact .inl h1
  · obtain ⟨b, off, sp⟩ := a
    have hlm : len ≤ m := by rw [hmm]; split <;> omega
    have key : ∀ i, i < len → ∀ (j : Nat) (f : Field), fs[j]? = some f → ∃ (v : Value) (y : DataW H × List MemPlace) (n : Nat), w.cell? ((⟨b, off, sp⟩ : Addr).add (i * fs.size + j)) = some v ∧ DataW.trod enc P w base spare held n f.type [v] = some y := by
      intro i hil j f hf
      obtain ⟨cs', hc, ht'⟩ := hi i (by omega)
      rw [hC] at hc
      obtain ⟨_, hcl, hcell⟩ := World.cells?_some hc
      obtain ⟨xs, n', _, _, _, hxl, hall⟩ := DataW.trod_struct he ht'
      obtain ⟨ho, hc1⟩ := hone_of hone j f hf
      have hj : j < fs.size := (Array.getElem?_eq_some_iff.1 hf).1
      have hlt : j < cs'.length := by omega
      have ha := hall j f hf
      rw [ho, hc1, List.drop_eq_getElem_cons hlt] at ha
      simp only [List.take_succ_cons, List.take_zero] at ha
      have hxs : xs[j]? = some (xs[j]'(by omega)) := List.getElem?_eq_getElem (by omega)
      refine ⟨cs'[j], xs[j]'(by omega), n', ?_, ha.trans hxs⟩
      have := hcell j hj
      rw [List.getElem?_eq_getElem hlt] at this
      rw [← Go.Deep.add_add]
      exact this
    refine .inr ⟨b, off, sp, len, cap, hcs, by omega, ⟨hl, hm⟩, fun hpos => ?_, fun i hil j f hf => ?_⟩
    · obtain ⟨v, y, n', hv, _⟩ := key 0 hpos 0 fs[0] (Array.getElem?_eq_getElem h0)
      have e : (⟨b, off, sp⟩ : Addr).add (0 * fs.size + 0) = ⟨b, off, sp⟩ := by simp [Addr.add]
      rw [e] at hv
      exact ⟨World.cell?_spot hv, World.block_lt_of_cell? w _ hv⟩
    · obtain ⟨v, y, n', hv, ht'⟩ := key i hil j f hf
      refine ⟨v, y, n', ?_, ht'⟩
      obtain ⟨v0, y0, n0, hv0, _⟩ := key 0 (by omega) 0 fs[0] (Array.getElem?_eq_getElem h0)
      have e : (⟨b, off, sp⟩ : Addr).add (0 * fs.size + 0) = ⟨b, off, sp⟩ := by simp [Addr.add]
      rw [e] at hv0
      have hsp : sp = none := World.cell?_spot hv0
      subst hsp
      have hadd : (⟨b, off, none⟩ : Addr).add (i * fs.size + j) = ⟨b, off + (i * fs.size + j), none⟩ := by unfold Addr.add; split <;> simp_all
      rw [← hadd]; exact hv
end
section
variable {H : Type} {enc : TypeId × Value → H} {w : World} {base : Nat} {spare : Nat → Bool} {held : Bool}
theorem Tryz.one123 : ∃ fs, Tryz.prog.underlying 123 = some (.struct fs) ∧ oneCellFields Tryz.prog fs = true ∧ Tryz.prog.cellsOf 123 = fs.size ∧ fs.size = 3 ∧ (fs[0]?.map (·.type)) = some 9 ∧ (fs[1]?.map (·.type)) = some 121 ∧ (fs[2]?.map (·.type)) = some 3 :=
  ⟨_, Tryz.underlying123, by kernel_rfl, by kernel_rfl, rfl, rfl, rfl, rfl⟩
theorem Tryz.one112 : ∃ fs, Tryz.prog.underlying 112 = some (.struct fs) ∧ oneCellFields Tryz.prog fs = true ∧ Tryz.prog.cellsOf 112 = fs.size ∧ fs.size = 3 ∧ (fs[0]?.map (·.type)) = some 3 ∧ (fs[1]?.map (·.type)) = some 9 ∧ (fs[2]?.map (·.type)) = some 110 :=
  ⟨_, Tryz.underlying112, by kernel_rfl, by kernel_rfl, rfl, rfl, rfl, rfl⟩
theorem Tryz.one148 : ∃ fs, Tryz.prog.underlying 148 = some (.struct fs) ∧ oneCellFields Tryz.prog fs = true ∧ Tryz.prog.cellsOf 148 = fs.size ∧ fs.size = 3 ∧ (fs[0]?.map (·.type)) = some 4 ∧ (fs[1]?.map (·.type)) = some 60 ∧ (fs[2]?.map (·.type)) = some 60 :=
  ⟨_, Tryz.underlying148, by kernel_rfl, by kernel_rfl, rfl, rfl, rfl, rfl⟩
theorem Tryz.one85 : ∃ fs, Tryz.prog.underlying 85 = some (.struct fs) ∧ oneCellFields Tryz.prog fs = true ∧ Tryz.prog.cellsOf 85 = fs.size ∧ fs.size = 2 ∧ (fs[0]?.map (·.type)) = some 3 ∧ (fs[1]?.map (·.type)) = some 83 :=
  ⟨_, Tryz.underlying85, by kernel_rfl, by kernel_rfl, rfl, rfl, rfl⟩
theorem Tryz.one72 : ∃ fs, Tryz.prog.underlying 72 = some (.struct fs) ∧ oneCellFields Tryz.prog fs = true ∧ Tryz.prog.cellsOf 72 = fs.size ∧ fs.size = 4 ∧ (fs[0]?.map (·.type)) = some 3 ∧ (fs[1]?.map (·.type)) = some 3 ∧ (fs[2]?.map (·.type)) = some 60 ∧ (fs[3]?.map (·.type)) = some 70 :=
  ⟨_, Tryz.underlying72, by kernel_rfl, by kernel_rfl, rfl, rfl, rfl, rfl, rfl⟩
theorem field_of {fs : Array Field} {j : Nat} {t : TypeId} (h : (fs[j]?.map (·.type)) = some t) : ∃ f, fs[j]? = some f ∧ f.type = t := by
  cases hf : fs[j]? with
  | none => rw [hf] at h; cases h
  | some f => rw [hf] at h; exact ⟨f, rfl, Option.some.inj h⟩
theorem open_fields {fuel : Nat} {v : Value} {x : DataW H × List MemPlace} (h : DataW.trod enc Tryz.prog w base spare held fuel 110 [v] = some x) :
    ∃ a len cap fs, v = .slice a len cap ∧ FieldsAt w.heap.size w a len fs ∧ (a = none → len = 0 ∧ cap = 0) ∧ ∀ f ∈ fs, f.name.size ≤ maxLen := by
  obtain ⟨fds, hu, hone, hC, hsz, g0, g1, g2⟩ := Tryz.one123
  rcases open_elems Tryz.underlying110 hu hone hC (by omega) h with h1 | ⟨b, off, sp, len, cap, h1, hlm, hlc, hsp, hel⟩
  · cases h1
    exact ⟨none, 0, 0, [], rfl, ⟨rfl, by unfold maxLen; omega, .inl rfl⟩, fun _ => ⟨rfl, rfl⟩, by simp⟩
  · cases h1
    obtain ⟨f0, q0, r0⟩ := field_of g0
    obtain ⟨f1, q1, r1⟩ := field_of g1
    obtain ⟨f2, q2, r2⟩ := field_of g2
    obtain ⟨l, hl, hp⟩ := list_of (fun i (f : Fld) => w.cell? ⟨b, off + i * 3, none⟩ = some (.string f.name) ∧ w.cell? ⟨b, off + i * 3 + 1, none⟩ = some (.int .i64 f.kind) ∧ w.cell? ⟨b, off + i * 3 + 2, none⟩ = some (.int .i64 f.count) ∧ f.name.size ≤ maxLen) len (by
      intro i hi
      obtain ⟨v0, y0, n0, c0, t0⟩ := hel i hi 0 f0 q0
      obtain ⟨v1, y1, n1, c1, t1⟩ := hel i hi 1 f1 q1
      obtain ⟨v2, y2, n2, c2, t2⟩ := hel i hi 2 f2 q2
      rw [r0] at t0; rw [r1] at t1; rw [r2] at t2
      obtain ⟨s, e0, _, hs⟩ := DataW.trod_string Tryz.underlying9 t0
      obtain ⟨k, e1, _, hk⟩ := DataW.trod_int Tryz.underlying121 t1
      obtain ⟨c, e2, _, hc⟩ := DataW.trod_int Tryz.underlying3 t2
      cases e0; cases e1; cases e2
      rw [hsz] at c0 c1 c2
      exact ⟨⟨s, k, c⟩, c0, c1, c2, hs⟩)
    refine ⟨some ⟨b, off, sp⟩, len, cap, l, rfl, ⟨hl, hlm, ?_⟩, fun hh => by (cases hh), fun f hf => ?_⟩
    · by_cases h0 : len = 0
      · exact .inl h0
      · obtain ⟨rfl, hb⟩ := hsp (by omega)
        exact .inr ⟨b, off, rfl, hb, fun i f hf => ⟨(hp i f hf).1, (hp i f hf).2.1, (hp i f hf).2.2.1⟩⟩
    · obtain ⟨i, hi⟩ := List.getElem?_of_mem hf
      exact (hp i f hi).2.2.2
theorem open_comps {fuel : Nat} {v : Value} {x : DataW H × List MemPlace} (h : DataW.trod enc Tryz.prog w base spare held fuel 22 [v] = some x) :
    ∃ a len cap cs, v = .slice a len cap ∧ CompsAt w.heap.size w a len cs ∧ (a = none → len = 0 ∧ cap = 0) ∧ CompsWf cs := by
  obtain ⟨fds, hu, hone, hC, hsz, g0, g1, g2⟩ := Tryz.one112
  rcases open_elems Tryz.underlying22 hu hone hC (by omega) h with h1 | ⟨b, off, sp, len, cap, h1, hlm, hlc, hsp, hel⟩
  · cases h1
    exact ⟨none, 0, 0, [], rfl, ⟨rfl, by unfold maxLen; omega, .inl rfl⟩, fun _ => ⟨rfl, rfl⟩, by intro c hc; cases hc⟩
  · cases h1
    obtain ⟨f0, q0, r0⟩ := field_of g0
    obtain ⟨f1, q1, r1⟩ := field_of g1
    obtain ⟨f2, q2, r2⟩ := field_of g2
    obtain ⟨l, hl, hp⟩ := list_of (fun i (c : Cmp) => (w.cell? ⟨b, off + i * 3, none⟩ = some (.int .i64 c.id) ∧ w.cell? ⟨b, off + i * 3 + 1, none⟩ = some (.string c.name) ∧
        ∃ fa fl fc, w.cell? ⟨b, off + i * 3 + 2, none⟩ = some (.slice fa fl fc) ∧ FieldsAt w.heap.size w fa fl c.fields ∧ (fa = none → fl = 0 ∧ fc = 0)) ∧ c.name.size ≤ maxLen ∧ ∀ f ∈ c.fields, f.name.size ≤ maxLen) len (by
      intro i hi
      obtain ⟨v0, y0, n0, c0, t0⟩ := hel i hi 0 f0 q0
      obtain ⟨v1, y1, n1, c1, t1⟩ := hel i hi 1 f1 q1
      obtain ⟨v2, y2, n2, c2, t2⟩ := hel i hi 2 f2 q2
      rw [r0] at t0; rw [r1] at t1; rw [r2] at t2
      obtain ⟨k, e0, _, hk⟩ := DataW.trod_int Tryz.underlying3 t0
      obtain ⟨s, e1, _, hs⟩ := DataW.trod_string Tryz.underlying9 t1
      obtain ⟨fa, fl, fc, fs, e2, hF, hn, hfn⟩ := open_fields t2
      cases e0; cases e1; subst e2
      rw [hsz] at c0 c1 c2
      exact ⟨⟨k, s, fs⟩, ⟨c0, c1, fa, fl, fc, c2, hF, hn⟩, hs, hfn⟩)
    refine ⟨some ⟨b, off, sp⟩, len, cap, l, rfl, ⟨hl, hlm, ?_⟩, fun hh => by (cases hh), fun c hc => ?_⟩
    · by_cases h0 : len = 0
      · exact .inl h0
      · obtain ⟨rfl, hb⟩ := hsp (by omega)
        exact .inr ⟨b, off, rfl, hb, fun i c hc => (hp i c hc).1⟩
    · obtain ⟨i, hi⟩ := List.getElem?_of_mem hc
      exact (hp i c hi).2
theorem u32_of {n : Int} (h : (Lit.int .u32 n).wf = true) : 0 ≤ n ∧ n ≤ 4294967295 := by
  simpa [Lit.wf, IntKind.min, IntKind.max, IntKind.signed, IntKind.bits] using h
theorem u64_of {n : Int} (h : (Lit.int .u64 n).wf = true) : 0 ≤ n ∧ n ≤ 18446744073709551615 := by
  simpa [Lit.wf, IntKind.min, IntKind.max, IntKind.signed, IntKind.bits] using h
end
end Go.Proofs.YtoadihebdaooaaaGreat
namespace Go.Proofs.YtoadihebdaooaaaGreat
open Go.RowKit
set_option linter.unusedVariables false
/-- A bit of a number. -/
def bitAt (s : Int) (i : Nat) : Bool := s / 2 ^ i % 2 == 1
/-- The first k of 32 bits, the others not set. -/
def bitsK (s : Int) (k : Nat) : List Value := (List.range 32).map fun i => .bool (decide (i < k) && bitAt s i)
def bitsV (s : Int) : Array Value := (bitsK s 32).toArray
theorem bitsK_len (s : Int) (k : Nat) : (bitsK s k).length = 32 := by simp [bitsK]
theorem bitsK_get (s : Int) (k : Nat) {i : Nat} (h : i < 32) : (bitsK s k)[i]? = some (.bool (decide (i < k) && bitAt s i)) := by
  unfold bitsK; rw [List.getElem?_map, List.getElem?_range h]; rfl
theorem bitsV_get (s : Int) {i : Nat} (h : i < 32) : (bitsV s)[i]? = some (.bool (bitAt s i)) := by
  unfold bitsV
  rw [List.getElem?_toArray, bitsK_get s 32 h]; simp [h]
theorem bitsK_set (s : Int) (k : Nat) (h : k < 32) : (bitsK s k).set k (.bool (bitAt s k)) = bitsK s (k + 1) := by
  apply List.ext_getElem?
  intro i
  rw [List.getElem?_set]
  by_cases hi : i < 32
  · rw [bitsK_get _ _ hi, bitsK_get _ _ hi]
    by_cases hk : k = i
    · subst hk; rw [if_pos rfl, if_pos (by rw [bitsK_len]; omega)]; simp
    · rw [if_neg hk]
      congr 3
      have : (i < k) ↔ (i < k + 1) := by omega
      simp [this]
  · rw [List.getElem?_eq_none (by rw [bitsK_len]; omega), List.getElem?_eq_none (by rw [bitsK_len]; omega), if_neg (by omega)]
theorem bitsK_one (s : Int) (k : Nat) : (bitsK s k).toArray.all (·.oneCell') = true := by
  rw [Array.all_eq_true_iff_forall_mem]; intro v hv; simp [bitsK] at hv; obtain ⟨x, _, rfl⟩ := hv; rfl
def zerosB : Array Value := #[.bool false, .bool false, .bool false, .bool false, .bool false, .bool false, .bool false, .bool false, .bool false, .bool false, .bool false, .bool false, .bool false, .bool false, .bool false, .bool false, .bool false, .bool false, .bool false, .bool false, .bool false, .bool false, .bool false, .bool false, .bool false, .bool false, .bool false, .bool false, .bool false, .bool false, .bool false, .bool false]
theorem zerosBV : (#[.bool false, .bool false, .bool false, .bool false, .bool false, .bool false, .bool false, .bool false, .bool false, .bool false, .bool false, .bool false, .bool false, .bool false, .bool false, .bool false, .bool false, .bool false, .bool false, .bool false, .bool false, .bool false, .bool false, .bool false, .bool false, .bool false, .bool false, .bool false, .bool false, .bool false, .bool false, .bool false] : Array Value) = zerosB := rfl
theorem zerosB_eq (s : Int) : zerosB = (bitsK s 0).toArray := by
  unfold bitsK zerosB
  simp [List.range, List.range.loop]
theorem zerosB_one : zerosB.all (·.oneCell') = true := by
  rw [Array.all_eq_true_iff_forall_mem]; intro v hv; simp [zerosB] at hv; subst hv; rfl
theorem Tryz.size167 : (Tryz.prog.info? 167).map (·.size) = some 32 := by kernel_rfl
theorem pow_nn (k : Nat) : (0 : Int) ≤ 2 ^ k := by
  induction k with
  | zero => simp
  | succ k ih => rw [Int.pow_succ]; omega
theorem shift_succ (s : Int) (k : Nat) : s / 2 ^ (k + 1) = s / 2 ^ k / 2 := by
  rw [Int.pow_succ, Int.ediv_ediv_of_nonneg (pow_nn k)]
theorem shift_bd {s : Int} (h0 : 0 ≤ s) (hs : s ≤ 4294967295) (k : Nat) : 0 ≤ s / 2 ^ k ∧ s / 2 ^ k ≤ 4294967295 := by
  induction k with
  | zero => simp; omega
  | succ k ih => rw [shift_succ]; omega
theorem bset {s : Int} {k : Nat} {ub : Nat} {w : World} (hk : k < 32) (h : w.heap[ub]? = some (.cells (bitsK s k).toArray 167 (0, 0))) : (w.setCell ⟨ub, k, none⟩ (.bool (bitAt s k))).heap[ub]? = some (.cells (bitsK s (k + 1)).toArray 167 (0, 0)) := by
  rw [hset _ _ _ _ _ _ _ h, List.setIfInBounds_toArray, bitsK_set _ _ hk]
set_option maxRecDepth 100000 in
set_option maxHeartbeats 1000000 in
theorem bits10_any (s : Int) (w : World) (h0 : 0 ≤ s) (hs : s ≤ 4294967295) : Calls Tryz.prog 87 #[.int .u32 s] w fun e w' => e = .returned (.agg (bitsV s)) ∧ Below w.heap.size w w' := by
  have hR0 := keepA (.cells zerosB 167) (heap_alloc_new w (.cells zerosB 167))
  have hU0 := heap_alloc_new (w.alloc (.cells zerosB 167)) (.cells zerosB 167)
  have hi0 : (Tryz.prog.info? 167).map (·.size) = some zerosB.size := Tryz.size167
  rw [World.size_alloc] at hU0
  have hbel0 : Below w.heap.size w ((w.alloc (.cells zerosB 167)).alloc (.cells zerosB 167)) := by go_grown
  have HB := Lib.hid (And.intro hR0 (And.intro hU0 (And.intro hi0 hbel0)))
  clear hR0 hU0 hi0 hbel0
  go_enter Tryz.func87, Tryz.ntmps87
  go_wp2_with (first | (refine wpList_store_row rfl 167 (.tmp 3) (.tmp 5) rfl (w.heap.size + 1) zerosB rfl rfl 167 zerosB HB.out.2.1 HB.out.2.2.1 rfl zerosB_one ?_))
  rw [zerosBV]
  obtain ⟨hR, hU, hi, hbel⟩ := HB.out
  clear HB
  have hR := (setRow_other _ (w.heap.size + 1) w.heap.size zerosB (by omega)).trans hR
  have hU := setRow_heap _ (w.heap.size + 1) zerosB zerosB _ _ hU
  have hbel := below_setRow hbel (by omega : w.heap.size ≤ w.heap.size + 1) zerosB
  generalize ((w.alloc (.cells zerosB 167)).alloc (.cells zerosB 167)).setRow (w.heap.size + 1) zerosB = W at hR hU hbel ⊢
  rw [zerosB_eq s] at hU
  generalize hub : w.heap.size + 1 = ub at *
  have nub : w.heap.size < ub := by omega
  have HI := Lib.hid (And.intro hR (And.intro hU hbel))
  have HNU := Lib.hid nub
  clear hR hU hbel hub nub
  go_loopw [0, 4] (fun x i wr => ∃ k : Nat, k ≤ 32 ∧ x = .int .u32 (s / 2 ^ k) ∧ i = .int .i64 k ∧ wr.heap[w.heap.size]? = some (.cells zerosB 167 (0, 0)) ∧ wr.heap[ub]? = some (.cells (bitsK s k).toArray 167 (0, 0)) ∧ Below w.heap.size w wr) (fun _ i _ => 32 - (intOf i).toNat)
  case atStart => exact ⟨0, by omega, by simp, rfl, HI.out.1, HI.out.2.1, HI.out.2.2⟩
  case round =>
    obtain ⟨k, hk, rfl, rfl, hR, hU, hbw⟩ := hrel
    have hsb := shift_bd h0 hs k
    have hsc := Lib.hid (shift_succ s k)
    by_cases hlt : k < 32
    · have hbs := bset hlt hU
      have f1 := free_at hU k
      have c1 := (cell_at hU k).trans (show (bitsK s k).toArray[k]? = _ by rw [List.getElem?_toArray, bitsK_get s k hlt])
      have i1 : (0 : Int) ≤ (k : Int) := by omega
      have i2 : (k : Int) < 32 := by omega
      have HH := Lib.hid (And.intro hR (And.intro hbs hbw))
      unfold bitAt at hbs
      clear hR hU hbw hbs
      obtain ⟨q0, q1⟩ := hsb
      have HQ : Hid (bitAt s k = (s / 2 ^ k % 2 == 1)) := Lib.hid rfl
      generalize s / 2 ^ k = q at *
      have hm := Int.tmod_eq_emod_of_nonneg (a := q) (b := 2) q0
      have hd := Int.tdiv_eq_ediv_of_nonneg (a := q) (b := 2) q0
      go_wp2_with fail
      go_roundw
      case rel =>
        refine ⟨k + 1, by omega, by rw [hsc.out], by go_num, ?_, ?_, HH.out.2.2.setCell (by have := HNU.out; simp; omega) _⟩
        · rw [hset_ne _ _ _ _ (by have := HNU.out; simp; omega)]; exact HH.out.1
        · have h := HH.out.2.1; rw [HQ.out] at h; exact h
      case measure => simp [intOf]; omega
    · obtain rfl : k = 32 := by omega
      have hsz : (bitsV s).size = 32 := by simp [bitsV, bitsK_len]
      have hi : (Tryz.prog.info? 167).map (·.size) = some (bitsV s).size := by rw [hsz]; exact Tryz.size167
      have hs2 : zerosB.size = (bitsV s).size := by rw [hsz]; rfl
      have HT := Lib.hid (setRow_heap wr w.heap.size zerosB (bitsV s) 167 (0, 0) hR)
      have HS := Lib.hid (And.intro (show wr.heap[ub]? = some (.cells (bitsV s) 167 (0, 0)) from hU) (And.intro hR (And.intro hi (And.intro hs2 hbw))))
      clear hU hR hi hs2 hbw hsz hsb
      go_wp2_with (first | (refine wpList_load_row rfl 167 (.tmp 3) rfl ub rfl 167 (bitsV s) (0, 0) _ HS.out.1 Tryz.underlying167 rfl HS.out.2.2.1 ?_) | (refine wpList_store_row rfl 167 (.tmp 2) (.tmp 17) rfl w.heap.size (bitsV s) rfl rfl 167 zerosB HS.out.2.1 HS.out.2.2.1 HS.out.2.2.2.1 (bitsK_one s 32) ?_))
      refine bodyPost_ret (v := .agg (bitsV s)) (results_cell_row rfl _ _ w.heap.size 167 (bitsV s) (0, 0) _ rfl HT.out Tryz.underlying167 rfl HS.out.2.2.1) rfl ⟨rfl, ?_⟩
      exact below_setRow HS.out.2.2.2.2 (Nat.le_refl _) _
/-- No bit beside 1 to 24. -/
def is10 (s : Int) : Bool := (List.range 32).all fun i => !(bitAt s i) || decide (1 ≤ i ∧ i ≤ 24)
/-- The ids from 1 to m. -/
def ids10 (s : Int) (m : Nat) : List Int := ((List.range m).map fun (j : Nat) => (j : Int) + 1).filter fun i => bitAt s i.toNat
theorem ids10_succ (s : Int) (m : Nat) : ids10 s (m + 1) = ids10 s m ++ if bitAt s (m + 1) then [(m : Int) + 1] else [] := by
  unfold ids10
  rw [List.range_succ, List.map_append, List.filter_append]
  have : ((m : Int) + 1).toNat = m + 1 := by omega
  simp [List.filter_cons, this]
theorem ids10_len (s : Int) (m : Nat) : (ids10 s m).length ≤ m := by
  unfold ids10
  have := List.length_filter_le (fun i => bitAt s i.toNat) ((List.range m).map fun (j : Nat) => (j : Int) + 1)
  simpa using this
set_option maxRecDepth 100000 in
set_option maxHeartbeats 1000000 in
theorem is10_any (s : Int) (w : World) (h0 : 0 ≤ s) (hs : s ≤ 4294967295) : Calls Tryz.prog 65 #[.int .u32 s] w fun e w' => e = .returned (.bool (is10 s)) ∧ Below w.heap.size w w' := by
  go_enter Tryz.func65, Tryz.ntmps65
  go_wp2_with fail
  refine (bits10_any s _ h0 hs).mono ?_
  rintro e w1 ⟨rfl, hb1⟩
  have hz1 := hb1.size
  have hsz : (bitsV s).size = 32 := by simp [bitsV, bitsK_len]
  have hi : (Tryz.prog.info? 167).map (·.size) = some (bitsV s).size := by rw [hsz]; exact Tryz.size167
  have hs2 : zerosB.size = (bitsV s).size := by rw [hsz]; rfl
  have hU0 := heap_alloc_new w1 (.cells zerosB 167)
  have hU := setRow_heap _ w1.heap.size zerosB (bitsV s) _ _ hU0
  have hbw : Below w.heap.size w ((w1.alloc (.cells zerosB 167)).setRow w1.heap.size (bitsV s)) := below_setRow (hb1.alloc hz1 _) hz1 _
  have HS := Lib.hid (And.intro hU0 (And.intro hi hs2))
  have HU := Lib.hid (And.intro hU hbw)
  clear hU0 hi hs2 hU hbw hsz hb1
  go_wp2_with (first | (refine wpList_store_row rfl 167 (.tmp 3) (.tmp 6) rfl w1.heap.size (bitsV s) rfl rfl 167 zerosB HS.out.1 HS.out.2.1 HS.out.2.2 (bitsK_one s 32) ?_))
  rw [zerosBV]
  obtain ⟨hU, hbw⟩ := HU.out
  clear HU HS
  generalize (w1.alloc (.cells zerosB 167)).setRow w1.heap.size (bitsV s) = W at *
  generalize w1.heap.size = ub at *
  go_loop [4] (fun i => ∃ k : Nat, k ≤ 32 ∧ i = .int .i64 k ∧ ∀ j, j < k → (!(bitAt s j) || decide (1 ≤ j ∧ j ≤ 24)) = true) (fun i => 32 - (intOf i).toNat)
  case atStart => exact ⟨0, by omega, rfl, fun j h => by omega⟩
  case round =>
    obtain ⟨k, hk, rfl, hall⟩ := hrel
    have HA := Lib.hid hall
    clear hall
    by_cases hlt : k < 32
    · have c1 := (cell_at hU k).trans (bitsV_get s hlt)
      have i1 : (0 : Int) ≤ (k : Int) := by omega
      have i2 : (k : Int) < 32 := by omega
      cases hb : bitAt s k
      · rw [hb] at c1
        have HB := Lib.hid hb
        clear hb
        go_wp2_with fail
        go_round
        case rel =>
          refine ⟨k + 1, by omega, by go_num, fun j hj => ?_⟩
          rcases (by omega : j < k ∨ j = k) with h | rfl
          · exact HA.out j h
          · rw [HB.out]; rfl
        case measure => simp [intOf]; omega
      · rw [hb] at c1
        have HB := Lib.hid hb
        clear hb
        rcases (by omega : k < 1 ∨ (1 ≤ k ∧ 24 < k) ∨ (1 ≤ k ∧ k ≤ 24)) with h | ⟨h, h'⟩ | ⟨h, h'⟩
        · have H : Hid (is10 s = false) := Lib.hid (by
            unfold is10; rw [List.all_eq_false]; exact ⟨k, List.mem_range.2 hlt, by rw [HB.out]; simp; omega⟩)
          have t1 : (k : Int) < 1 := by omega
          go_wp2_with fail
          go_returns
          exact ⟨ret_bool H.out.symm, hbw⟩
        · have H : Hid (is10 s = false) := Lib.hid (by
            unfold is10; rw [List.all_eq_false]; exact ⟨k, List.mem_range.2 hlt, by rw [HB.out]; simp; omega⟩)
          have t1 : ¬ (k : Int) < 1 := by omega
          have t2 : (24 : Int) < (k : Int) := by omega
          go_wp2_with fail
          go_returns
          exact ⟨ret_bool H.out.symm, hbw⟩
        · have t1 : ¬ (k : Int) < 1 := by omega
          have t2 : ¬ (24 : Int) < (k : Int) := by omega
          go_wp2_with fail
          go_round
          case rel =>
            refine ⟨k + 1, by omega, by go_num, fun j hj => ?_⟩
            rcases (by omega : j < k ∨ j = k) with h | rfl
            · exact HA.out j h
            · simp; omega
          case measure => simp [intOf]; omega
    · obtain rfl : k = 32 := by omega
      have H : Hid (is10 s = true) := Lib.hid (by
        unfold is10; rw [List.all_eq_true]; exact fun j hj => HA.out j (List.mem_range.1 hj))
      go_wp2_with fail
      go_returns
      exact ⟨ret_bool H.out.symm, hbw⟩
/-- The answer of Ids. -/
def IsIds10 (s : Int) (w : World) (e : Ending) (w' : World) : Prop :=
  ∃ va n vc, e = .returned (.slice va n vc) ∧ n = (ids10 s 24).length ∧ w'.ownsRow w.heap.size 3 1 (.slice va n vc) n ((ids10 s 24).map (.int .i64)) ∧ Below w.heap.size w w'
set_option maxRecDepth 100000 in
set_option maxHeartbeats 1000000 in
theorem ids10_any (s : Int) (w : World) (h0 : 0 ≤ s) (hs : s ≤ 4294967295) : Calls Tryz.prog 47 #[.int .u32 s] w (IsIds10 s w) := by
  obtain ⟨i0, hi, hz0, hz1, hz2⟩ := info_parts Tryz.info3
  go_enter Tryz.func47, Tryz.ntmps47
  go_wp2_with fail
  refine (bits10_any s _ h0 hs).mono ?_
  rintro e w1 ⟨rfl, hb1⟩
  have hzw := hb1.size
  have hsz : (bitsV s).size = 32 := by simp [bitsV, bitsK_len]
  have hi0 : (Tryz.prog.info? 167).map (·.size) = some (bitsV s).size := by rw [hsz]; exact Tryz.size167
  have hs2 : zerosB.size = (bitsV s).size := by rw [hsz]; rfl
  have hU0 := heap_alloc_new w1 (.cells zerosB 167)
  have hU := setRow_heap _ w1.heap.size zerosB (bitsV s) _ _ hU0
  have hbw : Below w.heap.size w ((w1.alloc (.cells zerosB 167)).setRow w1.heap.size (bitsV s)) := below_setRow (hb1.alloc hzw _) hzw _
  have hzz : w1.heap.size < ((w1.alloc (.cells zerosB 167)).setRow w1.heap.size (bitsV s)).heap.size := lt_some hU
  have HS := Lib.hid (And.intro hU0 (And.intro hi0 hs2))
  have HU := Lib.hid (And.intro hU hbw)
  clear hU0 hi0 hs2 hU hbw hsz hb1
  go_upto_region 2 with (first | (refine wpList_store_row rfl 167 (.tmp 3) (.tmp 7) rfl w1.heap.size (bitsV s) rfl rfl 167 zerosB HS.out.1 HS.out.2.1 HS.out.2.2 (bitsK_one s 32) ?_))
  rw [zerosBV]
  obtain ⟨hU, hbw⟩ := HU.out
  clear HU HS
  generalize (w1.alloc (.cells zerosB 167)).setRow w1.heap.size (bitsV s) = W at *
  generalize w1.heap.size = ub at *
  have hrow := World.ownsRow_lit (base := w.heap.size) (e := 3) (size := 1) W #[] 0 hbw.size (by unfold maxLen; omega) rfl
  have HI := Lib.hid (And.intro (keepA (.cells #[] 3) hU) (And.intro hrow (hbw.alloc hbw.size (.cells #[] 3))))
  clear hU hbw hrow
  go_wp2_with fail
  go_loopw [4, 5] (fun v i wr => ∃ (k : Nat) (va : Option Addr) (n vc : Nat), k ≤ 24 ∧ i = .int .i64 ((k : Int) + 1) ∧ v = .slice va n vc ∧ n = (ids10 s k).length ∧ n ≤ 24 ∧ wr.heap[ub]? = some (.cells (bitsV s) 167 (0, 0)) ∧ wr.ownsRow w.heap.size 3 1 (.slice va n vc) n ((ids10 s k).map (.int .i64)) ∧ Below w.heap.size w wr)
    (fun _ i _ => 30 - (intOf i).toNat)
  case atStart => exact ⟨0, _, 0, _, by omega, rfl, rfl, rfl, by omega, HI.out.1, HI.out.2.1, HI.out.2.2⟩
  case round =>
    obtain ⟨k, va, n, vc, hk, rfl, rfl, hn, hn24, hU, hown, hbw⟩ := hrel
    have hzr := hbw.size
    by_cases hlt : k < 24
    · have hd1 : decide ((k : Int) + 1 ≤ 24) = true := by simp; omega
      have hsuc := Lib.hid (ids10_succ s k)
      have HLEN := Lib.hid (ids10_len s (k + 1))
      have c1 := (cell_at hU (k + 1)).trans (bitsV_get s (by omega))
      have i1 : (0 : Int) ≤ (k : Int) + 1 := by omega
      have i2 : (k : Int) + 1 < 32 := by omega
      have i3 : ((k : Int) + 1).toNat = k + 1 := by omega
      have HN := Lib.hid hn
      clear hn
      cases hb : bitAt s (k + 1)
      · rw [hb] at c1
        have HS : Hid (ids10 s (k + 1) = ids10 s k) := Lib.hid (by rw [hsuc.out, hb]; simp)
        have HH := Lib.hid (And.intro hU (And.intro hown hbw))
        clear hb hU hown hbw
        go_wp2_with fail
        go_roundw
        case rel => exact ⟨k + 1, va, n, vc, by omega, by go_num, rfl, by rw [HS.out]; exact HN.out, hn24, HH.out.1, by rw [HS.out]; exact HH.out.2.1, HH.out.2.2⟩
        case measure => simp [intOf]; omega
      · rw [hb] at c1
        have HS : Hid (ids10 s (k + 1) = ids10 s k ++ [(k : Int) + 1]) := Lib.hid (by rw [hsuc.out, hb]; simp)
        clear hb
        have hn24' : n + 1 ≤ 24 := by have := HLEN.out; rw [HS.out] at this; simp at this; have := HN.out; omega
        have hownA := hown.alloc (.cells #[.int .i64 ((k : Int) + 1)] 3)
        have HH := Lib.hid (And.intro hU hbw)
        clear hU hbw
        go_wp2_with (at_builtin; go_loud (refine wpList_append_own _ rfl (.tmp 16) (.tmp 18) 95 rfl w.heap.size 3 i0 (.int .i64 0) 1 8 Tryz.underlying95 hi hz0 hz1 hz2 rfl (by decide) (.slice va n vc) n ((ids10 s k).map (.int .i64)) rfl hownA ⟨wr.heap.size, 0, none⟩ 1 1 [.int .i64 ((k : Int) + 1)] rfl rfl (cell_one_new _ _ _) (ints_oneCell .i64 [(k : Int) + 1]) (by unfold maxLen; omega) (by omega) (by simp; omega) ?_))
        intro v' w2 hown2 hg2 _
        obtain ⟨va', vc', hv'⟩ := ownsRow_slice hown2
        rw [hv'] at hown2 ⊢
        clear hv'
        have hrow : ∀ x, (Value.slice va n vc).ownBlock = some x → w.heap.size ≤ x := fun x hx => (hown.lt x hx).1
        have hbel : Below w.heap.size w w2 := (HH.out.2.alloc hzr _).grown hg2 (by simp; omega) hrow
        have hU2 := keepG hg2 (keepA (.cells #[.int .i64 ((k : Int) + 1)] 3) HH.out.1) (ownsRow_ne_block3 hownA (keepA (.cells #[.int .i64 ((k : Int) + 1)] 3) HH.out.1) (fun cur hc => by cases hc))
        have HO := Lib.hid (And.intro hown2 (And.intro hU2 hbel))
        clear hown2 hown hownA hg2 hrow hU2 hbel HH
        go_wp2_with fail
        go_roundw
        case rel => exact ⟨k + 1, va', n + 1, vc', by omega, by go_num, rfl, by rw [HS.out]; simp; exact HN.out, hn24', HO.out.2.1, by rw [HS.out, List.map_append]; exact HO.out.1, HO.out.2.2⟩
        case measure => simp [intOf]; omega
    · obtain rfl : k = 24 := by omega
      have hd1 : decide (((24 : Nat) : Int) + 1 ≤ 24) = false := by simp
      have HN := Lib.hid hn
      clear hn hU
      go_wp2_with fail
      go_returns
      exact ⟨va, n, vc, rfl, HN.out, hown, hbw⟩
end Go.Proofs.YtoadihebdaooaaaGreat
