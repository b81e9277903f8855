/- Contracts of the two slices.Clone. · Contract of schema.Clone. · Contract of schema.Clone, the walk. · Contracts of schema.Find and what it calls. -/
import Derived.Test.YtoadihebdaooaaaGreatE2
import Derived.Deep.RegionHeld3
import Derived.Deep.RegionWith
import Derived.BigRegion
namespace Go.Proofs.YtoadihebdaooaaaGreat
open Go.RowKit
set_option linter.unusedVariables false
theorem Tryz.info123 : (Tryz.prog.info? 123).map (fun i => (i.zero, i.size, i.bytes)) = some (some (.agg #[.string ByteArray.empty, .int .i64 0, .int .i64 0]), 3, 32) := by kernel_rfl
theorem Tryz.info112 : (Tryz.prog.info? 112).map (fun i => (i.zero, i.size, i.bytes)) = some (some (.agg #[.int .i64 0, .string ByteArray.empty, .slice none 0 0]), 3, 48) := by kernel_rfl
/-- Cells, three a place, as one list. -/
theorem flat3 {α : Type} (c0 c1 c2 : α → Value) : ∀ (l : List α) (i : Nat) (x : α), l[i]? = some x →
    (l.flatMap fun x => [c0 x, c1 x, c2 x])[i * 3]? = some (c0 x) ∧ (l.flatMap fun x => [c0 x, c1 x, c2 x])[i * 3 + 1]? = some (c1 x) ∧ (l.flatMap fun x => [c0 x, c1 x, c2 x])[i * 3 + 2]? = some (c2 x)
  | [], i, x, h => by simp at h
  | y :: r, 0, x, h => by simp at h; subst h; simp
  | y :: r, i + 1, x, h => by
    have ih := flat3 c0 c1 c2 r i x (by simpa using h)
    have e : (i + 1) * 3 = i * 3 + 3 := by omega
    simp only [List.flatMap_cons, e]
    refine ⟨?_, ?_, ?_⟩
    · rw [List.getElem?_append_right (by simp)]; simpa using ih.1
    · rw [List.getElem?_append_right (by simp)]; simpa [show i * 3 + 3 + 1 - 3 = i * 3 + 1 by omega] using ih.2.1
    · rw [List.getElem?_append_right (by simp)]; simpa [show i * 3 + 3 + 2 - 3 = i * 3 + 2 by omega] using ih.2.2
theorem flat3_len {α : Type} (c0 c1 c2 : α → Value) (l : List α) : (l.flatMap fun x => [c0 x, c1 x, c2 x]).length = l.length * 3 := by
  induction l with
  | nil => rfl
  | cons a l ih => simp only [List.flatMap_cons, List.length_append, ih]; simp; omega
theorem flat3_at {α : Type} (c0 c1 c2 : α → Value) (l : List α) (j : Nat) (u : Value) (h : (l.flatMap fun x => [c0 x, c1 x, c2 x])[j]? = some u) :
    ∃ i x, l[i]? = some x ∧ ((j = i * 3 ∧ u = c0 x) ∨ (j = i * 3 + 1 ∧ u = c1 x) ∨ (j = i * 3 + 2 ∧ u = c2 x)) := by
  have hj : j < l.length * 3 := by rw [← flat3_len c0 c1 c2]; exact (List.getElem?_eq_some_iff.1 h).1
  have hi : j / 3 < l.length := by omega
  obtain ⟨h0, h1, h2⟩ := flat3 c0 c1 c2 l (j / 3) l[j / 3] (List.getElem?_eq_getElem hi)
  refine ⟨j / 3, l[j / 3], List.getElem?_eq_getElem hi, ?_⟩
  rcases (by omega : j = j / 3 * 3 ∨ j = j / 3 * 3 + 1 ∨ j = j / 3 * 3 + 2) with e | e | e
  · rw [e] at h; rw [h0] at h; exact .inl ⟨e, (Option.some.inj h).symm⟩
  · rw [e] at h; rw [h1] at h; exact .inr (.inl ⟨e, (Option.some.inj h).symm⟩)
  · rw [e] at h; rw [h2] at h; exact .inr (.inr ⟨e, (Option.some.inj h).symm⟩)
def fldCells (fs : List Fld) : List Value := fs.flatMap fun f => [.string f.name, .int .i64 f.kind, .int .i64 f.count]
/-- The answer of slices.Clone: nil stays nil; else a row of one's own. -/
def IsClone (e : TypeId) (a : Option Addr) (len : Nat) (cells : List Value) (w : World) (en : Ending) (w' : World) : Prop :=
  ∃ va vc, en = .returned (.slice va len vc) ∧ w'.ownsRow w.heap.size e 3 (.slice va len vc) len cells ∧ Below w.heap.size w w' ∧ (va = none → len = 0 ∧ vc = 0)
theorem FieldsAt.cells {B : Nat} {w : World} {b off len : Nat} {fs : List Fld} (h : FieldsAt B w (some ⟨b, off, none⟩) len fs) :
    ∀ j u, (fldCells fs)[j]? = some u → w.cell? ((⟨b, off, none⟩ : Addr).add j) = some u := by
  intro j u hu
  obtain ⟨h1, h2, h3⟩ := h
  obtain ⟨i, x, hx, hc⟩ := flat3_at _ _ _ fs j u hu
  have hadd : (⟨b, off, none⟩ : Addr).add j = ⟨b, off + j, none⟩ := by unfold Addr.add; split <;> simp_all
  rw [hadd]
  rcases h3 with h3 | ⟨b', off', ha, hB, hcell⟩
  · have := (List.getElem?_eq_some_iff.1 hx).1
    omega
  · cases ha
    obtain ⟨c0, c1, c2⟩ := hcell i x hx
    rcases hc with ⟨rfl, rfl⟩ | ⟨rfl, rfl⟩ | ⟨rfl, rfl⟩
    · exact c0
    · exact c1
    · exact c2
theorem fldCells_one (fs : List Fld) : ∀ u ∈ fldCells fs, u.oneCell' = true := by
  intro u hu
  simp only [fldCells, List.mem_flatMap] at hu
  obtain ⟨f, _, hf⟩ := hu
  simp at hf
  rcases hf with rfl | rfl | rfl <;> rfl
set_option maxRecDepth 100000 in
set_option maxHeartbeats 400000 in
theorem cloneFields_any (a : Option Addr) (len cap : Nat) (w : World) (hl : len ≤ 100000) (hn : a = none → len = 0 ∧ cap = 0) (cells : List Value) (hcl : cells.length = len * 3)
    (hc : ∀ ad, a = some ad → ∀ j u, cells[j]? = some u → w.cell? (ad.add j) = some u) (h1 : ∀ u ∈ cells, u.oneCell' = true) :
    Calls Tryz.prog 96 #[.slice a len cap] w (IsClone 123 a len cells w) := by
  obtain ⟨i0, hi, hz0, hz1, hz2⟩ := info_parts Tryz.info123
  have hnn := fun (wx : World) (a : Option Addr) (n c : Nat) => Lib.run_eql_slice_nil (P := Tryz.prog) wx 110 123 a n c 0 0 Tryz.underlying110
  cases a with
  | none =>
    obtain ⟨rfl, rfl⟩ := hn rfl
    go_enter Tryz.func96, Tryz.ntmps96
    go_wp2
    go_returns
    exact ⟨none, 0, rfl, ⟨by simpa using hcl, .inl ⟨rfl, rfl⟩⟩, Below.refl _ _, fun _ => ⟨rfl, rfl⟩⟩
  | some ad =>
    have hcc : ∀ j u, cells[j]? = some u → (w.alloc (.cells #[] 123)).cell? (ad.add j) = some u := fun j u hu => by
      have h := hc ad rfl j u hu
      have hb := World.block_lt_of_cell? w _ h
      rw [World.cell?_of_block (w := w) (by rw [halloc, if_neg (by omega)])]
      exact h
    have hown : (w.alloc (.cells #[] 123)).ownsRow w.heap.size 123 3 (.slice (some ⟨w.heap.size, 0, none⟩) 0 0) 0 [] := World.ownsRow_made w #[] 0 (Nat.le_refl _) (by simp) (by simp)
    go_enter Tryz.func96, Tryz.ntmps96
    go_wp2_with (at_builtin; refine wpList_append_own _ rfl (.tmp 5) (.tmp 6) 110 rfl w.heap.size 123 i0 (.agg #[.string ByteArray.empty, .int .i64 0, .int .i64 0]) 3 32 Tryz.underlying110 hi hz0 hz1 hz2 rfl (by decide) (.slice (some ⟨w.heap.size, 0, none⟩) 0 0) 0 [] rfl hown ad len cap cells rfl hcl hcc h1 (by unfold maxLen; omega) (by omega) (by simp) ?_)
    intro v' w1 hown1 hg1 hnil
    obtain ⟨va, vc, hv⟩ := ownsRow_slice hown1
    rw [hv] at hown1 hnil ⊢
    clear hv
    have hbel : Below w.heap.size w w1 := ((Below.refl _ w).alloc (Nat.le_refl _) _).grown hg1 (by simp) (fun x hx => by simp [Value.ownBlock] at hx; omega)
    have HO := Lib.hid hown1
    have HN : Hid (va = none → len = 0 ∧ vc = 0) := Lib.hid (by
      intro h; subst h
      rcases hown1.2 with ⟨h2, _⟩ | ⟨g, cap', cur, hv, _⟩
      · cases h2; exact ⟨by omega, rfl⟩
      · cases hv)
    clear hown1 hnil
    go_wp2
    go_returns
    exact ⟨va, vc, rfl, HO.out, hbel, HN.out⟩
end Go.Proofs.YtoadihebdaooaaaGreat
namespace Go.Proofs.YtoadihebdaooaaaGreat
open Go.RowKit
set_option linter.unusedVariables false
/-- A slice of fields that lies in blocks of S. -/
def FieldsOn (S : Nat → Prop) (w : World) (a : Option Addr) (len : Nat) (fs : List Fld) : Prop :=
  fs.length = len ∧ len ≤ maxLen ∧ (len = 0 ∨ ∃ b off, a = some ⟨b, off, none⟩ ∧ S b ∧ ∀ (i : Nat) (f : Fld), fs[i]? = some f →
    w.cell? ⟨b, off + i * 3, none⟩ = some (.string f.name) ∧ w.cell? ⟨b, off + i * 3 + 1, none⟩ = some (.int .i64 f.kind) ∧ w.cell? ⟨b, off + i * 3 + 2, none⟩ = some (.int .i64 f.count))
theorem FieldsAt.on {B : Nat} {w : World} {a : Option Addr} {len : Nat} {fs : List Fld} (h : FieldsAt B w a len fs) : FieldsOn (· < B) w a len fs := h
theorem FieldsOn.imp {S S' : Nat → Prop} {w w' : World} {a : Option Addr} {len : Nat} {fs : List Fld} (h : FieldsOn S w a len fs) (hS : ∀ b, S b → S' b ∧ w'.heap[b]? = w.heap[b]?) : FieldsOn S' w' a len fs := by
  obtain ⟨h1, h2, h3⟩ := h
  refine ⟨h1, h2, ?_⟩
  rcases h3 with h3 | ⟨b, off, ha, hB, hc⟩
  · exact .inl h3
  · obtain ⟨q, e⟩ := hS b hB
    refine .inr ⟨b, off, ha, q, fun i f hf => ?_⟩
    obtain ⟨c0, c1, c2⟩ := hc i f hf
    exact ⟨(World.cell?_of_block (w := w) e).trans c0, (World.cell?_of_block (w := w) e).trans c1, (World.cell?_of_block (w := w) e).trans c2⟩
theorem FieldsOn.cells {S : Nat → Prop} {w : World} {a : Option Addr} {len : Nat} {fs : List Fld} (h : FieldsOn S w a len fs) :
    ∀ ad, a = some ad → ∀ j u, (fldCells fs)[j]? = some u → w.cell? (ad.add j) = some u := by
  intro ad ha j u hu
  obtain ⟨h1, h2, h3⟩ := h
  obtain ⟨i, x, hx, hc⟩ := flat3_at _ _ _ fs j u hu
  rcases h3 with h3 | ⟨b', off', ha', hB, hcell⟩
  · have := (List.getElem?_eq_some_iff.1 hx).1
    omega
  · rw [ha'] at ha
    cases ha
    have hadd : (⟨b', off', none⟩ : Addr).add j = ⟨b', off' + j, none⟩ := by unfold Addr.add; split <;> simp_all
    rw [hadd]
    obtain ⟨c0, c1, c2⟩ := hcell i x hx
    rcases hc with ⟨rfl, rfl⟩ | ⟨rfl, rfl⟩ | ⟨rfl, rfl⟩
    · exact c0
    · exact c1
    · exact c2
/-- A row of one's own, as a slice of fields. -/
theorem FieldsOn.of_row {w : World} {base : Nat} {va : Option Addr} {len vc : Nat} {fs : List Fld} (h : w.ownsRow base 123 3 (.slice va len vc) len (fldCells fs)) (hl : fs.length = len) (hm : len ≤ maxLen) :
    FieldsOn (fun b => base ≤ b ∧ b < w.heap.size) w va len fs := by
  refine ⟨hl, hm, ?_⟩
  rcases h.2 with ⟨hv, h0⟩ | ⟨g, cap, cur, hv, hg, hh, hc1, hc2, hc3, hc4⟩
  · exact .inl h0
  · cases hv
    refine .inr ⟨g, 0, rfl, ⟨hg, lt_some hh⟩, fun i f hf => ?_⟩
    obtain ⟨c0, c1, c2⟩ := flat3 (fun f : Fld => Value.string f.name) (fun f => .int .i64 f.kind) (fun f => .int .i64 f.count) fs i f hf
    have key : ∀ (j : Nat) (u : Value), (fldCells fs)[j]? = some u → w.cell? ⟨g, 0 + j, none⟩ = some u := by
      intro j u hu
      rw [cell_at hh, Nat.zero_add]
      rw [← hc4, List.getElem?_take] at hu
      split at hu
      · simpa using hu
      · cases hu
    exact ⟨key _ _ c0, key _ _ c1, key _ _ c2⟩
/-- The array of a schema's components, one's own. -/
def CompArr (r : Nat) (w : World) (g : Nat) (arr : Array Value) (cs : List Cmp) : Prop :=
  ∀ i c, cs[i]? = some c → arr[i * 3]? = some (.int .i64 c.id) ∧ arr[i * 3 + 1]? = some (.string c.name) ∧
    ∃ fa fl fc, arr[i * 3 + 2]? = some (.slice fa fl fc) ∧ FieldsOn (fun b => b ≠ g ∧ b ≠ r ∧ b < w.heap.size) w fa fl c.fields ∧ (fa = none → fl = 0 ∧ fc = 0)
theorem CompArr.out {r : Nat} {w : World} {g : Nat} {arr : Array Value} {cs : List Cmp} {fz : Nat × Nat} (h : CompArr r w g arr cs) (hg : w.heap[g]? = some (.cells arr 112 fz)) {len : Nat} (hl : cs.length = len) (hm : len ≤ maxLen) : CompsAt w.heap.size w (some ⟨g, 0, none⟩) len cs := by
  refine ⟨hl, hm, .inr ⟨g, 0, rfl, lt_some hg, fun i c hc => ?_⟩⟩
  obtain ⟨a0, a1, fa, fl, fc, a2, hF, hn⟩ := h i c hc
  simp only [Nat.zero_add]
  rw [cell_at hg, cell_at hg]
  exact ⟨a0, a1, fa, fl, fc, by rw [cell_at hg]; exact a2, hF.imp (fun b hb => ⟨hb.2.2, rfl⟩), hn⟩
/-- A store of a new slice at place k. -/
theorem CompArr.set {r : Nat} {w w' : World} {g : Nat} {arr : Array Value} {cs : List Cmp} (h : CompArr r w g arr cs) {k : Nat} {c : Cmp} (hc : cs[k]? = some c) {fa : Option Addr} {fl fc : Nat}
    (hk : ∀ b, b ≠ g → b < w.heap.size → w'.heap[b]? = w.heap[b]?) (hs : w.heap.size ≤ w'.heap.size)
    (hF : FieldsOn (fun b => b ≠ g ∧ b ≠ r ∧ b < w'.heap.size) w' fa fl c.fields) (hn : fa = none → fl = 0 ∧ fc = 0) : CompArr r w' g (arr.setIfInBounds (k * 3 + 2) (.slice fa fl fc)) cs := by
  intro i c' hc'
  obtain ⟨a0, a1, fa', fl', fc', a2, hF', hn'⟩ := h i c' hc'
  have hlt : i * 3 + 2 < arr.size := by
    have := (Array.getElem?_eq_some_iff.1 a2).1
    omega
  rw [Array.getElem?_setIfInBounds_ne (by omega), Array.getElem?_setIfInBounds_ne (by omega)]
  refine ⟨a0, a1, ?_⟩
  by_cases hik : i = k
  · subst hik
    rw [hc] at hc'; cases hc'
    exact ⟨fa, fl, fc, by rw [Array.getElem?_setIfInBounds_self_of_lt hlt], hF, hn⟩
  · exact ⟨fa', fl', fc', by rw [Array.getElem?_setIfInBounds_ne (by omega)]; exact a2, hF'.imp (fun b hb => ⟨⟨hb.1, hb.2.1, by omega⟩, hk b hb.1 hb.2.2⟩), hn'⟩
/-- The blocks of fields, and of components, by their types. -/
def FieldsTy (w : World) (fa : Option Addr) (fl : Nat) : Prop := fl = 0 ∨ ∃ b off cur fz, fa = some ⟨b, off, none⟩ ∧ w.heap[b]? = some (.cells cur 123 fz)
def CompsTy (w : World) (ca : Option Addr) (cl : Nat) (cs : List Cmp) : Prop := cl = 0 ∨ ∃ b off cur fz, ca = some ⟨b, off, none⟩ ∧ w.heap[b]? = some (.cells cur 112 fz) ∧
  ∀ i c, cs[i]? = some c → ∃ fa fl fc, w.cell? ⟨b, off + i * 3 + 2, none⟩ = some (.slice fa fl fc) ∧ FieldsTy w fa fl
/-- What keeps such blocks. -/
def KeepsTy (w w' : World) : Prop := ∀ (b : Nat) (c : Array Value) (e : TypeId) (fz : Nat × Nat), w.heap[b]? = some (.cells c e fz) → e = 112 ∨ e = 123 → w'.heap[b]? = some (.cells c e fz)
theorem FieldsTy.hk {w w' : World} (hk : KeepsTy w w') {fa : Option Addr} {fl : Nat} (h : FieldsTy w fa fl) : FieldsTy w' fa fl := by
  rcases h with h | ⟨b, off, cur, fz, h1, h2⟩
  · exact .inl h
  · exact .inr ⟨b, off, cur, fz, h1, hk _ _ _ _ h2 (.inr rfl)⟩
theorem CompsTy.hk {w w' : World} (hk : KeepsTy w w') {ca : Option Addr} {cl : Nat} {cs : List Cmp} (h : CompsTy w ca cl cs) : CompsTy w' ca cl cs := by
  rcases h with h | ⟨b, off, cur, fz, h1, h2, h3⟩
  · exact .inl h
  · have e := hk _ _ _ _ h2 (.inl rfl)
    refine .inr ⟨b, off, cur, fz, h1, e, fun i c hc => ?_⟩
    obtain ⟨fa, fl, fc, c2, hF⟩ := h3 i c hc
    exact ⟨fa, fl, fc, by rw [cell_at e]; rw [cell_at h2] at c2; exact c2, hF.hk hk⟩
theorem FieldsAt.ty {B : Nat} {w w' : World} {fa : Option Addr} {fl : Nat} {fs : List Fld} (h : FieldsAt B w fa fl fs) (ht : FieldsTy w fa fl) (hk : KeepsTy w w') : FieldsAt B w' fa fl fs := by
  obtain ⟨h1, h2, h3⟩ := h
  refine ⟨h1, h2, ?_⟩
  rcases ht with ht | ⟨b, off, cur, fz, hb, ht⟩
  · exact .inl ht
  · rcases h3 with h3 | ⟨b', off', ha, hB, hc⟩
    · exact .inl h3
    · rw [hb] at ha
      cases ha
      have e := hk _ _ _ _ ht (.inr rfl)
      refine .inr ⟨b, off, hb, hB, fun i f hf => ?_⟩
      obtain ⟨c0, c1, c2⟩ := hc i f hf
      rw [cell_at ht] at c0 c1 c2
      rw [cell_at e, cell_at e, cell_at e]
      exact ⟨c0, c1, c2⟩
theorem CompsAt.ty {B : Nat} {w w' : World} {ca : Option Addr} {cl : Nat} {cs : List Cmp} (h : CompsAt B w ca cl cs) (ht : CompsTy w ca cl cs) (hk : KeepsTy w w') : CompsAt B w' ca cl cs := by
  obtain ⟨h1, h2, h3⟩ := h
  refine ⟨h1, h2, ?_⟩
  rcases ht with ht | ⟨b, off, cur, fz, hb, ht, hty⟩
  · exact .inl ht
  · rcases h3 with h3 | ⟨b', off', ha, hB, hc⟩
    · exact .inl h3
    · rw [hb] at ha
      cases ha
      have e := hk _ _ _ _ ht (.inl rfl)
      refine .inr ⟨b, off, hb, hB, fun i c hci => ?_⟩
      obtain ⟨c0, c1, fa, fl, fc, c2, hF, hn⟩ := hc i c hci
      obtain ⟨fa', fl', fc', c2', hF'⟩ := hty i c hci
      rw [c2] at c2'
      cases c2'
      rw [cell_at ht] at c0 c1 c2
      rw [cell_at e, cell_at e]
      exact ⟨c0, c1, fa, fl, fc, by rw [cell_at e]; exact c2, hF.ty hF' hk, hn⟩
end Go.Proofs.YtoadihebdaooaaaGreat
namespace Go.Proofs.YtoadihebdaooaaaGreat
open Go.RowKit
set_option linter.unusedVariables false
/-- The cells of the components as they lie. -/
theorem CompsAt.cells {B : Nat} {w : World} {a : Option Addr} {len : Nat} {cs : List Cmp} (h : CompsAt B w a len cs) :
    ∃ cells : List Value, cells.length = len * 3 ∧ (∀ ad, a = some ad → ∀ j u, cells[j]? = some u → w.cell? (ad.add j) = some u) ∧ (∀ u ∈ cells, u.oneCell' = true) ∧
      ∀ i c, cs[i]? = some c → cells[i * 3]? = some (.int .i64 c.id) ∧ cells[i * 3 + 1]? = some (.string c.name) ∧ ∃ fa fl fc, cells[i * 3 + 2]? = some (.slice fa fl fc) ∧ FieldsAt B w fa fl c.fields ∧ (fa = none → fl = 0 ∧ fc = 0) := by
  obtain ⟨h1, h2, h3⟩ := h
  rcases h3 with h3 | ⟨b, off, rfl, hB, hc⟩
  · subst h3
    refine ⟨[], rfl, by simp, by simp, fun i c hc => ?_⟩
    have := (List.getElem?_eq_some_iff.1 hc).1
    omega
  · have key : ∀ j, j < len * 3 → ∃ u, w.cell? ⟨b, off + j, none⟩ = some u ∧ u.oneCell' = true := by
      intro j hj
      obtain ⟨c0, c1, fa, fl, fc, c2, _⟩ := hc (j / 3) (cs[j / 3]'(by omega)) (List.getElem?_eq_getElem (by omega))
      rcases (by omega : j = j / 3 * 3 ∨ j = j / 3 * 3 + 1 ∨ j = j / 3 * 3 + 2) with e | e | e
      · exact ⟨_, by rw [e]; exact c0, rfl⟩
      · exact ⟨_, by rw [e]; exact c1, rfl⟩
      · exact ⟨_, by rw [e]; exact c2, rfl⟩
    have hget : ∀ j, j < len * 3 → ((List.range (len * 3)).map fun j => (w.cell? ⟨b, off + j, none⟩).getD default)[j]? = some ((w.cell? ⟨b, off + j, none⟩).getD default) := by
      intro j hj
      rw [List.getElem?_map, List.getElem?_range hj]; rfl
    refine ⟨(List.range (len * 3)).map fun j => (w.cell? ⟨b, off + j, none⟩).getD default, by simp, ?_, ?_, ?_⟩
    · intro ad had j u hu
      cases had
      have hj : j < len * 3 := by have := (List.getElem?_eq_some_iff.1 hu).1; simpa using this
      obtain ⟨u', hu', _⟩ := key j hj
      rw [hget j hj, hu'] at hu
      cases hu
      have hadd : (⟨b, off, none⟩ : Addr).add j = ⟨b, off + j, none⟩ := by unfold Addr.add; split <;> simp_all
      rw [hadd]; exact hu'
    · intro u hu
      obtain ⟨j, hj, rfl⟩ := List.mem_map.1 hu
      obtain ⟨u', hu', h1'⟩ := key j (List.mem_range.1 hj)
      rw [hu']; exact h1'
    · intro i c hcs
      have hi : i < len := by have := (List.getElem?_eq_some_iff.1 hcs).1; omega
      obtain ⟨c0, c1, fa, fl, fc, c2, hF, hn⟩ := hc i c hcs
      refine ⟨?_, ?_, fa, fl, fc, ?_, hF, hn⟩
      · rw [hget _ (by omega), c0]; rfl
      · rw [hget _ (by omega), show off + (i * 3 + 1) = off + i * 3 + 1 by omega, c1]; rfl
      · rw [hget _ (by omega), show off + (i * 3 + 2) = off + i * 3 + 2 by omega, c2]; rfl
theorem undrew {B : Nat} {w w' : World} (h : Below B w.drew w') : Below B w w' := ⟨h.os, h.tape, h.output, h.size, h.block⟩
end Go.Proofs.YtoadihebdaooaaaGreat
namespace Go.Proofs.YtoadihebdaooaaaGreat
open Go.RowKit
set_option linter.unusedVariables false
theorem find1_any (i : Int) (nme : Value) (fv : Value) (id : Int) (p : Addr) (w : World) (hp : w.cell? p = some (.int .i64 id)) (hs : ∃ s, nme = .string s) (hv : ∃ a n c, fv = .slice a n c) :
    Calls Tryz.prog 118 #[.agg #[.int .i64 i, nme, fv], .pointer (some p)] w fun e w' => e = .returned (.bool (i == id)) ∧ Below w.heap.size w w' := by
  obtain ⟨s, rfl⟩ := hs
  obtain ⟨a, n, c, rfl⟩ := hv
  have hpb := World.block_lt_of_cell? w p hp
  have hp' : (w.alloc (.cells #[.int .i64 i, .string s, .slice a n c] 112)).cell? p = some (.int .i64 id) := by
    rw [World.cell?_of_block (w := w) (by rw [halloc, if_neg (by omega)])]; exact hp
  go_enter Tryz.func118, Tryz.ntmps118
  go_wp2
  go_ret
  exact ⟨rfl, by go_grown⟩
def idxF (id : Int) : Nat → List Cmp → Int
  | _, [] => -1
  | k, c :: r => if c.id = id then k else idxF id (k + 1) r
theorem idxF_skip {id : Int} {k : Nat} {c : Cmp} {r : List Cmp} (h : ¬ c.id = id) : idxF id k (c :: r) = idxF id (k + 1) r := by
  conv => lhs; unfold idxF
  rw [if_neg h]
theorem idxF_none {id : Int} : ∀ (l : List Cmp) (k : Nat), l.find? (fun c => decide (c.id = id)) = none → idxF id k l = -1
  | [], k, _ => rfl
  | c :: r, k, h => by
    rw [List.find?_cons] at h
    split at h
    · cases h
    · rename_i hc
      unfold idxF
      rw [if_neg (by simpa using hc)]
      exact idxF_none r (k + 1) h
theorem idxF_some {id : Int} {c : Cmp} : ∀ (l : List Cmp) (k : Nat), l.find? (fun c => decide (c.id = id)) = some c → ∃ j, idxF id k l = ((k + j : Nat) : Int) ∧ l[j]? = some c
  | [], k, h => by cases h
  | d :: r, k, h => by
    rw [List.find?_cons] at h
    split at h
    · rename_i hc
      cases h
      exact ⟨0, by unfold idxF; rw [if_pos (by simpa using hc)]; rfl, rfl⟩
    · rename_i hc
      obtain ⟨j, h1, h2⟩ := idxF_some r (k + 1) h
      exact ⟨j + 1, by unfold idxF; rw [if_neg (by simpa using hc), h1]; congr 1; omega, by simpa using h2⟩
set_option maxRecDepth 100000 in
set_option maxHeartbeats 1000000 in
theorem indexFunc_any (id : Int) (cs : List Cmp) (a : Option Addr) (len cap : Nat) (p : Addr) (w : World) (hcs : CompsAt w.heap.size w a len cs) (hp : w.cell? p = some (.int .i64 id)) :
    Calls Tryz.prog 146 #[.slice a len cap, .func (.func 118) #[] #[.pointer (some p)]] w fun e w' => e = .returned (.int .i64 (idxF id 0 cs)) ∧ Below w.heap.size w w' := by
  have hmx : len ≤ maxLen := hcs.2.1
  unfold maxLen at hmx
  have hpb := World.block_lt_of_cell? w p hp
  go_enter Tryz.func146, Tryz.ntmps146
  go_wp2_with fail
  go_loopw [8] (fun i wr => ∃ (k : Nat), k ≤ len ∧ i = .int .i64 k ∧ idxF id 0 cs = idxF id k (cs.drop k) ∧ Below w.heap.size w wr) (fun i _ => len - (intOf i).toNat)
  case atStart => exact ⟨0, Nat.zero_le _, rfl, rfl, Below.refl _ _⟩
  case round =>
    obtain ⟨k, hk, rfl, hgo, hbw⟩ := hrel
    have HG := Lib.hid hgo
    clear hgo
    have hzr := hbw.size
    by_cases hlt : k < len
    · obtain ⟨b, off, c, rfl, hB, hc, c0, c1, fa, fl, fc, c2, hF, hnil⟩ := hcs.get hbw hlt
      have hstep := Lib.hid (HG.out.trans (by rw [drop_get hc]))
      go_wp2_with fail
      refine (find1_any _ _ _ id p _ ((hbw.cell hpb).trans hp) ⟨_, rfl⟩ ⟨_, _, _, rfl⟩).mono ?_
      rintro e w1 ⟨rfl, hb1⟩
      by_cases h : c.id = id
      · have H1 : Hid (idxF id 0 cs = k) := Lib.hid (by rw [hstep.out]; unfold idxF; rw [if_pos h])
        have e1 : (c.id == id) = true := by simp [h]
        clear h
        go_wp2
        go_ret
        exact ⟨ret_intk H1.out.symm, hbw.trans (hb1.mono hzr)⟩
      · have H1 := Lib.hid (hstep.out.trans (idxF_skip h))
        have e1 : (c.id == id) = false := by simp [h]
        clear h
        go_wp2
        go_roundw
        case rel => exact ⟨k + 1, by omega, by go_num, H1.out, hbw.trans (hb1.mono hzr)⟩
        case measure => simp [intOf]; omega
    · obtain rfl : k = len := by omega
      have H1 : Hid (idxF id 0 cs = -1) := Lib.hid (by rw [HG.out, List.drop_eq_nil_of_le (by have := hcs.1; omega)]; rfl)
      go_wp2
      go_ret
      exact ⟨ret_intk H1.out.symm, hbw⟩
/-- The component of an id. -/
def findC (id : Int) (cs : List Cmp) : Option Cmp := cs.find? fun c => decide (c.id = id)
/-- The answer of 'find': the component, its fields in new memory. -/
def IsFind (id : Int) (cs : List Cmp) (w : World) (e : Ending) (w' : World) : Prop :=
  match findC id cs with
  | some c => ∃ va fl vc, e = .returned (.tuple #[.agg #[.int .i64 c.id, .string c.name, .slice va fl vc], .bool true]) ∧ (w'.ownsRow w.heap.size 123 3 (.slice va fl vc) fl (fldCells c.fields) ∧ c.fields.length = fl ∧ fl ≤ maxLen) ∧ (va = none → fl = 0 ∧ vc = 0) ∧ Below w.heap.size w w'
  | none => e = .returned (.tuple #[.agg #[.int .i64 0, .string ByteArray.empty, .slice none 0 0], .bool false]) ∧ Below w.heap.size w w'
set_option maxRecDepth 100000 in
set_option maxHeartbeats 2000000 in
theorem find_any (ver id : Int) (cs : List Cmp) (a : Option Addr) (len cap : Nat) (p : Addr) (w : World) (hcs : CompsAt w.heap.size w a len cs) (hf : ∀ c ∈ cs, c.fields.length ≤ 100000) (hp : w.cell? p = some (.int .i64 id)) :
    Calls Tryz.prog 117 #[.agg #[.int .i64 ver, .slice a len cap], .func (.func 118) #[] #[.pointer (some p)]] w (IsFind id cs w) := by
  have hpb := World.block_lt_of_cell? w p hp
  have hbel0 : Below w.heap.size w ((w.alloc (.cells #[.int .i64 ver, .slice a len cap] 24)).alloc (.cells #[.int .i64 0, .string ByteArray.empty, .slice none 0 0] 112)) := by go_grown
  go_enter Tryz.func117, Tryz.ntmps117
  go_wp2_with fail
  refine (indexFunc_any id cs _ _ _ p _ ((hcs.below hbel0).mono hbel0.size) ((hbel0.cell hpb).trans hp)).mono ?_
  rintro e w1 ⟨rfl, hb1⟩
  have hs1 := keep hb1 (keepA _ (heap_alloc_new w (.cells #[.int .i64 ver, .slice a len cap] 24)))
  have hr1 := keep hb1 (heap_alloc_new (w.alloc (.cells #[.int .i64 ver, .slice a len cap] 24)) (.cells #[.int .i64 0, .string ByteArray.empty, .slice none 0 0] 112))
  rw [World.size_alloc] at hr1
  have hbel1 : Below w.heap.size w w1 := hbel0.trans (hb1.mono hbel0.size)
  have s1 := cell_at hs1 1
  have r0 := cell_at hr1 0
  have r1 := cell_at hr1 1
  have r2 := cell_at hr1 2
  have f0 := free_at hr1 0
  have f1 := free_at hr1 1
  have f2 := free_at hr1 2
  simp at s1 r0 r1 r2
  cases hfc : findC id cs with
  | none =>
    have h0 := idxF_none cs 0 hfc
    have HF := Lib.hid hfc
    rw [h0]
    clear h0 hfc
    go_wp2
    refine bodyPost_ret (v := .tuple #[.agg #[.int .i64 0, .string ByteArray.empty, .slice none 0 0], .bool false]) (by simp [results, Tryz.results117, go_sem, r0, r1, r2]; rfl) rfl ?_
    unfold IsFind
    rw [HF.out]
    exact ⟨rfl, ((hbel1.setCell (by simp) _).setCell (by simp) _).setCell (by simp) _⟩
  | some c =>
    obtain ⟨j, h0, hj⟩ := idxF_some cs 0 hfc
    have HF := Lib.hid hfc
    rw [h0, Nat.zero_add]
    have hjl : j < len := by have := (List.getElem?_eq_some_iff.1 hj).1; have := hcs.1; omega
    obtain ⟨b, off, c', rfl, hB, hc', c0, c1, fa, fl, fc, c2, hF, hnil⟩ := hcs.get hbel1 hjl
    have hcc : c' = c := by rw [hj] at hc'; exact (Option.some.inj hc').symm
    subst hcc
    clear h0 hfc
    have hfl : fl ≤ 100000 := by have := hf c' (List.mem_of_getElem? hj); have := hF.1; omega
    have hmx : len ≤ maxLen := hcs.2.1
    unfold maxLen at hmx
    go_wp2_with fail
    have hzw := hbel1.size
    have HFF := Lib.hid hF
    have hFA : FieldsOn (· < w.heap.size) (w1.alloc (.cells #[.int .i64 c'.id, .string c'.name, .slice fa fl fc] 112)) fa fl c'.fields := HFF.out.on.imp (fun b hb => ⟨hb, by rw [halloc, if_neg (by omega)]⟩)
    refine (cloneFields_any fa fl fc _ hfl hnil (fldCells c'.fields) (by rw [← HFF.out.1]; exact flat3_len _ _ _ _) hFA.cells (fldCells_one _)).mono ?_
    rintro e w2 ⟨va, vc, rfl, hown, hb2, hnv⟩
    have hr2 := keep hb2 (keepA _ hr1)
    have hn2 := keep hb2 (heap_alloc_new w1 _)
    have q0 := cell_at hr2 0
    have q1 := cell_at hr2 1
    have q2 := cell_at hr2 2
    have g0 := free_at hr2 0
    have g1 := free_at hr2 1
    have g2 := free_at hr2 2
    have n0 := cell_at hn2 0
    have n1 := cell_at hn2 1
    have n2 := cell_at hn2 2
    have m2 := free_at hn2 2
    simp at q0 q1 q2 n0 n1 n2
    have hl1 := lt_some hr1
    have HO := Lib.hid hown
    have HB2 := Lib.hid hb2
    clear hown hb2 hF hFA
    go_wp2
    refine bodyPost_ret (v := .tuple #[.agg #[.int .i64 c'.id, .string c'.name, .slice va fl vc], .bool true]) (by simp [results, Tryz.results117, go_sem, q0, q1, q2]) rfl ?_
    unfold IsFind
    rw [HF.out]
    have hz2 := HB2.out.size
    simp only [World.size_alloc] at hz2
    refine ⟨va, fl, vc, rfl, ?_, hnv, ?_⟩
    · refine ⟨?_, HFF.out.1, HFF.out.2.1⟩
      refine ownsRow_mono (base := (w1.alloc (.cells #[.int .i64 c'.id, .string c'.name, .slice fa fl fc] 112)).heap.size) ?_ (by simp; omega)
      exact ownsRow_setCell_below (ownsRow_setCell_below (ownsRow_setCell_below (ownsRow_setCell_below HO.out (by simp <;> omega) _) (by simp <;> omega) _) (by simp <;> omega) _) (by simp <;> omega) _
    · have hb' : Below w.heap.size w w2 := (hbel1.alloc (by omega) _).trans (HB2.out.mono (by simp; omega))
      exact (((hb'.setCell (by simp; omega) _).setCell (by simp) _).setCell (by simp) _).setCell (by simp) _
set_option maxRecDepth 100000 in
theorem Find_any (ver id : Int) (cs : List Cmp) (a : Option Addr) (len cap : Nat) (w : World) (hcs : CompsAt w.heap.size w a len cs) (hf : ∀ c ∈ cs, c.fields.length ≤ 100000) :
    Calls Tryz.prog 76 #[.agg #[.int .i64 ver, .slice a len cap], .int .i64 id] w (IsFind id cs w) := by
  have hbel0 : Below w.heap.size w (((w.alloc (.cells #[.int .i64 ver, .slice a len cap] 24)).alloc (.cells #[.int .i64 id] 3)).alloc (.cells #[.int .i64 0, .string ByteArray.empty, .slice none 0 0] 112)) := by go_grown
  go_enter Tryz.func76, Tryz.ntmps76
  go_wp2_with fail
  refine (find_any ver id cs _ _ _ _ _ ((hcs.below hbel0).mono hbel0.size) hf ?_).mono ?_
  · rw [World.cell?_of_block (w := (w.alloc (.cells #[.int .i64 ver, .slice a len cap] 24)).alloc (.cells #[.int .i64 id] 3)) (by rw [halloc, if_neg (by simp)])]
    simp
  intro e w1 h
  have hz0 := hbel0.size
  unfold IsFind at h
  cases hfc : findC id cs with
  | none =>
    rw [hfc] at h
    obtain ⟨rfl, hb1⟩ := h
    have HF := Lib.hid hfc
    clear hfc
    have hr1 := keep hb1 (heap_alloc_new ((w.alloc (.cells #[.int .i64 ver, .slice a len cap] 24)).alloc (.cells #[.int .i64 id] 3)) (.cells #[.int .i64 0, .string ByteArray.empty, .slice none 0 0] 112))
    rw [World.size_alloc, World.size_alloc] at hr1
    have q0 := cell_at hr1 0
    have q1 := cell_at hr1 1
    have q2 := cell_at hr1 2
    have g0 := free_at hr1 0
    have g1 := free_at hr1 1
    have g2 := free_at hr1 2
    simp at q0 q1 q2
    have hbel1 : Below w.heap.size w w1 := hbel0.trans (hb1.mono hz0)
    go_wp2
    refine bodyPost_ret (v := .tuple #[.agg #[.int .i64 0, .string ByteArray.empty, .slice none 0 0], .bool false]) (by simp [results, Tryz.results76, go_sem, q0, q1, q2]) rfl ?_
    unfold IsFind
    rw [HF.out]
    exact ⟨rfl, ((hbel1.setCell (by simp; omega) _).setCell (by simp; omega) _).setCell (by simp; omega) _⟩
  | some c =>
    rw [hfc] at h
    obtain ⟨va, fl, vc, rfl, hF, hn, hb1⟩ := h
    have HF := Lib.hid hfc
    clear hfc
    have hr1 := keep hb1 (heap_alloc_new ((w.alloc (.cells #[.int .i64 ver, .slice a len cap] 24)).alloc (.cells #[.int .i64 id] 3)) (.cells #[.int .i64 0, .string ByteArray.empty, .slice none 0 0] 112))
    rw [World.size_alloc, World.size_alloc] at hr1
    have q0 := cell_at hr1 0
    have q1 := cell_at hr1 1
    have q2 := cell_at hr1 2
    have g0 := free_at hr1 0
    have g1 := free_at hr1 1
    have g2 := free_at hr1 2
    simp at q0 q1 q2
    have hbel1 : Below w.heap.size w w1 := hbel0.trans (hb1.mono hz0)
    have HFF := Lib.hid hF
    clear hF
    go_wp2
    refine bodyPost_ret (v := .tuple #[.agg #[.int .i64 c.id, .string c.name, .slice va fl vc], .bool true]) (by simp [results, Tryz.results76, go_sem, q0, q1, q2]) rfl ?_
    unfold IsFind
    rw [HF.out]
    refine ⟨va, fl, vc, rfl, ?_, hn, ((hbel1.setCell (by simp; omega) _).setCell (by simp; omega) _).setCell (by simp; omega) _⟩
    refine ⟨?_, HFF.out.2⟩
    refine ownsRow_mono (base := (((w.alloc (.cells #[.int .i64 ver, .slice a len cap] 24)).alloc (.cells #[.int .i64 id] 3)).alloc (.cells #[.int .i64 0, .string ByteArray.empty, .slice none 0 0] 112)).heap.size) ?_ (by simp; omega)
    exact ownsRow_setCell_below (ownsRow_setCell_below (ownsRow_setCell_below HFF.out.1 (by simp) _) (by simp) _) (by simp) _
end Go.Proofs.YtoadihebdaooaaaGreat
