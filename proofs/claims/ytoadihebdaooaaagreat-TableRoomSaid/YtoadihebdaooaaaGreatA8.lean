/- Contracts of the two slices.Clone. -/
import Derived.Test.YtoadihebdaooaaaGreatA7
namespace Go.Proofs.YtoadihebdaooaaaGreat
open Go.RowKit
set_option linter.unusedVariables false

theorem Tryz.info123 : (Tryz.prog.info? 123).map (fun i => (i.zero, i.size, i.bytes)) = some (some (.agg #[.string ByteArray.empty, .int .i64 0, .int .i64 0]), 3, 32) := by kernel_rfl
theorem Tryz.info112 : (Tryz.prog.info? 112).map (fun i => (i.zero, i.size, i.bytes)) = some (some (.agg #[.int .i64 0, .string ByteArray.empty, .slice none 0 0]), 3, 48) := by kernel_rfl

/-- Cells, three a place, as one list. -/
theorem flat3 {α : Type} (c0 c1 c2 : α → Value) : ∀ (l : List α) (i : Nat) (x : α), l[i]? = some x →
    (l.flatMap fun x => [c0 x, c1 x, c2 x])[i * 3]? = some (c0 x) ∧ (l.flatMap fun x => [c0 x, c1 x, c2 x])[i * 3 + 1]? = some (c1 x) ∧ (l.flatMap fun x => [c0 x, c1 x, c2 x])[i * 3 + 2]? = some (c2 x)
  | [], i, x, h => by simp at h
  | y :: r, 0, x, h => by simp at h; subst h; simp
  | y :: r, i + 1, x, h => by
    have ih := flat3 c0 c1 c2 r i x (by simpa using h)
    have e : (i + 1) * 3 = i * 3 + 3 := by omega
    simp only [List.flatMap_cons, e]
    refine ⟨?_, ?_, ?_⟩
    · rw [List.getElem?_append_right (by simp)]; simpa using ih.1
    · rw [List.getElem?_append_right (by simp)]; simpa [show i * 3 + 3 + 1 - 3 = i * 3 + 1 by omega] using ih.2.1
    · rw [List.getElem?_append_right (by simp)]; simpa [show i * 3 + 3 + 2 - 3 = i * 3 + 2 by omega] using ih.2.2
theorem flat3_len {α : Type} (c0 c1 c2 : α → Value) (l : List α) : (l.flatMap fun x => [c0 x, c1 x, c2 x]).length = l.length * 3 := by
  induction l with
  | nil => rfl
  | cons a l ih => simp only [List.flatMap_cons, List.length_append, ih]; simp; omega
theorem flat3_at {α : Type} (c0 c1 c2 : α → Value) (l : List α) (j : Nat) (u : Value) (h : (l.flatMap fun x => [c0 x, c1 x, c2 x])[j]? = some u) :
    ∃ i x, l[i]? = some x ∧ ((j = i * 3 ∧ u = c0 x) ∨ (j = i * 3 + 1 ∧ u = c1 x) ∨ (j = i * 3 + 2 ∧ u = c2 x)) := by
  have hj : j < l.length * 3 := by rw [← flat3_len c0 c1 c2]; exact (List.getElem?_eq_some_iff.1 h).1
  have hi : j / 3 < l.length := by omega
  obtain ⟨h0, h1, h2⟩ := flat3 c0 c1 c2 l (j / 3) l[j / 3] (List.getElem?_eq_getElem hi)
  refine ⟨j / 3, l[j / 3], List.getElem?_eq_getElem hi, ?_⟩
  rcases (by omega : j = j / 3 * 3 ∨ j = j / 3 * 3 + 1 ∨ j = j / 3 * 3 + 2) with e | e | e
  · rw [e] at h; rw [h0] at h; exact .inl ⟨e, (Option.some.inj h).symm⟩
  · rw [e] at h; rw [h1] at h; exact .inr (.inl ⟨e, (Option.some.inj h).symm⟩)
  · rw [e] at h; rw [h2] at h; exact .inr (.inr ⟨e, (Option.some.inj h).symm⟩)

def fldCells (fs : List Fld) : List Value := fs.flatMap fun f => [.string f.name, .int .i64 f.kind, .int .i64 f.count]
/-- The answer of slices.Clone: nil stays nil; else a row of one's own. -/
def IsClone (e : TypeId) (a : Option Addr) (len : Nat) (cells : List Value) (w : World) (en : Ending) (w' : World) : Prop :=
  ∃ va vc, en = .returned (.slice va len vc) ∧ w'.ownsRow w.heap.size e 3 (.slice va len vc) len cells ∧ Below w.heap.size w w' ∧ (va = none → len = 0 ∧ vc = 0)

theorem FieldsAt.cells {B : Nat} {w : World} {b off len : Nat} {fs : List Fld} (h : FieldsAt B w (some ⟨b, off, none⟩) len fs) :
    ∀ j u, (fldCells fs)[j]? = some u → w.cell? ((⟨b, off, none⟩ : Addr).add j) = some u := by
  intro j u hu
  obtain ⟨h1, h2, h3⟩ := h
  obtain ⟨i, x, hx, hc⟩ := flat3_at _ _ _ fs j u hu
  have hadd : (⟨b, off, none⟩ : Addr).add j = ⟨b, off + j, none⟩ := by unfold Addr.add; split <;> simp_all
  rw [hadd]
  rcases h3 with h3 | ⟨b', off', ha, hB, hcell⟩
  · have := (List.getElem?_eq_some_iff.1 hx).1
    omega
  · cases ha
    obtain ⟨c0, c1, c2⟩ := hcell i x hx
    rcases hc with ⟨rfl, rfl⟩ | ⟨rfl, rfl⟩ | ⟨rfl, rfl⟩
    · exact c0
    · exact c1
    · exact c2
theorem fldCells_one (fs : List Fld) : ∀ u ∈ fldCells fs, u.oneCell' = true := by
  intro u hu
  simp only [fldCells, List.mem_flatMap] at hu
  obtain ⟨f, _, hf⟩ := hu
  simp at hf
  rcases hf with rfl | rfl | rfl <;> rfl


set_option maxRecDepth 100000 in
set_option maxHeartbeats 400000 in
theorem cloneFields_any (a : Option Addr) (len cap : Nat) (w : World) (hl : len ≤ 100000) (hn : a = none → len = 0 ∧ cap = 0) (cells : List Value) (hcl : cells.length = len * 3)
    (hc : ∀ ad, a = some ad → ∀ j u, cells[j]? = some u → w.cell? (ad.add j) = some u) (h1 : ∀ u ∈ cells, u.oneCell' = true) :
    Calls Tryz.prog 96 #[.slice a len cap] w (IsClone 123 a len cells w) := by
  obtain ⟨i0, hi, hz0, hz1, hz2⟩ := info_parts Tryz.info123
  have hnn := fun (wx : World) (a : Option Addr) (n c : Nat) => Lib.run_eql_slice_nil (P := Tryz.prog) wx 110 123 a n c 0 0 Tryz.underlying110
  cases a with
  | none =>
    obtain ⟨rfl, rfl⟩ := hn rfl
    go_enter Tryz.func96, Tryz.ntmps96
    go_wp2
    go_returns
    exact ⟨none, 0, rfl, ⟨by simpa using hcl, .inl ⟨rfl, rfl⟩⟩, Below.refl _ _, fun _ => ⟨rfl, rfl⟩⟩
  | some ad =>
    have hcc : ∀ j u, cells[j]? = some u → (w.alloc (.cells #[] 123)).cell? (ad.add j) = some u := fun j u hu => by
      have h := hc ad rfl j u hu
      have hb := World.block_lt_of_cell? w _ h
      rw [World.cell?_of_block (w := w) (by rw [halloc, if_neg (by omega)])]
      exact h
    have hown : (w.alloc (.cells #[] 123)).ownsRow w.heap.size 123 3 (.slice (some ⟨w.heap.size, 0, none⟩) 0 0) 0 [] := World.ownsRow_made w #[] 0 (Nat.le_refl _) (by simp) (by simp)
    go_enter Tryz.func96, Tryz.ntmps96
    go_wp2_with (at_builtin; refine wpList_append_own _ rfl (.tmp 5) (.tmp 6) 110 rfl w.heap.size 123 i0 (.agg #[.string ByteArray.empty, .int .i64 0, .int .i64 0]) 3 32 Tryz.underlying110 hi hz0 hz1 hz2 rfl (by decide) (.slice (some ⟨w.heap.size, 0, none⟩) 0 0) 0 [] rfl hown ad len cap cells rfl hcl hcc h1 (by unfold maxLen; omega) (by omega) (by simp) ?_)
    intro v' w1 hown1 hg1 hnil
    obtain ⟨va, vc, hv⟩ := ownsRow_slice hown1
    rw [hv] at hown1 hnil ⊢
    clear hv
    have hbel : Below w.heap.size w w1 := ((Below.refl _ w).alloc (Nat.le_refl _) _).grown hg1 (by simp) (fun x hx => by simp [Value.ownBlock] at hx; omega)
    have HO := Lib.hid hown1
    have HN : Hid (va = none → len = 0 ∧ vc = 0) := Lib.hid (by
      intro h; subst h
      rcases hown1.2 with ⟨h2, _⟩ | ⟨g, cap', cur, hv, _⟩
      · cases h2; exact ⟨by omega, rfl⟩
      · cases hv)
    clear hown1 hnil
    go_wp2
    go_returns
    exact ⟨va, vc, rfl, HO.out, hbel, HN.out⟩

set_option maxRecDepth 100000 in
set_option maxHeartbeats 400000 in
theorem cloneComps_any (a : Option Addr) (len cap : Nat) (w : World) (hl : len ≤ 100000) (hn : a = none → len = 0 ∧ cap = 0) (cells : List Value) (hcl : cells.length = len * 3)
    (hc : ∀ ad, a = some ad → ∀ j u, cells[j]? = some u → w.cell? (ad.add j) = some u) (h1 : ∀ u ∈ cells, u.oneCell' = true) :
    Calls Tryz.prog 95 #[.slice a len cap] w (IsClone 112 a len cells w) := by
  obtain ⟨i0, hi, hz0, hz1, hz2⟩ := info_parts Tryz.info112
  have hnn := fun (wx : World) (a : Option Addr) (n c : Nat) => Lib.run_eql_slice_nil (P := Tryz.prog) wx 22 112 a n c 0 0 Tryz.underlying22
  cases a with
  | none =>
    obtain ⟨rfl, rfl⟩ := hn rfl
    go_enter Tryz.func95, Tryz.ntmps95
    go_wp2
    go_returns
    exact ⟨none, 0, rfl, ⟨by simpa using hcl, .inl ⟨rfl, rfl⟩⟩, Below.refl _ _, fun _ => ⟨rfl, rfl⟩⟩
  | some ad =>
    have hcc : ∀ j u, cells[j]? = some u → (w.alloc (.cells #[] 112)).cell? (ad.add j) = some u := fun j u hu => by
      have h := hc ad rfl j u hu
      have hb := World.block_lt_of_cell? w _ h
      rw [World.cell?_of_block (w := w) (by rw [halloc, if_neg (by omega)])]
      exact h
    have hown : (w.alloc (.cells #[] 112)).ownsRow w.heap.size 112 3 (.slice (some ⟨w.heap.size, 0, none⟩) 0 0) 0 [] := World.ownsRow_made w #[] 0 (Nat.le_refl _) (by simp) (by simp)
    go_enter Tryz.func95, Tryz.ntmps95
    go_wp2_with (at_builtin; refine wpList_append_own _ rfl (.tmp 5) (.tmp 6) 22 rfl w.heap.size 112 i0 (.agg #[.int .i64 0, .string ByteArray.empty, .slice none 0 0]) 3 48 Tryz.underlying22 hi hz0 hz1 hz2 rfl (by decide) (.slice (some ⟨w.heap.size, 0, none⟩) 0 0) 0 [] rfl hown ad len cap cells rfl hcl hcc h1 (by unfold maxLen; omega) (by omega) (by simp) ?_)
    intro v' w1 hown1 hg1 hnil
    obtain ⟨va, vc, hv⟩ := ownsRow_slice hown1
    rw [hv] at hown1 hnil ⊢
    clear hv
    have hbel : Below w.heap.size w w1 := ((Below.refl _ w).alloc (Nat.le_refl _) _).grown hg1 (by simp) (fun x hx => by simp [Value.ownBlock] at hx; omega)
    have HO := Lib.hid hown1
    have HN : Hid (va = none → len = 0 ∧ vc = 0) := Lib.hid (by
      intro h; subst h
      rcases hown1.2 with ⟨h2, _⟩ | ⟨g, cap', cur, hv, _⟩
      · cases h2; exact ⟨by omega, rfl⟩
      · cases hv)
    clear hown1 hnil
    go_wp2
    go_returns
    exact ⟨va, vc, rfl, HO.out, hbel, HN.out⟩
end Go.Proofs.YtoadihebdaooaaaGreat
