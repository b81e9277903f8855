/- Columns with rows: Append. -/
import Derived.Test.YtoadihebdaooaaaGreatU1
import Derived.Lib.SlBuf
import Derived.Deep.RegionHeld3
import Derived.Deep.AppendLies
namespace Go.Proofs.YtoadihebdaooaaaGreat
open Go.RowKit
set_option linter.unusedVariables false
theorem splice_get {α : Type} (L : List α) (off : Nat) (cs : List α) (h : off + cs.length ≤ L.length) (j : Nat) : (splice L off cs)[j]? = if j < off then L[j]? else if j < off + cs.length then cs[j - off]? else L[j]? := by
  unfold splice
  by_cases h1 : j < off
  · rw [if_pos h1, List.getElem?_append_left (by rw [List.length_take]; omega), List.getElem?_take, if_pos h1]
  · rw [if_neg h1, List.getElem?_append_right (by rw [List.length_take]; omega), List.length_take, Nat.min_eq_left (by omega)]
    by_cases h2 : j < off + cs.length
    · rw [if_pos h2, List.getElem?_append_left (by omega)]
    · rw [if_neg h2, List.getElem?_append_right (by omega), List.getElem?_drop]
      congr 1; omega
theorem Only.setRow (w : World) (g : Nat) (cs : Array Value) : Only g w (w.setRow g cs) := ⟨rfl, rfl, rfl, by simp [World.setRow], fun k hk => setRow_other w g k cs hk⟩
theorem copy_str (w : World) (ty : TypeId) (g off cap : Nat) (s : ByteArray) (arr : Array Value) (hg : w.heap[g]? = some (.cells arr 5 (0, 0))) (hfit : off + s.size ≤ arr.size) :
    ∃ w', (Builtin.copy_ #[192, 9] ty #[.slice (some ⟨g, off, none⟩) s.size cap, .string s]).run Tryz.prog w = .ok (goInt s.size) w' ∧ Only g w w' ∧ w'.heap[g]? = some (.cells (splice arr.toList off (Lib.byteCells s.data.toList)).toArray 5 (0, 0)) := by
  have hr := Lib.run_copy_row_string (P := Tryz.prog) w 192 9 ty 5 g off s.size cap s arr 5 Tryz.underlying192 (by kernel_rfl) hg (Nat.le_refl _) hfit
  refine ⟨_, hr, Only.setRow _ _ _, ?_⟩
  rw [setRow_heap w g _ _ _ _ hg]
  have : (Lib.byteCells s.data.toList).length = s.size := by rw [Lib.byteCells_length]; rfl
  simp [splice, this]
/-- Where old rows lie, with these chunks. -/
def RowsIn (w : World) (size : Nat) (rows : List (List UInt8)) (gs : List Nat) : Prop :=
  ∀ (i : Nat) (row : List UInt8), rows[i]? = some row → ∀ g, gs[i / 16]? = some g → ∀ (k : Nat) (x : UInt8), row[k]? = some x → w.cell? ⟨g, i % 16 * size + k, none⟩ = some (.int .u8 x.toNat)
theorem nodup_at {l : List Nat} (h : l.Nodup) {i j g : Nat} (hi : l[i]? = some g) (hj : l[j]? = some g) : i = j := by
  obtain ⟨h1, e1⟩ := List.getElem?_eq_some_iff.1 hi
  obtain ⟨h2, e2⟩ := List.getElem?_eq_some_iff.1 hj
  exact (List.getElem_inj h).1 (e1.trans e2.symm)
theorem slots_apart {size i j k : Nat} (h : i ≠ j) (hk : k < size) : ¬ (j * size ≤ i * size + k ∧ i * size + k < j * size + size) := by
  rintro ⟨h1, h2⟩
  rcases Nat.lt_or_gt_of_ne h with h3 | h3
  · have := Nat.mul_le_mul_right size (show i + 1 ≤ j from h3)
    rw [Nat.succ_mul] at this
    omega
  · have := Nat.mul_le_mul_right size (show j + 1 ≤ i from h3)
    rw [Nat.succ_mul] at this
    omega
/-- A row is laid at place m of chunk g. -/
theorem RowsIn.lay {w w' : World} {size : Nat} {rows : List (List UInt8)} {gs : List Nat} (h : RowsIn w size rows gs) (hnd : gs.Nodup) (hsz : ∀ r ∈ rows, r.length = size) {n g : Nat} {arr : Array Value} {l : List UInt8} (hg : gs[n / 16]? = some g)
    (ha : w.heap[g]? = some (.cells arr 5 (0, 0))) (hl : l.length = size) (harr : arr.size = 16 * size) (ho : Only g w w') (hw : w'.heap[g]? = some (.cells (splice arr.toList (n % 16 * size) (Lib.byteCells l)).toArray 5 (0, 0)))
    (rows' : List (List UInt8)) (hrows : ∀ i row, rows'[i]? = some row → (i ≠ n ∧ rows[i]? = some row) ∨ (i = n ∧ row = l)) : RowsIn w' size rows' gs := by
  intro i row hr g' hg' k x hx
  have hoff : n % 16 * size + (Lib.byteCells l).length ≤ arr.toList.length := by
    rw [Lib.byteCells_length, hl, Array.length_toList, harr]
    have : n % 16 * size ≤ 15 * size := Nat.mul_le_mul_right _ (by omega)
    omega
  have hbl : (Lib.byteCells l).length = size := by rw [Lib.byteCells_length, hl]
  rcases hrows i row hr with ⟨hne, hr0⟩ | ⟨rfl, rfl⟩
  · have hk : k < size := by rw [← hsz row (List.mem_of_getElem? hr0)]; exact (List.getElem?_eq_some_iff.1 hx).1
    have h0 := h i row hr0 g' hg' k x hx
    by_cases he : g' = g
    · subst he
      have hii := nodup_at hnd hg' hg
      rw [cell_at ha] at h0
      rw [cell_at hw, List.getElem?_toArray, splice_get _ _ _ hoff, hbl]
      have hap := slots_apart (size := size) (i := i % 16) (j := n % 16) (k := k) (by omega) hk
      by_cases h1 : i % 16 * size + k < n % 16 * size
      · rw [if_pos h1]; simpa using h0
      · rw [if_neg h1, if_neg (by omega)]; simpa using h0
    · rw [World.cell?_of_block (w := w) (ho.block g' he)]
      exact h0
  · rw [hg] at hg'
    cases hg'
    have hk : k < size := by rw [← hl]; exact (List.getElem?_eq_some_iff.1 hx).1
    rw [cell_at hw, List.getElem?_toArray, splice_get _ _ _ hoff, hbl, if_neg (by omega), if_pos (by omega)]
    rw [show i % 16 * size + k - i % 16 * size = k by omega]
    simp [Lib.byteCells, hx]
theorem ColMem.only {B : Nat} {w w' : World} {size cap n cb : Nat} {va : Option Addr} {vc : Nat} {gs : List Nat} (h : ColMem B w size cap n cb va vc gs) {g : Nat} (hg : g ∈ gs) {arr : Array Value} (ho : Only g w w') (hw : w'.heap[g]? = some (.cells arr 5 (0, 0))) (ha : arr.size = 16 * size) : ColMem B w' size cap n cb va vc gs := by
  obtain ⟨hgB, old, hold, _⟩ := h.chunk g hg
  refine ⟨keepO ho h.blk (fun e => by subst e; rw [h.blk] at hold; cases hold), ?_, h.hcb, h.nd, fun x hx => ?_, h.hsz, h.hn, h.hcap, h.hgl⟩
  · refine ownsRow_out h.own (Out.only (F := fun b => b = g) ho rfl) (fun x hx e => ?_)
    subst e
    exact ownsRow_ne_block3 h.own hold (fun cur he => by cases he) hx.symm
  · by_cases e : x = g
    · subst e; exact ⟨hgB, arr, hw, ha⟩
    · obtain ⟨h1, a, h2, h3⟩ := h.chunk x hx
      exact ⟨h1, a, keepO ho h2 e, h3⟩
theorem ColMem.setN {B : Nat} {w : World} {size cap n cb : Nat} {va : Option Addr} {vc : Nat} {gs : List Nat} (h : ColMem B w size cap n cb va vc gs) {m : Nat} (hm : m ≤ 65536) : ColMem B (w.setCell ⟨cb, 2, none⟩ (.int .i64 (m : Int))) size cap m cb va vc gs := by
  have ho := Only.at w cb 2 (.int .i64 (m : Int))
  refine ⟨by simpa using hset w cb 2 (.int .i64 (m : Int)) _ _ _ h.blk, ?_, h.hcb, h.nd, fun x hx => ?_, h.hsz, hm, h.hcap, h.hgl⟩
  · refine ownsRow_out h.own (Out.only (F := fun b => b = cb) ho rfl) (fun x hx e => ?_)
    subst e
    exact ownsRow_ne_block3 h.own h.blk (fun cur he => by cases he) hx.symm
  · obtain ⟨h1, a, h2, h3⟩ := h.chunk x hx
    exact ⟨h1, a, keepO ho h2 (fun e => by subst e; rw [h.blk] at h2; cases h2), h3⟩
theorem RowsIn.setN {B : Nat} {w : World} {size cap n cb : Nat} {va : Option Addr} {vc : Nat} {gs : List Nat} (hm : ColMem B w size cap n cb va vc gs) {rows : List (List UInt8)} {sz : Nat} (h : RowsIn w sz rows gs) (o : Nat) (u : Value) : RowsIn (w.setCell ⟨cb, o, none⟩ u) sz rows gs := by
  intro i row hr g hg k x hx
  have h0 := h i row hr g hg k x hx
  obtain ⟨_, a, h2, _⟩ := hm.chunk g (List.mem_of_getElem? hg)
  rw [World.cell?_of_block (w := w) (hset_ne w ⟨cb, o, none⟩ u g (fun e => by subst e; rw [hm.blk] at h2; cases h2))]
  exact h0
end Go.Proofs.YtoadihebdaooaaaGreat
