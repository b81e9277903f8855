/- Columns with rows: how they lie; cell, check, Get. · Columns with rows: Append. -/
import Derived.Test.YthmpknlgkflhiabGreatP10
import Derived.Lib.BufferWrite
import Derived.Deep.DeepCutAuto
import Derived.Lib.SlBuf
import Derived.Deep.RegionHeld3
import Derived.Deep.AppendLies
namespace Go.Proofs.YthmpknlgkflhiabGreat
open Go.RowKit
set_option linter.unusedVariables false
/-- A column's memory: its block, the row of its chunks, the chunks' blocks. -/
def chunkV (size : Nat) (cf : Nat → Nat) (g : Nat) : Value := .slice (some ⟨g, 0, none⟩) (16 * size) (cf g)
structure ColMem (B : Nat) (w : World) (size cap n cb : Nat) (va : Option Addr) (vc : Nat) (gs : List Nat) (cf : Nat → Nat) : Prop where
  blk : w.heap[cb]? = some (.cells #[.int .i64 size, .int .i64 cap, .int .i64 n, .slice va gs.length vc] 202 (0, 0))
  own : w.ownsRow B 189 1 (.slice va gs.length vc) gs.length (gs.map (chunkV size cf))
  hcb : B ≤ cb
  nd : gs.Nodup
  chunk : ∀ g ∈ gs, B ≤ g ∧ ∃ arr : Array Value, w.heap[g]? = some (.cells arr 5 (0, 0)) ∧ arr.size = cf g ∧ ∀ u ∈ arr.toList.take (16 * size), u.oneCell' = true
  hsz : size ≤ 256
  hn : n ≤ 65536
  hcap : cap ≤ 65536
  hgl : gs.length ≤ 4097
  hcf : ∀ g ∈ gs, 16 * size ≤ cf g
structure CD where
  size : Nat
  cap : Nat
  rows : List (List UInt8)
  cb : Nat
  va : Option Addr
  vc : Nat
  gs : List Nat
  cf : Nat → Nat
structure ColAt (B : Nat) (w : World) (d : CD) : Prop where
  mem : ColMem B w d.size d.cap d.rows.length d.cb d.va d.vc d.gs d.cf
  num : d.gs.length = (d.rows.length + 15) / 16
  cell : ∀ (i : Nat) (row : List UInt8), d.rows[i]? = some row → ∀ g, d.gs[i / 16]? = some g → ∀ (k : Nat) (x : UInt8), row[k]? = some x → w.cell? ⟨g, i % 16 * d.size + k, none⟩ = some (.int .u8 x.toNat)
  sz : ∀ r ∈ d.rows, r.length = d.size
  hle : d.rows.length ≤ d.cap
/-- Its own blocks. -/
def CD.foot (d : CD) (b : Nat) : Prop := b = d.cb ∨ (Value.slice d.va d.gs.length d.vc).ownBlock = some b ∨ b ∈ d.gs
theorem ColMem.out {F : Nat → Prop} {B : Nat} {w w' : World} {size cap n cb : Nat} {va : Option Addr} {vc : Nat} {gs : List Nat} {cf : Nat → Nat} (h : ColMem B w size cap n cb va vc gs cf) (ho : Out F w w') (h1 : ¬ F cb) (h2 : ∀ x, (Value.slice va gs.length vc).ownBlock = some x → ¬ F x) (h3 : ∀ g ∈ gs, ¬ F g) : ColMem B w' size cap n cb va vc gs cf :=
  ⟨ho.keep h.blk h1, ownsRow_out h.own ho h2, h.hcb, h.nd, fun g hg => ⟨(h.chunk g hg).1, by obtain ⟨arr, h4, h5⟩ := (h.chunk g hg).2; exact ⟨arr, ho.keep h4 (h3 g hg), h5⟩⟩, h.hsz, h.hn, h.hcap, h.hgl, h.hcf⟩
theorem ColAt.out {F : Nat → Prop} {B : Nat} {w w' : World} {d : CD} (h : ColAt B w d) (ho : Out F w w') (hF : ∀ b, d.foot b → ¬ F b) : ColAt B w' d := by
  refine ⟨h.mem.out ho (hF _ (.inl rfl)) (fun x hx => hF x (.inr (.inl hx))) (fun g hg => hF g (.inr (.inr hg))), h.num, fun i row hr g hg k x hx => ?_, h.sz, h.hle⟩
  have hgm := List.mem_of_getElem? hg
  obtain ⟨_, arr, ha, _⟩ := h.mem.chunk g hgm
  have := h.cell i row hr g hg k x hx
  rw [cell_at ha] at this
  rw [cell_at (ho.keep ha (hF g (.inr (.inr hgm))))]
  exact this
theorem ColAt.foot_ge {B : Nat} {w : World} {d : CD} (h : ColAt B w d) {b : Nat} (hb : d.foot b) : B ≤ b ∧ b < w.heap.size := by
  rcases hb with rfl | hb | hb
  · exact ⟨h.mem.hcb, lt_some h.mem.blk⟩
  · exact h.mem.own.lt b hb
  · obtain ⟨h1, arr, h2, _⟩ := h.mem.chunk b hb
    exact ⟨h1, lt_some h2⟩
/-- Blocks of the mutable types of a column. -/
def ColTy (w : World) (b : Nat) : Prop := ∃ cs t fr, w.heap[b]? = some (.cells cs t fr) ∧ (t = 202 ∨ t = 189 ∨ t = 5)
theorem ColAt.foot_ty {B : Nat} {w : World} {d : CD} (h : ColAt B w d) {b : Nat} (hb : d.foot b) : ColTy w b := by
  rcases hb with rfl | hb | hb
  · exact ⟨_, _, _, h.mem.blk, .inl rfl⟩
  · rcases h.mem.own.2 with ⟨h1, _⟩ | ⟨g, cap, cur, h1, _, h2, _⟩
    · rw [h1] at hb; cases hb
    · rw [h1] at hb
      obtain rfl : g = b := by simpa [Value.ownBlock] using hb
      exact ⟨_, _, _, h2, .inr (.inl rfl)⟩
  · obtain ⟨_, arr, h2, _⟩ := h.mem.chunk b hb
    exact ⟨_, _, _, h2, .inr (.inr rfl)⟩
set_option maxRecDepth 100000 in
set_option maxHeartbeats 1000000 in
theorem colCell_any (B : Nat) (w : World) (size cap n cb : Nat) (va : Option Addr) (vc : Nat) (gs : List Nat) (cf : Nat → Nat) (i g : Nat) (h : ColMem B w size cap n cb va vc gs cf) (hg : gs[i / 16]? = some g) :
    Calls Tryz.prog 120 #[.pointer (some ⟨cb, 0, none⟩), .int .i64 (i : Int)] w fun e w' => e = .returned (.slice (some ⟨g, i % 16 * size, none⟩) size (cf g - i % 16 * size)) ∧ ∃ q, w' = w.drewN q := by
  have hlt := (List.getElem?_eq_some_iff.1 hg).1
  have hgl := h.hgl
  have hsz := h.hsz
  have c0 := cell_at h.blk 0
  have c3 := cell_at h.blk 3
  simp at c0 c3
  obtain ⟨q, rfl, _, _, hq⟩ := row_block h.own (by omega)
  have r0 := hq (i / 16) (chunkV size cf g) (by simp [hg])
  unfold chunkV at r0
  obtain ⟨k, hk⟩ : ∃ k, i / 16 = k := ⟨_, rfl⟩
  obtain ⟨m, hm⟩ : ∃ m, i % 16 = m := ⟨_, rfl⟩
  obtain ⟨a, ha⟩ : ∃ a, m * size = a := ⟨_, rfl⟩
  have hm16 : m < 16 := by omega
  have ha1 : a ≤ 15 * size := by rw [← ha]; exact Nat.mul_le_mul_right _ (by omega)
  rw [hm, ha]
  rw [hk] at r0 hlt
  have k1 : (i : Int) / 16 = (k : Int) := by omega
  have m1 : (i : Int) % 16 = (m : Int) := by omega
  have a1 : IntKind.i64.wrap ((m : Int) * (size : Int)) = (a : Int) := by rw [IntWalk.i64_in _ (by rw [← Int.natCast_mul, ha]; omega), ← Int.natCast_mul, ha]
  obtain ⟨e, he⟩ : ∃ e, e = a + size := ⟨_, rfl⟩
  have s1 : IntKind.i64.wrap ((a : Int) + (size : Int)) = (e : Int) := by rw [IntWalk.i64_in _ (by omega)]; omega
  have td1 : (i : Int).tdiv 16 = (k : Int) := by rw [Int.tdiv_eq_ediv_of_nonneg (by omega)]; exact k1
  have tw1 : IntKind.i64.wrap (k : Int) = (k : Int) := IntWalk.i64_in _ (by omega)
  have i1 : (0 : Int) ≤ (k : Int) := by omega
  have i2 : (k : Int) < (gs.length : Int) := by omega
  have i3 : (0 : Int) ≤ (i : Int) := by omega
  have hi : (i : Int) ≤ 100000 := by omega
  have b1 : (0 : Int) ≤ (a : Int) := by omega
  have b2 : (a : Int) ≤ (e : Int) := by omega
  have hcf := h.hcf g (List.mem_of_getElem? hg)
  generalize cf g = K at *
  have b3 : (e : Int) ≤ (K : Int) := by omega
  have HE := Lib.hid (show e - a = size by omega)
  by_cases hz : size = 0
  · subst hz
    obtain rfl : a = 0 := by omega
    obtain rfl : e = 0 := by omega
    have w0 : IntKind.i64.wrap 0 = 0 := by decide
    clear hg hlt h hq hk hm ha hm16 s1 a1 b1 b2 b3 HE he ha1 hcf
    by_cases hK0 : K = 0
    · subst hK0
      go_enter Tryz.func120, Tryz.ntmps120
      go_wp2_with fail
      go_quiet (fail)
      go_wp2_with fail
      go_returns
      exact ⟨rfl, _, rfl⟩
    · have hK1 : (0 : Int) ≤ (K : Int) := by omega
      go_enter Tryz.func120, Tryz.ntmps120
      go_wp2_with fail
      go_quiet (fail)
      go_wp2_with fail
      go_returns
      exact ⟨rfl, _, rfl⟩
  · have hne : ¬ (K = a) := by omega
    clear hg hlt h hq hk hm ha hm16 hz he hcf
    go_enter Tryz.func120, Tryz.ntmps120
    go_wp2_with fail
    go_quiet (fail)
    go_wp2_with fail
    go_returns
    exact ⟨ret_sl HE.out, _, rfl⟩
set_option maxRecDepth 100000 in
theorem colCheck_any (size cap n cb : Nat) (v : Value) (i : Int) (w : World) (h : w.heap[cb]? = some (.cells #[.int .i64 size, .int .i64 cap, .int .i64 n, v] 202 (0, 0))) :
    Calls Tryz.prog 131 #[.pointer (some ⟨cb, 0, none⟩), .int .i64 i] w fun e w' => e = .returned (.int .i64 (if 0 ≤ i ∧ i < n then 0 else 3)) ∧ w = w' := by
  have c2 := cell_at h 2
  simp at c2
  clear h
  by_cases h0 : 0 ≤ i
  · by_cases h1 : i < n
    · have e1 : decide (i < 0) = false := by simp; omega
      have e2 : decide ((n : Int) ≤ i) = false := by simp; omega
      rw [if_pos ⟨h0, h1⟩]
      go_enter Tryz.func131, Tryz.ntmps131
      go_wp2_with fail
      go_returns
      exact ⟨rfl, rfl⟩
    · have e1 : decide (i < 0) = false := by simp; omega
      have e2 : decide ((n : Int) ≤ i) = true := by simp; omega
      rw [if_neg (fun h => h1 h.2)]
      go_enter Tryz.func131, Tryz.ntmps131
      go_wp2_with fail
      go_returns
      exact ⟨rfl, rfl⟩
  · have e1 : decide (i < 0) = true := by simp; omega
    rw [if_neg (fun h => h0 h.1)]
    go_enter Tryz.func131, Tryz.ntmps131
    go_wp2_with fail
    go_returns
    exact ⟨rfl, rfl⟩
set_option maxRecDepth 100000 in
theorem colGet_any (B : Nat) (w : World) (d : CD) (i : Nat) (row : List UInt8) (h : ColAt B w d) (hr : d.rows[i]? = some row) :
    Calls Tryz.prog 96 #[.pointer (some ⟨d.cb, 0, none⟩), .int .i64 (i : Int)] w fun e w' => e = .returned (.tuple #[.string ⟨row.toArray⟩, .int .i64 0]) ∧ Below w.heap.size w w' := by
  have hi := (List.getElem?_eq_some_iff.1 hr).1
  have hgi : i / 16 < d.gs.length := by have := h.num; omega
  obtain ⟨g, hg⟩ : ∃ g, d.gs[i / 16]? = some g := ⟨_, List.getElem?_eq_getElem hgi⟩
  have hsz := h.sz row (List.mem_of_getElem? hr)
  have hcell := h.cell i row hr g hg
  have hchk := colCheck_any d.size d.cap d.rows.length d.cb _ (i : Int) w h.mem.blk
  rw [if_pos ⟨by omega, by omega⟩] at hchk
  have HCHK := Lib.hid hchk
  have HCELL := Lib.hid (colCell_any B w _ _ _ _ _ _ _ _ i g h.mem hg)
  have hcv : ∀ q, (convert 189 9 (.slice (some ⟨g, i % 16 * d.size, none⟩) d.size (d.cf g - i % 16 * d.size))).run Tryz.prog (w.drewN q) = .ok (.string ⟨row.toArray⟩) (w.drewN q) := by
    intro q
    rw [← hsz]
    refine run_convert_bytes_back (w.drewN q) 189 9 5 ⟨g, i % 16 * row.length, none⟩ _ row Tryz.underlying189 Tryz.underlying5 Tryz.underlying9 (fun j hj => ?_)
    rw [show (⟨g, i % 16 * row.length, none⟩ : Addr).add j = ⟨g, i % 16 * row.length + j, none⟩ from by simp [Addr.add]]
    show w.cell? ⟨g, i % 16 * row.length + j, none⟩ = _
    rw [hsz]
    exact hcell j _ (List.getElem?_eq_getElem hj)
  have HCV := Lib.hid hcv
  clear hcv hchk hcell hsz hgi hi hg hr h
  go_enter Tryz.func96, Tryz.ntmps96
  go_wp2_with fail
  refine HCHK.out.mono ?_
  rintro e w1 ⟨rfl, rfl⟩
  go_wp2_with fail
  refine HCELL.out.mono ?_
  rintro e w1 ⟨rfl, q, rfl⟩
  have hcv := HCV.out q
  clear HCV HCHK HCELL
  go_wp2_with fail
  go_ret2
  exact ⟨rfl, below_drewN (Below.refl _ _) _⟩
end Go.Proofs.YthmpknlgkflhiabGreat
namespace Go.Proofs.YthmpknlgkflhiabGreat
open Go.RowKit
set_option linter.unusedVariables false
theorem splice_get {α : Type} (L : List α) (off : Nat) (cs : List α) (h : off + cs.length ≤ L.length) (j : Nat) : (splice L off cs)[j]? = if j < off then L[j]? else if j < off + cs.length then cs[j - off]? else L[j]? := by
  unfold splice
  by_cases h1 : j < off
  · rw [if_pos h1, List.getElem?_append_left (by rw [List.length_take]; omega), List.getElem?_take, if_pos h1]
  · rw [if_neg h1, List.getElem?_append_right (by rw [List.length_take]; omega), List.length_take, Nat.min_eq_left (by omega)]
    by_cases h2 : j < off + cs.length
    · rw [if_pos h2, List.getElem?_append_left (by omega)]
    · rw [if_neg h2, List.getElem?_append_right (by omega), List.getElem?_drop]
      congr 1; omega
theorem Only.setRow (w : World) (g : Nat) (cs : Array Value) : Only g w (w.setRow g cs) := ⟨rfl, rfl, rfl, by simp [World.setRow], fun k hk => setRow_other w g k cs hk⟩
theorem copy_str (w : World) (ty : TypeId) (g off cap : Nat) (s : ByteArray) (arr : Array Value) (hg : w.heap[g]? = some (.cells arr 5 (0, 0))) (hfit : off + s.size ≤ arr.size) :
    ∃ w', (Builtin.copy_ #[189, 9] ty #[.slice (some ⟨g, off, none⟩) s.size cap, .string s]).run Tryz.prog w = .ok (goInt s.size) w' ∧ Only g w w' ∧ w'.heap[g]? = some (.cells (splice arr.toList off (Lib.byteCells s.data.toList)).toArray 5 (0, 0)) := by
  have hr := Lib.run_copy_row_string (P := Tryz.prog) w 189 9 ty 5 g off s.size cap s arr 5 Tryz.underlying189 (by kernel_rfl) hg (Nat.le_refl _) hfit
  refine ⟨_, hr, Only.setRow _ _ _, ?_⟩
  rw [setRow_heap w g _ _ _ _ hg]
  have : (Lib.byteCells s.data.toList).length = s.size := by rw [Lib.byteCells_length]; rfl
  simp [splice, this]
/-- Where old rows lie, with these chunks. -/
def RowsIn (w : World) (size : Nat) (rows : List (List UInt8)) (gs : List Nat) : Prop :=
  ∀ (i : Nat) (row : List UInt8), rows[i]? = some row → ∀ g, gs[i / 16]? = some g → ∀ (k : Nat) (x : UInt8), row[k]? = some x → w.cell? ⟨g, i % 16 * size + k, none⟩ = some (.int .u8 x.toNat)
theorem nodup_at {l : List Nat} (h : l.Nodup) {i j g : Nat} (hi : l[i]? = some g) (hj : l[j]? = some g) : i = j := by
  obtain ⟨h1, e1⟩ := List.getElem?_eq_some_iff.1 hi
  obtain ⟨h2, e2⟩ := List.getElem?_eq_some_iff.1 hj
  exact (List.getElem_inj h).1 (e1.trans e2.symm)
theorem slots_apart {size i j k : Nat} (h : i ≠ j) (hk : k < size) : ¬ (j * size ≤ i * size + k ∧ i * size + k < j * size + size) := by
  rintro ⟨h1, h2⟩
  rcases Nat.lt_or_gt_of_ne h with h3 | h3
  · have := Nat.mul_le_mul_right size (show i + 1 ≤ j from h3)
    rw [Nat.succ_mul] at this
    omega
  · have := Nat.mul_le_mul_right size (show j + 1 ≤ i from h3)
    rw [Nat.succ_mul] at this
    omega
/-- A row is laid at place m of chunk g. -/
theorem RowsIn.lay {w w' : World} {size : Nat} {rows : List (List UInt8)} {gs : List Nat} (h : RowsIn w size rows gs) (hnd : gs.Nodup) (hsz : ∀ r ∈ rows, r.length = size) {n g : Nat} {arr : Array Value} {l : List UInt8} (hg : gs[n / 16]? = some g)
    (ha : w.heap[g]? = some (.cells arr 5 (0, 0))) (hl : l.length = size) (harr : 16 * size ≤ arr.size) (ho : Only g w w') (hw : w'.heap[g]? = some (.cells (splice arr.toList (n % 16 * size) (Lib.byteCells l)).toArray 5 (0, 0)))
    (rows' : List (List UInt8)) (hrows : ∀ i row, rows'[i]? = some row → (i ≠ n ∧ rows[i]? = some row) ∨ (i = n ∧ row = l)) : RowsIn w' size rows' gs := by
  intro i row hr g' hg' k x hx
  have hoff : n % 16 * size + (Lib.byteCells l).length ≤ arr.toList.length := by
    rw [Lib.byteCells_length, hl, Array.length_toList]
    have : n % 16 * size ≤ 15 * size := Nat.mul_le_mul_right _ (by omega)
    omega
  have hbl : (Lib.byteCells l).length = size := by rw [Lib.byteCells_length, hl]
  rcases hrows i row hr with ⟨hne, hr0⟩ | ⟨rfl, rfl⟩
  · have hk : k < size := by rw [← hsz row (List.mem_of_getElem? hr0)]; exact (List.getElem?_eq_some_iff.1 hx).1
    have h0 := h i row hr0 g' hg' k x hx
    by_cases he : g' = g
    · subst he
      have hii := nodup_at hnd hg' hg
      rw [cell_at ha] at h0
      rw [cell_at hw, List.getElem?_toArray, splice_get _ _ _ hoff, hbl]
      have hap := slots_apart (size := size) (i := i % 16) (j := n % 16) (k := k) (by omega) hk
      by_cases h1 : i % 16 * size + k < n % 16 * size
      · rw [if_pos h1]; simpa using h0
      · rw [if_neg h1, if_neg (by omega)]; simpa using h0
    · rw [World.cell?_of_block (w := w) (ho.block g' he)]
      exact h0
  · rw [hg] at hg'
    cases hg'
    have hk : k < size := by rw [← hl]; exact (List.getElem?_eq_some_iff.1 hx).1
    rw [cell_at hw, List.getElem?_toArray, splice_get _ _ _ hoff, hbl, if_neg (by omega), if_pos (by omega)]
    rw [show i % 16 * size + k - i % 16 * size = k by omega]
    simp [Lib.byteCells, hx]
theorem splice_one {l m : List Value} {off n : Nat} (hl : ∀ u ∈ l.take n, u.oneCell' = true) (hm : ∀ u ∈ m, u.oneCell' = true) (h : off + m.length ≤ l.length) : ∀ u ∈ (splice l off m).take n, u.oneCell' = true := by
  intro u hu
  obtain ⟨i, hi⟩ := List.getElem?_of_mem hu
  rw [List.getElem?_take] at hi
  split at hi
  · rename_i hin
    have ht : ∀ v, l[i]? = some v → v ∈ l.take n := fun v hv => List.mem_of_getElem? (i := i) (by rw [List.getElem?_take, if_pos hin]; exact hv)
    rw [splice_get _ _ _ h] at hi
    split at hi
    · exact hl u (ht u hi)
    · split at hi
      · exact hm u (List.mem_of_getElem? hi)
      · exact hl u (ht u hi)
  · cases hi
theorem bytes_one (l : List UInt8) : ∀ u ∈ Lib.byteCells l, u.oneCell' = true := by
  intro u hu
  unfold Lib.byteCells at hu
  obtain ⟨x, _, rfl⟩ := List.mem_map.1 hu
  rfl
theorem ColMem.only {B : Nat} {w w' : World} {size cap n cb : Nat} {va : Option Addr} {vc : Nat} {gs : List Nat} {cf : Nat → Nat} (h : ColMem B w size cap n cb va vc gs cf) {g : Nat} (hg : g ∈ gs) {arr : Array Value} (ho : Only g w w') (hw : w'.heap[g]? = some (.cells arr 5 (0, 0))) (ha : arr.size = cf g) (h1 : ∀ u ∈ arr.toList.take (16 * size), u.oneCell' = true) : ColMem B w' size cap n cb va vc gs cf := by
  obtain ⟨hgB, old, hold, _⟩ := h.chunk g hg
  refine ⟨keepO ho h.blk (fun e => by subst e; rw [h.blk] at hold; cases hold), ?_, h.hcb, h.nd, fun x hx => ?_, h.hsz, h.hn, h.hcap, h.hgl, h.hcf⟩
  · refine ownsRow_out h.own (Out.only (F := fun b => b = g) ho rfl) (fun x hx e => ?_)
    subst e
    exact ownsRow_ne_block3 h.own hold (fun cur he => by cases he) hx.symm
  · by_cases e : x = g
    · subst e; exact ⟨hgB, arr, hw, ha, h1⟩
    · obtain ⟨h1, a, h2, h3⟩ := h.chunk x hx
      exact ⟨h1, a, keepO ho h2 e, h3⟩
theorem ColMem.setN {B : Nat} {w : World} {size cap n cb : Nat} {va : Option Addr} {vc : Nat} {gs : List Nat} {cf : Nat → Nat} (h : ColMem B w size cap n cb va vc gs cf) {m : Nat} (hm : m ≤ 65536) : ColMem B (w.setCell ⟨cb, 2, none⟩ (.int .i64 (m : Int))) size cap m cb va vc gs cf := by
  have ho := Only.at w cb 2 (.int .i64 (m : Int))
  refine ⟨by simpa using hset w cb 2 (.int .i64 (m : Int)) _ _ _ h.blk, ?_, h.hcb, h.nd, fun x hx => ?_, h.hsz, hm, h.hcap, h.hgl, h.hcf⟩
  · refine ownsRow_out h.own (Out.only (F := fun b => b = cb) ho rfl) (fun x hx e => ?_)
    subst e
    exact ownsRow_ne_block3 h.own h.blk (fun cur he => by cases he) hx.symm
  · obtain ⟨h1, a, h2, h3⟩ := h.chunk x hx
    exact ⟨h1, a, keepO ho h2 (fun e => by subst e; rw [h.blk] at h2; cases h2), h3⟩
theorem RowsIn.setN {B : Nat} {w : World} {size cap n cb : Nat} {va : Option Addr} {vc : Nat} {gs : List Nat} {cf : Nat → Nat} (hm : ColMem B w size cap n cb va vc gs cf) {rows : List (List UInt8)} {sz : Nat} (h : RowsIn w sz rows gs) (o : Nat) (u : Value) : RowsIn (w.setCell ⟨cb, o, none⟩ u) sz rows gs := by
  intro i row hr g hg k x hx
  have h0 := h i row hr g hg k x hx
  obtain ⟨_, a, h2, _⟩ := hm.chunk g (List.mem_of_getElem? hg)
  rw [World.cell?_of_block (w := w) (hset_ne w ⟨cb, o, none⟩ u g (fun e => by subst e; rw [hm.blk] at h2; cases h2))]
  exact h0
end Go.Proofs.YthmpknlgkflhiabGreat
