/- Columns with rows: Append. · Contract of column.Append. · Contracts of column.Swap and Set. -/
import Derived.Test.YtgebbmfoamkfnaaGreatDoorT10
import Derived.Lib.SlBuf
import Derived.Deep.RegionHeld3
import Derived.Deep.AppendLies
import Derived.Deep.RegionLaw
namespace Go.Proofs.YtgebbmfoamkfnaaGreatDoor
open Go.RowKit
set_option linter.unusedVariables false
theorem splice_get {α : Type} (L : List α) (off : Nat) (cs : List α) (h : off + cs.length ≤ L.length) (j : Nat) : (splice L off cs)[j]? = if j < off then L[j]? else if j < off + cs.length then cs[j - off]? else L[j]? := by
 unfold splice
 by_cases h1 : j < off
 ·rw [if_pos h1, List.getElem?_append_left (by rw [List.length_take]; omega), List.getElem?_take, if_pos h1]
 ·rw [if_neg h1, List.getElem?_append_right (by rw [List.length_take]; omega), List.length_take, Nat.min_eq_left (by omega)]
  by_cases h2 : j < off + cs.length
  ·rw [if_pos h2, List.getElem?_append_left (by omega)]
  ·rw [if_neg h2, List.getElem?_append_right (by omega), List.getElem?_drop]
   congr 1; omega
theorem Only.setRow (w : World) (g : Nat) (cs : Array Value) : Only g w (w.setRow g cs) := ⟨rfl, rfl, rfl, by simp [World.setRow], fun k hk => setRow_other w g k cs hk⟩
theorem copy_str (w : World) (ty : TypeId) (g off cap : Nat) (s : ByteArray) (arr : Array Value) (hg : w.heap[g]? = some (.cells arr 5 (0, 0))) (hfit : off + s.size ≤ arr.size) :
  ∃ w', (Builtin.copy_ #[156, 9] ty #[.slice (some ⟨g, off, none⟩) s.size cap, .string s]).run Tryz.prog w = .ok (goInt s.size) w' ∧ Only g w w' ∧ w'.heap[g]? = some (.cells (splice arr.toList off (Lib.byteCells s.data.toList)).toArray 5 (0, 0)) := by
 have hr := Lib.run_copy_row_string (P := Tryz.prog) w 156 9 ty 5 g off s.size cap s arr 5 Tryz.underlying156 (by kernel_rfl) hg (Nat.le_refl _) hfit
 refine ⟨_, hr, Only.setRow _ _ _, ?_⟩
 rw [setRow_heap w g _ _ _ _ hg]
 have : (Lib.byteCells s.data.toList).length = s.size := by rw [Lib.byteCells_length]; rfl
 simp [splice, this]
def RowsIn (w : World) (size : Nat) (rows : List (List UInt8)) (gs : List Nat) : Prop :=
 ∀ (i : Nat) (row : List UInt8), rows[i]? = some row → ∀ g, gs[i / 16]? = some g → ∀ (k : Nat) (x : UInt8), row[k]? = some x → w.cell? ⟨g, i % 16 * size + k, none⟩ = some (.int .u8 x.toNat)
theorem nodup_at {l : List Nat} (h : l.Nodup) {i j g : Nat} (hi : l[i]? = some g) (hj : l[j]? = some g) : i = j := by
 obtain ⟨h1, e1⟩ := List.getElem?_eq_some_iff.1 hi
 obtain ⟨h2, e2⟩ := List.getElem?_eq_some_iff.1 hj
 exact (List.getElem_inj h).1 (e1.trans e2.symm)
theorem slots_apart {size i j k : Nat} (h : i ≠ j) (hk : k < size) : ¬ (j * size ≤ i * size + k ∧ i * size + k < j * size + size) := by
 rintro ⟨h1, h2⟩
 rcases Nat.lt_or_gt_of_ne h with h3 | h3
 ·have := Nat.mul_le_mul_right size (show i + 1 ≤ j from h3)
  rw [Nat.succ_mul] at this
  omega
 ·have := Nat.mul_le_mul_right size (show j + 1 ≤ i from h3)
  rw [Nat.succ_mul] at this
  omega
theorem RowsIn.lay {w w' : World} {size : Nat} {rows : List (List UInt8)} {gs : List Nat} (h : RowsIn w size rows gs) (hnd : gs.Nodup) (hsz : ∀ r ∈ rows, r.length = size) {n g : Nat} {arr : Array Value} {l : List UInt8} (hg : gs[n / 16]? = some g)
  (ha : w.heap[g]? = some (.cells arr 5 (0, 0))) (hl : l.length = size) (harr : 16 * size ≤ arr.size) (ho : Only g w w') (hw : w'.heap[g]? = some (.cells (splice arr.toList (n % 16 * size) (Lib.byteCells l)).toArray 5 (0, 0)))
  (rows' : List (List UInt8)) (hrows : ∀ i row, rows'[i]? = some row → (i ≠ n ∧ rows[i]? = some row) ∨ (i = n ∧ row = l)) : RowsIn w' size rows' gs := by
 intro i row hr g' hg' k x hx
 have hoff : n % 16 * size + (Lib.byteCells l).length ≤ arr.toList.length := by
  rw [Lib.byteCells_length, hl, Array.length_toList]
  have : n % 16 * size ≤ 15 * size := Nat.mul_le_mul_right _ (by omega)
  omega
 have hbl : (Lib.byteCells l).length = size := by rw [Lib.byteCells_length, hl]
 rcases hrows i row hr with ⟨hne, hr0⟩ | ⟨rfl, rfl⟩
 ·have hk : k < size := by rw [← hsz row (List.mem_of_getElem? hr0)]; exact (List.getElem?_eq_some_iff.1 hx).1
  have h0 := h i row hr0 g' hg' k x hx
  by_cases he : g' = g
  ·subst he
   have hii := nodup_at hnd hg' hg
   rw [cell_at ha] at h0
   rw [cell_at hw, List.getElem?_toArray, splice_get _ _ _ hoff, hbl]
   have hap := slots_apart (size := size) (i := i % 16) (j := n % 16) (k := k) (by omega) hk
   by_cases h1 : i % 16 * size + k < n % 16 * size
   ·rw [if_pos h1]; simpa using h0
   ·rw [if_neg h1, if_neg (by omega)]; simpa using h0
  ·rw [World.cell?_of_block (w := w) (ho.block g' he)]
   exact h0
 ·rw [hg] at hg'
  cases hg'
  have hk : k < size := by rw [← hl]; exact (List.getElem?_eq_some_iff.1 hx).1
  rw [cell_at hw, List.getElem?_toArray, splice_get _ _ _ hoff, hbl, if_neg (by omega), if_pos (by omega)]
  rw [show i % 16 * size + k - i % 16 * size = k by omega]
  simp [Lib.byteCells, hx]
theorem splice_one {l m : List Value} {off n : Nat} (hl : ∀ u ∈ l.take n, u.oneCell' = true) (hm : ∀ u ∈ m, u.oneCell' = true) (h : off + m.length ≤ l.length) : ∀ u ∈ (splice l off m).take n, u.oneCell' = true := by
 intro u hu
 obtain ⟨i, hi⟩ := List.getElem?_of_mem hu
 rw [List.getElem?_take] at hi
 split at hi
 ·rename_i hin
  have ht : ∀ v, l[i]? = some v → v ∈ l.take n := fun v hv => List.mem_of_getElem? (i := i) (by rw [List.getElem?_take, if_pos hin]; exact hv)
  rw [splice_get _ _ _ h] at hi
  split at hi
  ·exact hl u (ht u hi)
  ·split at hi
   ·exact hm u (List.mem_of_getElem? hi)
   ·exact hl u (ht u hi)
 ·cases hi
theorem bytes_one (l : List UInt8) : ∀ u ∈ Lib.byteCells l, u.oneCell' = true := by
 intro u hu
 unfold Lib.byteCells at hu
 obtain ⟨x, _, rfl⟩ := List.mem_map.1 hu
 rfl
theorem ColMem.only {B : Nat} {w w' : World} {size cap n cb : Nat} {va : Option Addr} {vc : Nat} {gs : List Nat} {cf : Nat → Nat} (h : ColMem B w size cap n cb va vc gs cf) {g : Nat} (hg : g ∈ gs) {arr : Array Value} (ho : Only g w w') (hw : w'.heap[g]? = some (.cells arr 5 (0, 0))) (ha : arr.size = cf g) (h1 : ∀ u ∈ arr.toList.take (16 * size), u.oneCell' = true) : ColMem B w' size cap n cb va vc gs cf := by
 obtain ⟨hgB, old, hold, _⟩ := h.chunk g hg
 refine ⟨keepO ho h.blk (fun e => by subst e; rw [h.blk] at hold; cases hold), ?_, h.hcb, h.nd, fun x hx => ?_, h.hsz, h.hn, h.hcap, h.hgl, h.hcf⟩
 ·refine ownsRow_out h.own (Out.only (F := fun b => b = g) ho rfl) (fun x hx e => ?_)
  subst e
  exact ownsRow_ne_block3 h.own hold (fun cur he => by cases he) hx.symm
 ·by_cases e : x = g
  ·subst e; exact ⟨hgB, arr, hw, ha, h1⟩
  ·obtain ⟨h1, a, h2, h3⟩ := h.chunk x hx
   exact ⟨h1, a, keepO ho h2 e, h3⟩
theorem ColMem.setN {B : Nat} {w : World} {size cap n cb : Nat} {va : Option Addr} {vc : Nat} {gs : List Nat} {cf : Nat → Nat} (h : ColMem B w size cap n cb va vc gs cf) {m : Nat} (hm : m ≤ 65536) : ColMem B (w.setCell ⟨cb, 2, none⟩ (.int .i64 (m : Int))) size cap m cb va vc gs cf := by
 have ho := Only.at w cb 2 (.int .i64 (m : Int))
 refine ⟨by simpa using hset w cb 2 (.int .i64 (m : Int)) _ _ _ h.blk, ?_, h.hcb, h.nd, fun x hx => ?_, h.hsz, hm, h.hcap, h.hgl, h.hcf⟩
 ·refine ownsRow_out h.own (Out.only (F := fun b => b = cb) ho rfl) (fun x hx e => ?_)
  subst e
  exact ownsRow_ne_block3 h.own h.blk (fun cur he => by cases he) hx.symm
 ·obtain ⟨h1, a, h2, h3⟩ := h.chunk x hx
  exact ⟨h1, a, keepO ho h2 (fun e => by subst e; rw [h.blk] at h2; cases h2), h3⟩
theorem RowsIn.setN {B : Nat} {w : World} {size cap n cb : Nat} {va : Option Addr} {vc : Nat} {gs : List Nat} {cf : Nat → Nat} (hm : ColMem B w size cap n cb va vc gs cf) {rows : List (List UInt8)} {sz : Nat} (h : RowsIn w sz rows gs) (o : Nat) (u : Value) : RowsIn (w.setCell ⟨cb, o, none⟩ u) sz rows gs := by
 intro i row hr g hg k x hx
 have h0 := h i row hr g hg k x hx
 obtain ⟨_, a, h2, _⟩ := hm.chunk g (List.mem_of_getElem? hg)
 rw [World.cell?_of_block (w := w) (hset_ne w ⟨cb, o, none⟩ u g (fun e => by subst e; rw [hm.blk] at h2; cases h2))]
 exact h0
end Go.Proofs.YtgebbmfoamkfnaaGreatDoor
namespace Go.Proofs.YtgebbmfoamkfnaaGreatDoor
open Go.RowKit
set_option linter.unusedVariables false
theorem Tryz.info156 : (Tryz.prog.info? 156).map (fun i => (i.zero, i.size, i.bytes)) = some (some (.slice none 0 0), 1, 24) := by kernel_rfl
theorem ColMem.drewN {B : Nat} {w : World} {size cap n cb : Nat} {va : Option Addr} {vc : Nat} {gs : List Nat} {cf : Nat → Nat} (h : ColMem B w size cap n cb va vc gs cf) (m : Nat) : ColMem B (w.drewN m) size cap n cb va vc gs cf := h.out ((Out.refl (fun _ => False) w).drewN m) (by simp) (by simp) (by simp)
theorem RowsIn.drewN {w : World} {size : Nat} {rows : List (List UInt8)} {gs : List Nat} (h : RowsIn w size rows gs) (m : Nat) : RowsIn (w.drewN m) size rows gs := h
theorem col_push {B : Nat} {w w2 : World} {d : CD} {va : Option Addr} {vc : Nat} {gs : List Nat} {cf : Nat → Nat} {g : Nat} {arr : Array Value} (l : List UInt8) (hm : ColMem B w d.size d.cap d.rows.length d.cb va vc gs cf) (hR : RowsIn w d.size d.rows gs) (hsz : ∀ r ∈ d.rows, r.length = d.size)
  (hnum : gs.length = (d.rows.length + 1 + 15) / 16) (hcap : d.rows.length < d.cap) (hg : gs[d.rows.length / 16]? = some g) (ha : w.heap[g]? = some (.cells arr 5 (0, 0))) (hal : arr.size = cf g) (hone : ∀ u ∈ arr.toList.take (16 * d.size), u.oneCell' = true) (hl : l.length = d.size) (ho : Only g w w2)
  (hw : w2.heap[g]? = some (.cells (splice arr.toList (d.rows.length % 16 * d.size) (Lib.byteCells l)).toArray 5 (0, 0))) :
  ColAt B (w2.setCell ⟨d.cb, 2, none⟩ (.int .i64 ((d.rows.length + 1 : Nat) : Int))) { d with rows := d.rows ++ [l], va := va, vc := vc, gs := gs, cf := cf } := by
 have hgm := List.mem_of_getElem? hg
 have hoff : d.rows.length % 16 * d.size ≤ 15 * d.size := Nat.mul_le_mul_right _ (by omega)
 have hcf := hm.hcf g hgm
 have hm2 := hm.only hgm ho hw (by
  have h1 : (Lib.byteCells l).length = l.length := Lib.byteCells_length l
  have h2 : arr.toList.length = arr.size := Array.length_toList
  rw [List.size_toArray, length_splice _ _ _ (by omega)]; omega) (by
  have h1 : (Lib.byteCells l).length = l.length := Lib.byteCells_length l
  have h2 : arr.toList.length = arr.size := Array.length_toList
  rw [List.toList_toArray]; exact splice_one hone (bytes_one l) (show d.rows.length % 16 * d.size + (Lib.byteCells l).length ≤ arr.toList.length by omega))
 have hR2 : RowsIn w2 d.size (d.rows ++ [l]) gs := hR.lay hm.nd hsz hg ha hl (by omega) ho hw _ (fun i row hr => by
  by_cases h1 : i < d.rows.length
  ·rw [List.getElem?_append_left h1] at hr; exact .inl ⟨by omega, hr⟩
  ·rw [List.getElem?_append_right (by omega)] at hr
   by_cases h2 : i = d.rows.length
   ·subst h2; simp at hr; exact .inr ⟨rfl, hr.symm⟩
   ·have : i - d.rows.length ≠ 0 := by omega
    obtain ⟨j, hj⟩ : ∃ j, i - d.rows.length = j + 1 := ⟨i - d.rows.length - 1, by omega⟩
    rw [hj] at hr; simp at hr)
 have hc := hm.hcap
 have hm3 := hm2.setN (m := d.rows.length + 1) (by omega)
 have hR3 := RowsIn.setN hm2 hR2 2 (.int .i64 ((d.rows.length + 1 : Nat) : Int))
 refine ⟨by simpa using hm3, by simpa using hnum, hR3, fun r hr => ?_, by simp; omega⟩
 rcases List.mem_append.1 hr with hr | hr
 ·exact hsz r hr
 ·simp at hr; rw [hr]; exact hl
theorem ColMem.chunkMore {B : Nat} {w w1 : World} {size cap n cb : Nat} {va : Option Addr} {vc : Nat} {gs : List Nat} {cf : Nat → Nat} (h : ColMem B w size cap n cb va vc gs cf) {gn q vc' : Nat} (hgn : w.heap.size ≤ gn) (hB : B ≤ w.heap.size) (hl : gs.length + 1 ≤ 4097)
  {arr : Array Value} (hgr : ∀ k o, w.heap[k]? = some o → some k ≠ (Value.slice va gs.length vc).ownBlock → w1.heap[k]? = some o) (hnew : w1.heap[gn]? = some (.cells arr 5 (0, 0))) (har : arr.size = 16 * size) (h1c : ∀ u ∈ arr.toList.take (16 * size), u.oneCell' = true)
  (hown : w1.ownsRow B 156 1 (.slice (some ⟨q, 0, none⟩) (gs.length + 1) vc') (gs.length + 1) (gs.map (chunkV size cf) ++ [.slice (some ⟨gn, 0, none⟩) (16 * size) (16 * size)])) :
  ColMem B (w1.setCell ⟨cb, 3, none⟩ (.slice (some ⟨q, 0, none⟩) (gs.length + 1) vc')) size cap n cb (some ⟨q, 0, none⟩) vc' (gs ++ [gn]) (fun x => if x = gn then 16 * size else cf x) := by
 have hb1 := hgr cb _ h.blk (ownsRow_ne_block3 h.own h.blk (fun cur he => by cases he))
 have ho := Only.at w1 cb 3 (.slice (some ⟨q, 0, none⟩) (gs.length + 1) vc')
 have hno : ∀ x ∈ gs, x ≠ gn := fun x hx e => by
  subst e
  obtain ⟨_, arr', h2, _⟩ := h.chunk x hx
  have := lt_some h2
  omega
 refine ⟨?_, ?_, h.hcb, ?_, fun x hx => ?_, h.hsz, h.hn, h.hcap, by rw [List.length_append]; exact hl, fun x hx => ?_⟩
 ·rw [List.length_append]
  simpa using hset w1 cb 3 (.slice (some ⟨q, 0, none⟩) (gs.length + 1) vc') _ _ _ hb1
 ·rw [List.length_append, List.map_append]
  have e1 : gs.map (chunkV size fun x => if x = gn then 16 * size else cf x) = gs.map (chunkV size cf) := List.map_congr_left (fun x hx => by unfold chunkV; simp only [if_neg (hno x hx)])
  have e2 : [gn].map (chunkV size fun x => if x = gn then 16 * size else cf x) = [.slice (some ⟨gn, 0, none⟩) (16 * size) (16 * size)] := by simp [chunkV]
  rw [e1, e2]
  refine ownsRow_out hown (Out.only (F := fun b => b = cb) ho rfl) (fun x hx e => ?_)
  subst e
  exact ownsRow_ne_block3 hown hb1 (fun cur he => by cases he) hx.symm
 ·rw [List.nodup_append]
  refine ⟨h.nd, by simp, fun a ha b hb => ?_⟩
  simp at hb
  subst hb
  obtain ⟨_, arr', h2, _⟩ := h.chunk a ha
  have := lt_some h2
  omega
 ·rcases List.mem_append.1 hx with hx | hx
  ·obtain ⟨h1, a, h2, h3⟩ := h.chunk x hx
   have := hgr x _ h2 (ownsRow_ne_block3 h.own h2 (fun cur he => by cases he))
   exact ⟨h1, a, keepO ho this (fun e => by subst e; rw [h.blk] at h2; cases h2), by simp only [if_neg (hno x hx)]; exact h3.1, h3.2⟩
  ·simp at hx
   subst hx
   exact ⟨by omega, arr, keepO ho hnew (fun e => by subst e; have := lt_some h.blk; omega), by simp only [if_pos]; exact har, h1c⟩
 ·rcases List.mem_append.1 hx with hx | hx
  ·simp only [if_neg (hno x hx)]; exact h.hcf x hx
  ·simp at hx
   subst hx
   simp only [if_pos]
   exact Nat.le_refl _
theorem make_bytes (n : Nat) (h : n ≤ 100000) (w : World) : (Instr.makeSlice 156 (.int .i64 (n : Int)) (.int .i64 (n : Int))).run Tryz.prog w = .ok (.slice (some ⟨w.heap.size, 0, none⟩) n n) (w.alloc (.cells (madeCells #[.int .u8 0] n) 5)) := by
 obtain ⟨i0, hi, hz0, hz1, hz2⟩ := info_parts Tryz.info5
 have := run_makeSlice (P := Tryz.prog) w 156 5 i0 (.int .u8 0) Tryz.underlying156 hi hz0 .i64 .i64 (n : Int) (n : Int) (by omega) (Int.le_refl _) (by rw [hz1, Int.toNat_natCast]; omega) (by rw [hz2]; omega) (by omega)
 rw [hz1, Int.toNat_natCast, Nat.mul_one] at this
 exact this
set_option maxRecDepth 100000 in
set_option maxHeartbeats 4000000 in
theorem colAppend_any (B : Nat) (w : World) (d : CD) (s : ByteArray) (h : ColAt B w d) (hs : s.size = d.size) (hc : d.rows.length < d.cap) (hB : B ≤ w.heap.size) :
  Calls Tryz.prog 94 #[.pointer (some ⟨d.cb, 0, none⟩), .string s] w fun e w' => e = .returned (.int .i64 0) ∧ ∃ va vc gs cf, ColAt B w' { d with rows := d.rows ++ [s.data.toList], va := va, vc := vc, gs := gs, cf := cf } ∧ Out d.foot w w' ∧ (∀ b, CD.foot { d with rows := d.rows ++ [s.data.toList], va := va, vc := vc, gs := gs, cf := cf } b → d.foot b ∨ w.heap.size ≤ b) := by
 obtain ⟨size, cap, rows, cb, va, vc, gs, cf⟩ := d
 simp only at hs hc ⊢
 obtain ⟨hm, hnum, hcell, hsz, hle⟩ := h
 simp only at hm hnum hcell hsz hle
 have hcap := hm.hcap
 have hsz256 := hm.hsz
 have hgl := hm.hgl
 have c0 := cell_at hm.blk 0
 have c1 := cell_at hm.blk 1
 have c2 := cell_at hm.blk 2
 have c3 := cell_at hm.blk 3
 simp at c0 c1 c2 c3
 have e1 : ((s.size : Int) != (size : Int)) = false := by rw [hs]; simp
 obtain ⟨n, hn⟩ : ∃ n, rows.length = n := ⟨_, rfl⟩
 obtain ⟨G, hG⟩ : ∃ G, gs.length = G := ⟨_, rfl⟩
 have e2 : ((n : Int) == (cap : Int)) = false := by rw [beq_eq_false_iff_ne]; omega
 rw [hn] at c2
 rw [hG] at c3
 have w1 : IntKind.i64.wrap ((G : Int) * 16) = (G : Int) * 16 := IntWalk.i64_in _ (by omega)
 rw [hn] at hnum hm hc hle
 rw [hG] at hnum
 have HM := Lib.hid hm
 have HR := Lib.hid (show RowsIn w size rows gs from hcell)
 have HSZ := Lib.hid hsz
 have HN := Lib.hid hn
 have HG := Lib.hid hG
 have HS := Lib.hid hs
 have HNUM := Lib.hid hnum
 clear hnum
 by_cases hch : n = G * 16
 ·have e3 : ((n : Int) == (G : Int) * 16) = true := by rw [beq_iff_eq]; omega
  obtain ⟨i0, hi, hz0, hz1, hz2⟩ := info_parts Tryz.info156
  obtain ⟨K, hK⟩ : ∃ K, 16 * size = K := ⟨_, rfl⟩
  have hK1 : IntKind.i64.wrap (16 * (size : Int)) = (K : Int) := by rw [IntWalk.i64_in _ (by omega)]; omega
  have hK2 : K ≤ 5000 := by omega
  have hmk := make_bytes K (by omega)
  have HZ := Lib.hid (show (madeCells #[.int .u8 0] K).size = K from size_madeCells _ _)
  have HZ1 := Lib.hid (show ∀ u ∈ (madeCells #[.int .u8 0] K).toList.take (16 * size), u.oneCell' = true from fun u hu => by have hu := List.mem_of_mem_take hu; rw [toList_madeCells_one] at hu; rw [List.eq_of_mem_replicate hu]; rfl)
  generalize madeCells #[.int .u8 0] K = Z at *
  have HK := Lib.hid hK
  have HCH := Lib.hid hch
  clear hch hm hcell hsz hn hG hs hK
  go_enter Tryz.func94, Tryz.ntmps94
  go_wp2_with fail
  go_quiet (fail)
  obtain ⟨n1, rfl⟩ : ∃ n1, n1 = nq := ⟨_, rfl⟩
  go_wp2_with fail
  go_quiet (fail)
  obtain ⟨n2, rfl⟩ : ∃ n2, n2 = nq := ⟨_, rfl⟩
  go_wp2_with fail
  have hMW := (HM.out.drewN n1).drewN n2
  have hRW := (HR.out.drewN n1).drewN n2
  have hOW := ((Out.refl (CD.foot ⟨size, cap, rows, cb, va, vc, gs, cf⟩) w).drewN n1).drewN n2
  have hBW : B ≤ ((w.drewN n1).drewN n2).heap.size := hB
  clear c0 c1 c2 c3
  generalize (w.drewN n1).drewN n2 = W at *
  have c0 := cell_at hMW.blk 0
  have c3 := cell_at hMW.blk 3
  rw [HG.out] at c3
  simp at c0 c3
  have hcbW := lt_some hMW.blk
  have HMW := Lib.hid hMW
  have HRW := Lib.hid hRW
  have HOW := Lib.hid hOW
  have hown : (((W.alloc (.cells Z 5)).alloc (.cells #[.slice (some ⟨W.heap.size, 0, none⟩) K K] 156)).drew).ownsRow B 156 1 (.slice va G vc) G (gs.map (chunkV size cf)) := by
   have := ((hMW.own.alloc (.cells Z 5)).alloc (.cells #[.slice (some ⟨W.heap.size, 0, none⟩) K K] 156))
   rw [HG.out] at this
   exact this
  have hnews : ∀ j u, ([.slice (some ⟨W.heap.size, 0, none⟩) K K] : List Value)[j]? = some u → (((W.alloc (.cells Z 5)).alloc (.cells #[.slice (some ⟨W.heap.size, 0, none⟩) K K] 156)).drew).cell? ((⟨W.heap.size + 1, 0, none⟩ : Addr).add j) = some u := by
   have := World.news_of_block (w := ((W.alloc (.cells Z 5)).alloc (.cells #[.slice (some ⟨W.heap.size, 0, none⟩) K K] 156)).drew) (cs := #[.slice (some ⟨W.heap.size, 0, none⟩) K K]) (t := 156) (fr := (0, 0)) (heap_alloc_new (W.alloc (.cells Z 5)) _)
   rw [World.size_alloc] at this
   exact this
  have hd : ∀ w6, (((W.alloc (.cells Z 5)).alloc (.cells #[.slice (some ⟨W.heap.size, 0, none⟩) K K] 156)).drew).grownBy w6 (Value.slice va G vc).ownBlock → w6.cell? ⟨cb, 3, none⟩ = some (.slice va G vc) ∧ w6.cell? ⟨cb, 0, none⟩ = some (.int .i64 size) ∧ w6.frozen? ⟨cb, 3, none⟩ = false := by
   intro w6 hg6
   have hb6 := keepG hg6 (show (((W.alloc (.cells Z 5)).alloc (.cells #[.slice (some ⟨W.heap.size, 0, none⟩) K K] 156)).drew).heap[cb]? = _ from keepA _ (keepA _ HMW.out.blk)) (by
    have := ownsRow_ne_block3 HMW.out.own HMW.out.blk (fun cur he => by cases he)
    rw [HG.out] at this
    exact this)
   refine ⟨?_, ?_, free_at hb6 3⟩
   ·rw [cell_at hb6, HG.out]; rfl
   ·rw [cell_at hb6]; rfl
  have HOWN := Lib.hid hown
  have HNEWS := Lib.hid hnews
  have HD := Lib.hid hd
  clear hMW hRW hOW hown hnews hd
  have hG4 : G ≤ 4097 := by have := HG.out; omega
  have hm1 : G + 1 ≤ maxLen := by unfold maxLen; omega
  have hm2 : (G + 1) * 24 ≤ 140737488355328 := by omega
  go_region_law (first | (refine step_append_lies _ (by rfl) _ _ 221 (by rfl) B 156 i0 _ 1 24 Tryz.underlying221 hi hz0 hz1 hz2 rfl (by omega) (.slice va G vc) G (gs.map (chunkV size cf)) (by rfl) HOWN.out ⟨W.heap.size + 1, 0, none⟩ 1 1 [.slice (some ⟨W.heap.size, 0, none⟩) K K] (by rfl) (by rfl) HNEWS.out (by intro u hu; simp at hu; subst hu; rfl) (by omega) hm1 hm2 (by simp; omega) (W.heap.size + 2) (by simp) ?_; intro gq cap6 w6 hown6 hg6 hat6 hlt6; obtain ⟨d0, d1, d2⟩ := HD.out _ hg6))
  all_goals
   have hblk6 : ∀ k o, W.heap[k]? = some o → some k ≠ (Value.slice va gs.length vc).ownBlock → w6.heap[k]? = some o := by
    intro k o hk hne
    rw [HG.out] at hne
    exact keepG hg6 (keepA _ (keepA _ hk)) hne
   have hnew6 : w6.heap[W.heap.size]? = some (.cells Z 5 (0, 0)) := keepG hg6 (keepA _ (heap_alloc_new W _)) (fun e => by have := HOWN.out.lt _ e.symm; rw [← HG.out] at e; have h2 := HMW.out.own.lt _ e.symm; omega)
   have hm3 := HMW.out.chunkMore (Nat.le_refl _) hBW (by have h1 := HCH.out; have h2 := HG.out; omega) hblk6 hnew6 (by rw [HZ.out, HK.out]) HZ1.out (by
    rw [HG.out]
    rw [HK.out]
    exact hown6)
   rw [HG.out] at hm3
   have hout3 : Out (CD.foot ⟨size, cap, rows, cb, va, vc, gs, cf⟩) w (w6.setCell ⟨cb, 3, none⟩ (.slice (some ⟨gq, 0, none⟩) (G + 1) cap6)) := by
    have h1 : Out (CD.foot ⟨size, cap, rows, cb, va, vc, gs, cf⟩) W w6 := ⟨hg6.os, hg6.tape, hg6.output, by have := hg6.size; simp at this; omega, fun k hk hF => (hg6.block k (by simp; omega) (fun e => hF (.inr (.inl (by rw [HG.out]; exact e.symm))))).trans (by
     show (((W.alloc (.cells Z 5)).alloc (.cells #[.slice (some ⟨W.heap.size, 0, none⟩) K K] 156)).drew).heap[k]? = _
     show ((W.alloc (.cells Z 5)).alloc (.cells #[.slice (some ⟨W.heap.size, 0, none⟩) K K] 156)).heap[k]? = _
     rw [halloc, if_neg (by simp; omega), halloc, if_neg (by omega)])⟩
    exact (HOW.out.trans h1 (fun x h => .inl h)).trans (Out.only (Only.at w6 cb 3 _) (.inl rfl)) (fun x h => .inl h)
   have hrow3 : RowsIn (w6.setCell ⟨cb, 3, none⟩ (.slice (some ⟨gq, 0, none⟩) (G + 1) cap6)) size rows (gs ++ [W.heap.size]) := by
    intro i row hr g hg k x hx
    have hi := (List.getElem?_eq_some_iff.1 hr).1
    have h1 := HNUM.out
    have h2 := HN.out
    have h3 := HG.out
    rw [List.getElem?_append_left (by omega)] at hg
    have h4 := HRW.out i row hr g hg k x hx
    obtain ⟨_, a, h5, _⟩ := HMW.out.chunk g (List.mem_of_getElem? hg)
    have h6 := hblk6 g _ h5 (ownsRow_ne_block3 HMW.out.own h5 (fun cur he => by cases he))
    have h7 : g ≠ cb := fun e => by subst e; have := HMW.out.blk; rw [this] at h5; cases h5
    rw [cell_at h5] at h4
    rw [cell_at (keepO (Only.at w6 cb 3 _) h6 h7)]
    exact h4
   have hszW := HOW.out.size
   have hgn : ∃ gn, W.heap.size = gn := ⟨_, rfl⟩
   obtain ⟨gn, hgn⟩ := hgn
   rw [hgn] at hm3 hrow3 hat6 hszW
   have hlen3 : (gs ++ [gn]).length = G + 1 := by rw [List.length_append, HG.out]; rfl
   have hnG : n / 16 < G + 1 := by have := HCH.out; omega
   generalize w6.setCell ⟨cb, 3, none⟩ (.slice (some ⟨gq, 0, none⟩) (G + 1) cap6) = W3 at *
   obtain ⟨GS, hGS⟩ : ∃ GS, gs ++ [gn] = GS := ⟨_, rfl⟩
   rw [hGS] at hm3 hrow3 hlen3
   obtain ⟨cf2, hcf2⟩ : ∃ cf2 : Nat → Nat, (fun x => if x = gn then 16 * size else cf x) = cf2 := ⟨_, rfl⟩
   rw [hcf2] at hm3
   clear hcf2
   have c2 := cell_at hm3.blk 2
   simp at c2
   have HM3 := Lib.hid hm3
   have HR3 := Lib.hid hrow3
   have HO3 := Lib.hid hout3
   have HL3 := Lib.hid hlen3
   have HGS := Lib.hid hGS
   have HAT := Lib.hid hat6
   clear hm3 hrow3 hout3 hlen3 hGS hgn hat6 hblk6 hnew6 d0 d1 d2 c0 c3 hg6 hown6
   go_wp2_with fail
   obtain ⟨g, hgg⟩ : ∃ g, GS[n / 16]? = some g := ⟨_, List.getElem?_eq_getElem (by rw [HL3.out]; omega)⟩
   have HGG := Lib.hid hgg
   refine (colCell_any B _ size cap n cb _ _ GS cf2 n g HM3.out hgg).mono ?_
   rintro e w1 ⟨rfl, q, rfl⟩
   clear hgg
   obtain ⟨arr, harr, hal, hone⟩ := (HM3.out.chunk g (List.mem_of_getElem? HGG.out)).2
   have hcfg := HM3.out.hcf g (List.mem_of_getElem? HGG.out)
   have hoff : n % 16 * size + s.size ≤ arr.size := by
    have h1 : n % 16 * size ≤ 15 * size := Nat.mul_le_mul_right _ (by omega)
    have h2 := HS.out
    omega
   obtain ⟨w2, hr, ho, hh⟩ := copy_str (W3.drewN q) 3 g (n % 16 * size) (cf2 g - n % 16 * size) s arr harr hoff
   rw [HS.out] at hr
   have hm2 : ColMem B w2 size cap n cb _ _ GS cf2 := (HM3.out.drewN q).only (List.mem_of_getElem? HGG.out) ho hh (by
    have h3 : (Lib.byteCells s.data.toList).length = s.size := by rw [Lib.byteCells_length]; rfl
    have h4 : arr.toList.length = arr.size := Array.length_toList
    rw [List.size_toArray, length_splice _ _ _ (by omega)]; omega) (by
    have h3 : (Lib.byteCells s.data.toList).length = s.size := by rw [Lib.byteCells_length]; rfl
    have h4 : arr.toList.length = arr.size := Array.length_toList
    rw [List.toList_toArray]; exact splice_one hone (bytes_one s.data.toList) (show n % 16 * size + (Lib.byteCells s.data.toList).length ≤ arr.toList.length by omega))
   have d2 := cell_at hm2.blk 2
   have d3 := free_at hm2.blk 2
   simp at d2
   have HHR := Lib.hid hr
   have HHO := Lib.hid ho
   have HHH := Lib.hid hh
   have HAR := Lib.hid harr
   have HAL := Lib.hid hal
   have HONE := Lib.hid hone
   clear hr ho hh hm2 harr hal hoff hone
   go_wp2_with (first | (refine Lib.wpList_copy_run _ rfl _ _ 156 9 rfl _ _ rfl rfl HHR.out ?_))
   go_returns
   have hsl : s.data.toList.length = size := by have := HS.out; exact this
   have hcol := col_push (d := ⟨size, cap, rows, cb, va, vc, gs, cf⟩) s.data.toList (by simpa [HN.out] using HM3.out.drewN q) (HR3.out.drewN q) HSZ.out (by simp only [HN.out]; have h1 := HL3.out; have h2 := HCH.out; omega) (by simp only [HN.out]; exact hc) (by simpa [HN.out] using HGG.out) HAR.out HAL.out HONE.out hsl HHO.out (by simp only [HN.out]; exact HHH.out)
   simp only [HN.out] at hcol
   refine ⟨rfl, _, _, GS, cf2, hcol, ?_, ?_⟩
   ·have hcbw := lt_some HM.out.blk
    refine ((HO3.out.drewN q).trans (Out.only (F := fun b => b ∈ GS) HHO.out (List.mem_of_getElem? HGG.out)) (fun x h => ?_)).trans (Out.only (Only.at w2 cb 2 _) (.inl rfl)) (fun x h => .inl h)
    rw [← HGS.out] at h
    rcases List.mem_append.1 h with h | h
    ·exact .inl (.inr (.inr h))
    ·simp at h; exact .inr (by omega)
   ·intro b hb
    rcases hb with rfl | hb | hb
    ·exact .inl (.inl rfl)
    ·have hb' : gq = b := by simpa [Value.ownBlock] using hb
     subst hb'
     rcases HAT.out with h | h
     ·exact .inl (.inr (.inl (by rw [HG.out]; exact h)))
     ·exact .inr (by omega)
    ·have hb' : b ∈ GS := hb
     rw [← HGS.out] at hb'
     rcases List.mem_append.1 hb' with h | h
     ·exact .inl (.inr (.inr h))
     ·simp at h; exact .inr (by omega)
 ·have e3 : ((n : Int) == (G : Int) * 16) = false := by rw [beq_eq_false_iff_ne]; omega
  have hnG : n / 16 < G := by have := HNUM.out; omega
  clear hm hcell hsz hn hG hs hch
  go_enter Tryz.func94, Tryz.ntmps94
  go_wp2_with fail
  go_quiet (fail)
  obtain ⟨n1, rfl⟩ : ∃ n1, n1 = nq := ⟨_, rfl⟩
  go_wp2_with fail
  go_quiet (fail)
  obtain ⟨n2, rfl⟩ : ∃ n2, n2 = nq := ⟨_, rfl⟩
  have HMW := Lib.hid (HM.out.drewN (n1 + n2))
  have HRW := Lib.hid (HR.out.drewN (n1 + n2))
  go_wp2_with fail
  obtain ⟨g, hgg⟩ : ∃ g, gs[n / 16]? = some g := ⟨_, List.getElem?_eq_getElem (by have := HG.out; omega)⟩
  have HGG := Lib.hid hgg
  refine (colCell_any B _ size cap n cb _ _ gs cf n g HMW.out hgg).mono ?_
  rintro e w1 ⟨rfl, q, rfl⟩
  clear hgg
  obtain ⟨arr, harr, hal, hone⟩ := (HMW.out.chunk g (List.mem_of_getElem? HGG.out)).2
  have hcfg := HMW.out.hcf g (List.mem_of_getElem? HGG.out)
  obtain ⟨w2, hr, ho, hh⟩ := copy_str (w.drewN (n1 + n2 + q)) 3 g (n % 16 * size) (cf g - n % 16 * size) s arr harr (by
   have h1 : n % 16 * size ≤ 15 * size := Nat.mul_le_mul_right _ (by omega)
   have h2 := HS.out
   omega)
  rw [HS.out] at hr
  have hm2 : ColMem B w2 size cap n cb _ _ gs cf := (HM.out.drewN (n1 + n2 + q)).only (List.mem_of_getElem? HGG.out) ho hh (by
   have h1 : n % 16 * size ≤ 15 * size := Nat.mul_le_mul_right _ (by omega)
   have h2 := HS.out
   have h3 : (Lib.byteCells s.data.toList).length = s.size := by rw [Lib.byteCells_length]; rfl
   have h4 : arr.toList.length = arr.size := Array.length_toList
   rw [List.size_toArray, length_splice _ _ _ (by omega)]; omega) (by
   have h1 : n % 16 * size ≤ 15 * size := Nat.mul_le_mul_right _ (by omega)
   have h2 := HS.out
   have h3 : (Lib.byteCells s.data.toList).length = s.size := by rw [Lib.byteCells_length]; rfl
   have h4 : arr.toList.length = arr.size := Array.length_toList
   rw [List.toList_toArray]; exact splice_one hone (bytes_one s.data.toList) (show n % 16 * size + (Lib.byteCells s.data.toList).length ≤ arr.toList.length by omega))
  have d2 := cell_at hm2.blk 2
  have d3 := free_at hm2.blk 2
  simp at d2
  have HHR := Lib.hid hr
  have HHO := Lib.hid ho
  have HHH := Lib.hid hh
  have HAR := Lib.hid harr
  have HAL := Lib.hid hal
  have HONE := Lib.hid hone
  clear hr ho hh hm2 harr hal hone
  go_wp2_with (first | (refine Lib.wpList_copy_run _ rfl _ _ 156 9 rfl _ _ rfl rfl HHR.out ?_))
  go_returns
  have hsl : s.data.toList.length = size := by have := HS.out; exact this
  have hcol := col_push (d := ⟨size, cap, rows, cb, va, vc, gs, cf⟩) s.data.toList (by simpa [HN.out] using HM.out.drewN (n1 + n2 + q)) (HR.out.drewN (n1 + n2 + q)) HSZ.out (by simp only [HN.out]; have h1 := HNUM.out; have h2 := HG.out; omega) (by simp only [HN.out]; exact hc) (by simpa [HN.out] using HGG.out) HAR.out HAL.out HONE.out hsl HHO.out (by simp only [HN.out]; exact HHH.out)
  simp only [HN.out] at hcol
  refine ⟨rfl, _, _, gs, cf, hcol, ?_, ?_⟩
  ·exact (((Out.refl (CD.foot ⟨size, cap, rows, cb, va, vc, gs, cf⟩) w).drewN _).trans (Out.only HHO.out (.inr (.inr (List.mem_of_getElem? HGG.out)))) (fun x h => .inl h)).trans (Out.only (Only.at w2 cb 2 _) (.inl rfl)) (fun x h => .inl h)
  ·exact fun b hb => .inl hb
end Go.Proofs.YtgebbmfoamkfnaaGreatDoor
namespace Go.Proofs.YtgebbmfoamkfnaaGreatDoor
open Go.RowKit
set_option linter.unusedVariables false
theorem Out.drew {F : Nat → Prop} {a b : World} (h : Out F a b) : Out F a b.drew := ⟨h.os, h.tape, h.output, h.size, h.block⟩
theorem ownsRow_shrink {w : World} {b : Nat} {e : TypeId} {va : Option Addr} {n vc m : Nat} {xs : List Value} (h : w.ownsRow b e 1 (.slice va n vc) n xs) (hm : m ≤ n) (h0 : 0 < n) : w.ownsRow b e 1 (.slice va m vc) m (xs.take m) := by
 obtain ⟨h1, h2⟩ := h
 refine ⟨by rw [List.length_take]; omega, ?_⟩
 rcases h2 with ⟨_, h3⟩ | ⟨g, cap, cur, hv, hg, hh, hc1, hc2, hc3, hc4⟩
 ·omega
 ·cases hv
  exact .inr ⟨g, vc, cur, rfl, hg, hh, by omega, hc2, hc3, by rw [← hc4, List.take_take]; congr 1; omega⟩
theorem take_sub {α : Type} {l : List α} {m i : Nat} {x : α} (h : (l.take m)[i]? = some x) : l[i]? = some x := by
 rw [List.getElem?_take] at h
 split at h
 ·exact h
 ·cases h
end Go.Proofs.YtgebbmfoamkfnaaGreatDoor
