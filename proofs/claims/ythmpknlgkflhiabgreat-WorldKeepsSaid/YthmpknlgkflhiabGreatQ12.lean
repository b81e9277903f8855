/- Contracts of column.Swap and Set. · Sets of parts: OnesCount32, Sig.Len, sig.Of, sig.Parts. Printed by mkU5.py. -/
import Derived.Test.YthmpknlgkflhiabGreatQ11
import Derived.Deep.RegionLaw
import Derived.Test.YthmpknlgkflhiabGreatQ7
import Derived.Lib.BitFns
namespace Go.Proofs.YthmpknlgkflhiabGreat
open Go.RowKit
set_option linter.unusedVariables false
theorem Out.drew {F : Nat → Prop} {a b : World} (h : Out F a b) : Out F a b.drew := ⟨h.os, h.tape, h.output, h.size, h.block⟩
theorem copy_sl (w : World) (ty : TypeId) (g off cap g2 off2 cap2 : Nat) (l : List UInt8) (arr : Array Value) (hg : w.heap[g]? = some (.cells arr 5 (0, 0))) (hfit : off + l.length ≤ arr.size) (hsrc : ∀ (k : Nat) (x : UInt8), l[k]? = some x → w.cell? ⟨g2, off2 + k, none⟩ = some (.int .u8 x.toNat)) :
  ∃ w', (Builtin.copy_ #[189, 189] ty #[.slice (some ⟨g, off, none⟩) l.length cap, .slice (some ⟨g2, off2, none⟩) l.length cap2]).run Tryz.prog w = .ok (goInt l.length) w' ∧ Only g w w' ∧ w'.heap[g]? = some (.cells (splice arr.toList off (Lib.byteCells l)).toArray 5 (0, 0)) := by
 have hlen : (Lib.byteCells l).length = l.length := Lib.byteCells_length l
 have hr := run_copy_row (P := Tryz.prog) w 189 189 ty 5 g off l.length cap ⟨g2, off2, none⟩ l.length cap2 arr 5 (Lib.byteCells l) Tryz.underlying189 (by kernel_rfl) hg (by rw [hlen]; exact (Nat.min_self _).symm) (fun j v hv => by
  have : (⟨g2, off2, none⟩ : Addr).add j = ⟨g2, off2 + j, none⟩ := by simp [Addr.add]
  rw [this]
  simp only [Lib.byteCells, List.getElem?_map, Option.map_eq_some_iff] at hv
  obtain ⟨x, hx, rfl⟩ := hv
  exact hsrc j x hx) (by rw [hlen]; exact hfit) (Lib.byteCells_one l)
 rw [hlen] at hr
 refine ⟨_, hr, Only.setRow _ _ _, ?_⟩
 rw [setRow_heap w g _ _ _ _ hg]
 simp [splice, hlen]
theorem ownsRow_shrink {w : World} {b : Nat} {e : TypeId} {va : Option Addr} {n vc m : Nat} {xs : List Value} (h : w.ownsRow b e 1 (.slice va n vc) n xs) (hm : m ≤ n) (h0 : 0 < n) : w.ownsRow b e 1 (.slice va m vc) m (xs.take m) := by
 obtain ⟨h1, h2⟩ := h
 refine ⟨by rw [List.length_take]; omega, ?_⟩
 rcases h2 with ⟨_, h3⟩ | ⟨g, cap, cur, hv, hg, hh, hc1, hc2, hc3, hc4⟩
 ·omega
 ·cases hv
  exact .inr ⟨g, vc, cur, rfl, hg, hh, by omega, hc2, hc3, by rw [← hc4, List.take_take]; congr 1; omega⟩
theorem ColMem.shrink {B : Nat} {w : World} {size cap n cb : Nat} {va : Option Addr} {vc : Nat} {gs : List Nat} {cf : Nat → Nat} {G : Nat} (h : ColMem B w size cap n cb va vc gs cf) (hG : gs.length = G + 1) : ColMem B (w.setCell ⟨cb, 3, none⟩ (.slice va G vc)) size cap n cb va vc (gs.take G) cf := by
 have ho := Only.at w cb 3 (.slice va G vc)
 have hl : (gs.take G).length = G := by rw [List.length_take]; omega
 refine ⟨?_, ?_, h.hcb, h.nd.sublist (List.take_sublist _ _), fun x hx => ?_, h.hsz, h.hn, h.hcap, by rw [hl]; have := h.hgl; omega, fun x hx => h.hcf x (List.mem_of_mem_take hx)⟩
 ·rw [hl]
  simpa using hset w cb 3 (.slice va G vc) _ _ _ h.blk
 ·rw [hl]
  have := ownsRow_shrink h.own (show G ≤ gs.length by omega) (by omega)
  rw [← List.map_take] at this
  refine ownsRow_out this (Out.only (F := fun b => b = cb) ho rfl) (fun x hx e => ?_)
  subst e
  exact ownsRow_ne_block3 this h.blk (fun cur he => by cases he) hx.symm
 ·obtain ⟨h1, a, h2, h3⟩ := h.chunk x (List.mem_of_mem_take hx)
  exact ⟨h1, a, keepO ho h2 (fun e => by subst e; rw [h.blk] at h2; cases h2), h3⟩
theorem RowsIn.sub {w : World} {size : Nat} {rows rows' : List (List UInt8)} {gs gs' : List Nat} (h : RowsIn w size rows gs) (h1 : ∀ (i : Nat) (r : List UInt8), rows'[i]? = some r → rows[i]? = some r) (h2 : ∀ (i g : Nat), gs'[i]? = some g → gs[i]? = some g) : RowsIn w size rows' gs' :=
 fun i row hr g hg k x hx => h i row (h1 i row hr) g (h2 _ g hg) k x hx
theorem take_sub {α : Type} {l : List α} {m i : Nat} {x : α} (h : (l.take m)[i]? = some x) : l[i]? = some x := by
 rw [List.getElem?_take] at h
 split at h
 ·exact h
 ·cases h
set_option maxRecDepth 100000 in
set_option maxHeartbeats 4000000 in
theorem colSet_any (B : Nat) (w : World) (d : CD) (i : Nat) (s : ByteArray) (h : ColAt B w d) (hi : i < d.rows.length) (hs : s.size = d.size) :
  Calls Tryz.prog 95 #[.pointer (some ⟨d.cb, 0, none⟩), .int .i64 (i : Int), .string s] w fun e w' => e = .returned (.int .i64 0) ∧ ColAt B w' { d with rows := d.rows.set i s.data.toList } ∧ Out d.foot w w' := by
 obtain ⟨size, cap, rows, cb, va, vc, gs, cf⟩ := d
 simp only at hs hi ⊢
 obtain ⟨hm, hnum, hcell, hsz, hle⟩ := h
 simp only at hm hnum hcell hsz hle
 have hchk := colCheck_any size cap rows.length cb _ (i : Int) w hm.blk
 rw [if_pos ⟨by omega, by omega⟩] at hchk
 have HCHK := Lib.hid hchk
 have hsz256 := hm.hsz
 have c0 := cell_at hm.blk 0
 simp at c0
 have e1 : ((s.size : Int) != (size : Int)) = false := by rw [hs]; simp
 obtain ⟨g, hgg⟩ : ∃ g, gs[i / 16]? = some g := ⟨_, List.getElem?_eq_getElem (by omega)⟩
 obtain ⟨arr, harr, hal, hone⟩ := (hm.chunk g (List.mem_of_getElem? hgg)).2
 have hsl : s.data.toList.length = size := by exact hs
 have hcfg := hm.hcf g (List.mem_of_getElem? hgg)
 have hoff : i % 16 * size + s.size ≤ arr.size := by
  have h1 : i % 16 * size ≤ 15 * size := Nat.mul_le_mul_right _ (by omega)
  omega
 have hmem : g ∈ gs := List.mem_of_getElem? hgg
 have HM := Lib.hid hm
 have HR := Lib.hid (show RowsIn w size rows gs from hcell)
 have HSZ := Lib.hid hsz
 have HS := Lib.hid hs
 have HNUM := Lib.hid hnum
 have HGG := Lib.hid hgg
 have HAR := Lib.hid harr
 have HAL := Lib.hid hal
 have HONE := Lib.hid hone
 clear hm hcell hsz hs hnum hgg harr hal hchk hone
 go_enter Tryz.func95, Tryz.ntmps95
 go_wp2_with fail
 refine HCHK.out.mono ?_
 rintro e w1 ⟨rfl, rfl⟩
 clear HCHK
 go_wp2_with fail
 refine (colCell_any B _ size cap rows.length cb _ _ gs cf i g HM.out HGG.out).mono ?_
 rintro e w1 ⟨rfl, q, rfl⟩
 obtain ⟨w2, hr, ho, hh⟩ := copy_str (w.drewN q) 3 g (i % 16 * size) (cf g - i % 16 * size) s arr HAR.out hoff
 rw [HS.out] at hr
 have HHR := Lib.hid hr
 have HHO := Lib.hid ho
 have HHH := Lib.hid hh
 clear hr ho hh
 go_wp2_with (first | (refine Lib.wpList_copy_run _ rfl _ _ 189 9 rfl _ _ rfl rfl HHR.out ?_))
 go_returns
 have hasz : (splice arr.toList (i % 16 * size) (Lib.byteCells s.data.toList)).toArray.size = cf g := by
  have h3 : (Lib.byteCells s.data.toList).length = s.size := by rw [Lib.byteCells_length]; rfl
  have h4 : arr.toList.length = arr.size := Array.length_toList
  have h5 := HAL.out
  rw [List.size_toArray, length_splice _ _ _ (by omega)]; omega
 have hm2 := (HM.out.drewN q).only hmem HHO.out HHH.out hasz (by
  have h3 : (Lib.byteCells s.data.toList).length = s.size := by rw [Lib.byteCells_length]; rfl
  have h4 : arr.toList.length = arr.size := Array.length_toList
  rw [List.toList_toArray]; exact splice_one HONE.out (bytes_one s.data.toList) (show i % 16 * size + (Lib.byteCells s.data.toList).length ≤ arr.toList.length by omega))
 refine ⟨rfl, ⟨by simpa using hm2, by simpa using HNUM.out, ?_, fun r hr => ?_, by simpa using hle⟩, ((Out.refl _ w).drewN _).trans (Out.only HHO.out (.inr (.inr hmem))) (fun x h => .inl h)⟩
 ·refine (HR.out.drewN q).lay HM.out.nd HSZ.out HGG.out HAR.out hsl (by have := HAL.out; omega) HHO.out HHH.out _ (fun j row hj => ?_)
  by_cases e : j = i
  ·subst e
   rw [List.getElem?_set_self hi] at hj
   cases hj
   exact .inr ⟨rfl, rfl⟩
  ·rw [List.getElem?_set_ne (Ne.symm e)] at hj
   exact .inl ⟨e, hj⟩
 ·rcases List.mem_or_eq_of_mem_set hr with hr | rfl
  ·exact HSZ.out r hr
  ·exact hsl
set_option maxRecDepth 100000 in
set_option maxHeartbeats 400000 in
theorem colSwap_any (B : Nat) (w : World) (d : CD) (i m : Nat) (l : List UInt8) (h : ColAt B w d) (hi : i ≤ m) (hm : d.rows.length = m + 1) (hl : d.rows[m]? = some l) :
  Calls Tryz.prog 122 #[.pointer (some ⟨d.cb, 0, none⟩), .int .i64 (i : Int)] w fun e w' => e = .returned (.tuple #[.int .i64 (m : Int), .int .i64 0]) ∧ ∃ gs, ColAt B w' { d with rows := (d.rows.set i l).take m, gs := gs } ∧ Out d.foot w w' ∧ (∀ b, CD.foot { d with rows := (d.rows.set i l).take m, gs := gs } b → d.foot b) := by
 obtain ⟨size, cap, rows, cb, va, vc, gs, cf⟩ := d
 simp only at hm hl ⊢
 obtain ⟨hmm, hnum, hcell, hsz, hle⟩ := h
 simp only at hmm hnum hcell hsz hle
 have hchk := colCheck_any size cap rows.length cb _ (i : Int) w hmm.blk
 rw [if_pos ⟨by omega, by omega⟩] at hchk
 have HCHK := Lib.hid hchk
 have hsz256 := hmm.hsz
 have hcap := hmm.hcap
 have c2 := cell_at hmm.blk 2
 rw [hm] at c2
 simp at c2
 obtain ⟨g, hgg⟩ : ∃ g, gs[i / 16]? = some g := ⟨_, List.getElem?_eq_getElem (by omega)⟩
 obtain ⟨g2, hgg2⟩ : ∃ g2, gs[m / 16]? = some g2 := ⟨_, List.getElem?_eq_getElem (by omega)⟩
 obtain ⟨arr, harr, hal, hone⟩ := (hmm.chunk g (List.mem_of_getElem? hgg)).2
 have hsl : l.length = size := hsz l (List.mem_of_getElem? hl)
 have hcfg := hmm.hcf g (List.mem_of_getElem? hgg)
 have hoff : i % 16 * size + l.length ≤ arr.size := by
  have h1 : i % 16 * size ≤ 15 * size := Nat.mul_le_mul_right _ (by omega)
  omega
 have hmem : g ∈ gs := List.mem_of_getElem? hgg
 have hsrc : ∀ (k : Nat) (x : UInt8), l[k]? = some x → w.cell? ⟨g2, m % 16 * size + k, none⟩ = some (.int .u8 x.toNat) := hcell m l hl g2 hgg2
 have HM := Lib.hid hmm
 have HR := Lib.hid (show RowsIn w size rows gs from hcell)
 have HSZ := Lib.hid hsz
 have HSL := Lib.hid hsl
 have HLM := Lib.hid hm
 have HNUM := Lib.hid hnum
 have HGG := Lib.hid hgg
 have HGG2 := Lib.hid hgg2
 have HAR := Lib.hid harr
 have HAL := Lib.hid hal
 have HONE := Lib.hid hone
 have HSRC := Lib.hid hsrc
 have HLE := Lib.hid hle
 have hmb : m < 65536 := by omega
 clear hmm hcell hsz hsl hnum hgg hgg2 harr hal hchk hsrc hl hm hle hone
 go_enter Tryz.func122, Tryz.ntmps122
 go_wp2_with fail
 refine HCHK.out.mono ?_
 rintro e w1 ⟨rfl, rfl⟩
 clear HCHK
 go_wp2_with fail
 refine (colCell_any B _ size cap rows.length cb _ _ gs cf i g HM.out HGG.out).mono ?_
 rintro e w1 ⟨rfl, q, rfl⟩
 go_wp2_with fail
 refine (colCell_any B _ size cap rows.length cb _ _ gs cf m g2 (HM.out.drewN q) HGG2.out).mono ?_
 rintro e w1 ⟨rfl, q2, rfl⟩
 obtain ⟨w2, hr, ho, hh⟩ := copy_sl (w.drewN (q + q2)) 3 g (i % 16 * size) (cf g - i % 16 * size) g2 (m % 16 * size) (cf g2 - m % 16 * size) l arr HAR.out hoff HSRC.out
 rw [HSL.out] at hr
 have hasz : (splice arr.toList (i % 16 * size) (Lib.byteCells l)).toArray.size = cf g := by
  have h3 : (Lib.byteCells l).length = l.length := Lib.byteCells_length l
  have h4 : arr.toList.length = arr.size := Array.length_toList
  have h5 := HAL.out
  rw [List.size_toArray, length_splice _ _ _ (by omega)]; omega
 have hm2 := (HM.out.drewN (q + q2)).only hmem ho hh hasz (by
  have h3 : (Lib.byteCells l).length = l.length := Lib.byteCells_length l
  have h4 : arr.toList.length = arr.size := Array.length_toList
  rw [List.toList_toArray]; exact splice_one HONE.out (bytes_one l) (show i % 16 * size + (Lib.byteCells l).length ≤ arr.toList.length by omega))
 have d2 := cell_at hm2.blk 2
 have d3 := cell_at hm2.blk 3
 have f2 := free_at hm2.blk 2
 have f3 := free_at hm2.blk 3
 simp at d2 d3
 have HHR := Lib.hid hr
 have HHO := Lib.hid ho
 have HHH := Lib.hid hh
 have HM2 := Lib.hid hm2
 clear hr ho hh hm2
 go_wp2_with (first | (refine Lib.wpList_copy_run _ rfl _ _ 189 189 rfl _ _ rfl rfl HHR.out ?_))
 all_goals
  have hrow2 : RowsIn w2 size (rows.set i l) gs := (HR.out.drewN (q + q2)).lay HM.out.nd HSZ.out HGG.out HAR.out HSL.out (by have := HAL.out; omega) HHO.out HHH.out _ (fun j row hj => by
   by_cases e : j = i
   ·subst e
    rw [List.getElem?_set_self (by have := HLM.out; omega)] at hj
    cases hj
    exact .inr ⟨rfl, rfl⟩
   ·rw [List.getElem?_set_ne (Ne.symm e)] at hj
    exact .inl ⟨e, hj⟩)
  have hm3 := HM2.out.setN (m := m) (by omega)
  have hrow3 := RowsIn.setN HM2.out hrow2 2 (.int .i64 (m : Int))
  have hout3 : Out (CD.foot ⟨size, cap, rows, cb, va, vc, gs, cf⟩) w (w2.setCell ⟨cb, 2, none⟩ (.int .i64 (m : Int))) := (((Out.refl _ w).drewN _).trans (Out.only HHO.out (.inr (.inr hmem))) (fun x h => .inl h)).trans (Out.only (Only.at w2 cb 2 _) (.inl rfl)) (fun x h => .inl h)
  have hsz3 : ∀ r ∈ (rows.set i l).take m, r.length = size := fun r hr => by
   rcases List.mem_or_eq_of_mem_set (List.mem_of_mem_take hr) with hr | rfl
   ·exact HSZ.out r hr
   ·exact HSL.out
  have hlen3 : ((rows.set i l).take m).length = m := by rw [List.length_take, List.length_set]; have := HLM.out; omega
  generalize w2.setCell ⟨cb, 2, none⟩ (.int .i64 (m : Int)) = W3 at *
  have HM3 := Lib.hid hm3
  have HR3 := Lib.hid hrow3
  have HO3 := Lib.hid hout3
  have HS3 := Lib.hid hsz3
  have HL3 := Lib.hid hlen3
  clear hrow2 hm3 hrow3 hout3 hsz3 hlen3 HHR HHO HHH HM2 d2 d3 f2 f3
 ·have hdiv : m % 16 = 0 := by
   have : ((m : Int) % 16 == 0) = true := by assumption
   rw [beq_iff_eq] at this; omega
  obtain ⟨G, hG⟩ : ∃ G, gs.length = G + 1 := ⟨gs.length - 1, by have := HGG.out; have := (List.getElem?_eq_some_iff.1 this).1; omega⟩
  have hGm : G * 16 = m := by have h1 := HNUM.out; have h2 := HLM.out; omega
  have c3 := cell_at HM3.out.blk 3
  have f3 := free_at HM3.out.blk 3
  rw [hG] at c3
  simp at c3
  have hgl := HM3.out.hgl
  have hG1 : G ≤ 5000 := by omega
  have hw1 : IntKind.i64.wrap (G : Int) = (G : Int) := IntWalk.i64_in _ (by omega)
  have i1 : (0 : Int) ≤ (G : Int) := by omega
  have hvc : G + 1 ≤ vc := by
   rcases HM3.out.own.2 with ⟨_, h0⟩ | ⟨q0, cap', cur', h1, _, _, h4, _⟩
   ·omega
   ·cases h1; omega
  have i2 : (G : Int) ≤ (vc : Int) := by omega
  have HGL := Lib.hid hG
  have HGM := Lib.hid hGm
  have HDIV := Lib.hid hdiv
  clear hG hGm hdiv hgl
  go_region_law (fail)
  all_goals
   go_wp2_with fail
   go_ret2
   have hms := (HM3.out.shrink HGL.out).out ((Out.refl (fun _ => False) _).drew) (by simp) (by simp) (by simp)
   have hrs := RowsIn.setN HM3.out HR3.out 3 (.slice va G vc)
   have hlg : (gs.take G).length = G := by rw [List.length_take]; have := HGL.out; omega
   refine ⟨rfl, gs.take G, ⟨by simpa [HL3.out] using hms, by simp only [HL3.out]; have h1 := HGM.out; omega, RowsIn.sub hrs (fun i r h => take_sub h) (fun i g h => take_sub h), HS3.out, by simp only [HL3.out]; have h1 := HLE.out; have h2 := HLM.out; omega⟩, ?_, fun b hb => ?_⟩
   ·exact (HO3.out.trans (Out.only (Only.at W3 cb 3 _) (.inl rfl)) (fun x h => .inl h)).drew
   ·rcases hb with rfl | hb | hb
    ·exact .inl rfl
    ·refine .inr (.inl ?_)
     show (Value.slice va gs.length vc).ownBlock = some b
     cases va with
     | none => cases hb
     | some a => exact hb
    ·exact .inr (.inr (List.mem_of_mem_take hb))
 ·have hdiv : ¬ m % 16 = 0 := by
   have : ((m : Int) % 16 == 0) = false := by assumption
   rw [beq_eq_false_iff_ne] at this; omega
  go_ret2
  refine ⟨rfl, gs, ⟨by simpa [HL3.out] using HM3.out, by simp only [HL3.out]; have h1 := HNUM.out; have h2 := HLM.out; omega, HR3.out.sub (fun i r h => take_sub h) (fun i g h => h), HS3.out, by simp only [HL3.out]; have h1 := HLE.out; have h2 := HLM.out; omega⟩, HO3.out, fun b hb => hb⟩
end Go.Proofs.YthmpknlgkflhiabGreat
namespace Go.Proofs.YthmpknlgkflhiabGreat
open Go.RowKit
set_option linter.unusedVariables false
/-! ### Bits, counted -/
def bcount (x n : Nat) : Nat := (List.range n).countP fun j => x.testBit j
theorem range_split (m n : Nat) : List.range (m + n) = List.range m ++ (List.range n).map (m + ·) := by
 induction n with
 | zero => simp
 | succ n ih => rw [← Nat.add_assoc, List.range_succ, ih, List.range_succ, List.map_append, List.append_assoc]; rfl
theorem bcount_add (x m n : Nat) : bcount x (m + n) = bcount x m + bcount (x / 2 ^ m) n := by
 unfold bcount
 rw [range_split, List.countP_append, List.countP_map]
 congr 1
 refine List.countP_congr (fun j _ => ?_)
 simp only [Function.comp]
 rw [Nat.testBit_div_two_pow, Nat.add_comm]
theorem bcount_mod (x m : Nat) : bcount (x % 2 ^ m) m = bcount x m := by
 unfold bcount
 refine List.countP_congr (fun j hj => ?_)
 rw [Nat.testBit_mod_two_pow]
 simp [List.mem_range.1 hj]
theorem pop_bits : ∀ (f x : Nat), Lib.popAux f x = bcount x f
 | 0, _ => rfl
 | f + 1, x => by
  rw [Lib.popAux, pop_bits f (x / 2), Nat.add_comm f 1, bcount_add x 1 f, Nat.pow_one]
  congr 1
  unfold bcount
  simp [Nat.testBit_zero]
  rcases Nat.mod_two_eq_zero_or_one x with h | h <;> simp [h]
theorem bcount_small {x : Nat} (h : x < 256) : Lib.onesCount x = bcount x 8 := by
 unfold Lib.onesCount
 rw [pop_bits, show 64 = 8 + 56 from rfl, bcount_add, show x / 2 ^ 8 = 0 from Nat.div_eq_of_lt (by simpa using h)]
 simp [bcount]
theorem bcount32 (x : Nat) : bcount x 32 = Lib.onesCount (x / 16777216 % 256) + Lib.onesCount (x / 65536 % 256) + Lib.onesCount (x / 256 % 256) + Lib.onesCount (x % 256) := by
 rw [bcount_small (Nat.mod_lt _ (by decide)), bcount_small (Nat.mod_lt _ (by decide)), bcount_small (Nat.mod_lt _ (by decide)), bcount_small (Nat.mod_lt _ (by decide))]
 rw [show (256 : Nat) = 2 ^ 8 from rfl, bcount_mod, bcount_mod, bcount_mod, bcount_mod]
 rw [show 32 = 8 + (8 + (8 + 8)) from rfl, bcount_add, bcount_add, bcount_add, Nat.div_div_eq_div_mul, Nat.div_div_eq_div_mul]
 simp
 omega
theorem pop8_nat {b : Nat} (h : b < 256) : Lib.pop8 (b : Int) = (Lib.onesCount b : Int) := Lib.pop8_eq ⟨b, h⟩
theorem ones_le {b : Nat} (h : b < 256) : Lib.onesCount b ≤ 8 := Lib.onesCount_le8 ⟨b, h⟩
theorem andByte (x : Nat) (h : x < 4294967296) : bits BinOp.and .u32 (x : Int) 255 = ((x % 256 : Nat) : Int) := by
 have := u32_and_nat x 255 h (by decide)
 rw [show ((255 : Nat) : Int) = 255 from rfl] at this
 rw [this, show (255 : Nat) = 2 ^ 8 - 1 from rfl, Nat.and_two_pow_sub_one_eq_mod]
def ones_list (x a b b' c c' d' k1 k2 k3 k4 : Nat) : List (Value → World → Prop) :=
 [IsV (.int .u32 (x : Int)),
  IsV (.int .u32 (a : Int)),
  IsV (.int .u8 (k1 : Int)),
  IsV (.int .u32 (x : Int)),
  IsV (.int .u32 (b : Int)),
  IsV (.int .u32 (b' : Int)),
  IsV (.int .u8 (k2 : Int)),
  IsV (.int .u8 (((k1 : Nat) : Int) + ((k2 : Nat) : Int))),
  IsV (.int .u32 (x : Int)),
  IsV (.int .u32 (c : Int)),
  IsV (.int .u32 (c' : Int)),
  IsV (.int .u8 (k3 : Int)),
  IsV (.int .u8 (((k1 : Nat) : Int) + ((k2 : Nat) : Int) + ((k3 : Nat) : Int))),
  IsV (.int .u32 (x : Int)),
  IsV (.int .u32 (d' : Int)),
  IsV (.int .u8 (k4 : Int)),
  IsV (.int .u8 (((k1 : Nat) : Int) + ((k2 : Nat) : Int) + ((k3 : Nat) : Int) + ((k4 : Nat) : Int))),
  IsV (.int .i64 (((k1 : Nat) : Int) + ((k2 : Nat) : Int) + ((k3 : Nat) : Int) + ((k4 : Nat) : Int))),
  IsV (.int .i64 (((k1 : Nat) : Int) + ((k2 : Nat) : Int) + ((k3 : Nat) : Int) + ((k4 : Nat) : Int)))]
theorem ones_list_lasts (x a b b' c c' d' k1 k2 k3 k4 : Nat) : ∀ p ∈ ones_list x a b b' c c' d' k1 k2 k3 k4 , Lasts p := by
 simp only [ones_list, List.mem_cons, List.not_mem_nil, or_false]
 rintro p hp
 repeat (rcases hp with rfl | hp; exact lasts_v _)
set_option maxRecDepth 100000 in
set_option maxHeartbeats 1000000 in
theorem ones_any (x : Nat) (w : World) (hx : x < 4294967296) : Calls Tryz.prog 110 #[.int .u32 (x : Int)] w fun e w' => e = .returned (.int .i64 (bcount x 32 : Int)) ∧ Below w.heap.size w w' := by
 obtain ⟨a, ha⟩ : ∃ a, x / 16777216 = a := ⟨_, rfl⟩
 obtain ⟨b, hb⟩ : ∃ b, x / 65536 = b := ⟨_, rfl⟩
 obtain ⟨c, hc⟩ : ∃ c, x / 256 = c := ⟨_, rfl⟩
 have q1 : (x : Int) / 16777216 = (a : Int) := by omega
 have q2 : (x : Int) / 65536 = (b : Int) := by omega
 have q3 : (x : Int) / 256 = (c : Int) := by omega
 have m1 := andByte b (by omega)
 have m2 := andByte c (by omega)
 have m3 := andByte x hx
 obtain ⟨b', hb'⟩ : ∃ b', b % 256 = b' := ⟨_, rfl⟩
 obtain ⟨c', hc'⟩ : ∃ c', c % 256 = c' := ⟨_, rfl⟩
 obtain ⟨d', hd'⟩ : ∃ d', x % 256 = d' := ⟨_, rfl⟩
 rw [hb'] at m1; rw [hc'] at m2; rw [hd'] at m3
 have pa := pop8_nat (show a < 256 by omega)
 have pb := pop8_nat (show b' < 256 by omega)
 have pc := pop8_nat (show c' < 256 by omega)
 have pd := pop8_nat (show d' < 256 by omega)
 have la := ones_le (show a < 256 by omega)
 have lb := ones_le (show b' < 256 by omega)
 have lc := ones_le (show c' < 256 by omega)
 have ld := ones_le (show d' < 256 by omega)
 have hr : bcount x 32 = Lib.onesCount a + Lib.onesCount b' + Lib.onesCount c' + Lib.onesCount d' := by rw [bcount32, hb, hc, hb', hc', hd', Nat.mod_eq_of_lt (show x / 16777216 < 256 by omega), ha]
 have r1 : (a : Int) ≤ 255 := by omega
 have r2 : (b' : Int) ≤ 255 := by omega
 have r3 : (c' : Int) ≤ 255 := by omega
 have r4 : (d' : Int) ≤ 255 := by omega
 have z1 : (0 : Int) ≤ (a : Int) := by omega
 have z2 : (0 : Int) ≤ (b' : Int) := by omega
 have z3 : (0 : Int) ≤ (c' : Int) := by omega
 have z4 : (0 : Int) ≤ (d' : Int) := by omega
 generalize Lib.onesCount a = k1 at *
 generalize Lib.onesCount b' = k2 at *
 generalize Lib.onesCount c' = k3 at *
 generalize Lib.onesCount d' = k4 at *
 have s1 : IntKind.u8.wrap ((k1 : Int) + (k2 : Int)) = (k1 : Int) + (k2 : Int) := by rw [IntKind.wrap_u8']; omega
 have s2 : IntKind.u8.wrap ((k1 : Int) + (k2 : Int) + (k3 : Int)) = (k1 : Int) + (k2 : Int) + (k3 : Int) := by rw [IntKind.wrap_u8']; omega
 have s3 : IntKind.u8.wrap ((k1 : Int) + (k2 : Int) + (k3 : Int) + (k4 : Int)) = (k1 : Int) + (k2 : Int) + (k3 : Int) + (k4 : Int) := by rw [IntKind.wrap_u8']; omega
 have s4 : IntKind.i64.wrap ((k1 : Int) + (k2 : Int) + (k3 : Int) + (k4 : Int)) = (k1 : Int) + (k2 : Int) + (k3 : Int) + (k4 : Int) := IntWalk.i64_in _ (by omega)
 have HR := Lib.hid (show (k1 : Int) + (k2 : Int) + (k3 : Int) + (k4 : Int) = (bcount x 32 : Int) by omega)
 clear hr ha hb hc hb' hc' hd' la lb lc ld hx
 go_enter Tryz.func110, Tryz.ntmps110
 go_wp2_with fail
 refine wp_region_frame (by kernel_rfl) (by kernel_rfl) (by kernel_rfl) (byList (ones_list x a b b' c c' d' k1 k2 k3 k4)) (lasts_list (ones_list_lasts x a b b' c c' d' k1 k2 k3 k4)) ?_ ?_
 ·intro vs w' iq o A F hb ho hd
  have m0 : A.tmps[0]?.getD undef = (.int .u32 (x : Int)) := F.m (by kernel_rfl) rfl
  have G := F.light (n := 21) (by kernel_rfl)
  clear F
  revert ho hd
  match iq with
  | 0 =>
   intro ho hd
   obtain rfl := (Option.some.inj ho).symm
   clear hd ho
   refine step_open rfl ?_
   clear G
   exact step_run (v := (.int .u32 (x : Int))) (by go_simp) rfl
  | 1 =>
   intro ho hd
   obtain rfl := (Option.some.inj ho).symm
   have d0 : vs 0 = (.int .u32 (x : Int)) := hd ⟨0, .data⟩ (by simp) rfl
   clear hd ho
   have h3 := G.h (j := 0) (d := 3) rfl (by decide) d0
   refine step_open rfl ?_
   clear G
   exact step_run (v := (.int .u32 (a : Int))) (by go_simp) rfl
  | 2 =>
   intro ho hd
   obtain rfl := (Option.some.inj ho).symm
   have d1 : vs 1 = (.int .u32 (a : Int)) := hd ⟨1, .data⟩ (by simp) rfl
   clear hd ho
   have h4 := G.h (j := 1) (d := 4) rfl (by decide) d1
   refine step_open rfl ?_
   clear G
   exact step_run (v := (.int .u8 (k1 : Int))) (by go_simp) rfl
  | 3 =>
   intro ho hd
   obtain rfl := (Option.some.inj ho).symm
   clear hd ho
   refine step_open rfl ?_
   clear G
   exact step_run (v := (.int .u32 (x : Int))) (by go_simp) rfl
  | 4 =>
   intro ho hd
   obtain rfl := (Option.some.inj ho).symm
   have d3 : vs 3 = (.int .u32 (x : Int)) := hd ⟨3, .data⟩ (by simp) rfl
   clear hd ho
   have h6 := G.h (j := 3) (d := 6) rfl (by decide) d3
   refine step_open rfl ?_
   clear G
   exact step_run (v := (.int .u32 (b : Int))) (by go_simp) rfl
  | 5 =>
   intro ho hd
   obtain rfl := (Option.some.inj ho).symm
   have d4 : vs 4 = (.int .u32 (b : Int)) := hd ⟨4, .data⟩ (by simp) rfl
   clear hd ho
   have h7 := G.h (j := 4) (d := 7) rfl (by decide) d4
   refine step_open rfl ?_
   clear G
   exact step_run (v := (.int .u32 (b' : Int))) (by go_simp) rfl
  | 6 =>
   intro ho hd
   obtain rfl := (Option.some.inj ho).symm
   have d5 : vs 5 = (.int .u32 (b' : Int)) := hd ⟨5, .data⟩ (by simp) rfl
   clear hd ho
   have h8 := G.h (j := 5) (d := 8) rfl (by decide) d5
   refine step_open rfl ?_
   clear G
   exact step_run (v := (.int .u8 (k2 : Int))) (by go_simp) rfl
  | 7 =>
   intro ho hd
   obtain rfl := (Option.some.inj ho).symm
   have d2 : vs 2 = (.int .u8 (k1 : Int)) := hd ⟨2, .data⟩ (by simp) rfl
   have d6 : vs 6 = (.int .u8 (k2 : Int)) := hd ⟨6, .data⟩ (by simp) rfl
   clear hd ho
   have h5 := G.h (j := 2) (d := 5) rfl (by decide) d2
   have h9 := G.h (j := 6) (d := 9) rfl (by decide) d6
   refine step_open rfl ?_
   clear G
   exact step_run (v := (.int .u8 (((k1 : Nat) : Int) + ((k2 : Nat) : Int)))) (by go_simp) rfl
  | 8 =>
   intro ho hd
   obtain rfl := (Option.some.inj ho).symm
   clear hd ho
   refine step_open rfl ?_
   clear G
   exact step_run (v := (.int .u32 (x : Int))) (by go_simp) rfl
  | 9 =>
   intro ho hd
   obtain rfl := (Option.some.inj ho).symm
   have d8 : vs 8 = (.int .u32 (x : Int)) := hd ⟨8, .data⟩ (by simp) rfl
   clear hd ho
   have h11 := G.h (j := 8) (d := 11) rfl (by decide) d8
   refine step_open rfl ?_
   clear G
   exact step_run (v := (.int .u32 (c : Int))) (by go_simp) rfl
  | 10 =>
   intro ho hd
   obtain rfl := (Option.some.inj ho).symm
   have d9 : vs 9 = (.int .u32 (c : Int)) := hd ⟨9, .data⟩ (by simp) rfl
   clear hd ho
   have h12 := G.h (j := 9) (d := 12) rfl (by decide) d9
   refine step_open rfl ?_
   clear G
   exact step_run (v := (.int .u32 (c' : Int))) (by go_simp) rfl
  | 11 =>
   intro ho hd
   obtain rfl := (Option.some.inj ho).symm
   have d10 : vs 10 = (.int .u32 (c' : Int)) := hd ⟨10, .data⟩ (by simp) rfl
   clear hd ho
   have h13 := G.h (j := 10) (d := 13) rfl (by decide) d10
   refine step_open rfl ?_
   clear G
   exact step_run (v := (.int .u8 (k3 : Int))) (by go_simp) rfl
  | 12 =>
   intro ho hd
   obtain rfl := (Option.some.inj ho).symm
   have d7 : vs 7 = (.int .u8 (((k1 : Nat) : Int) + ((k2 : Nat) : Int))) := hd ⟨7, .data⟩ (by simp) rfl
   have d11 : vs 11 = (.int .u8 (k3 : Int)) := hd ⟨11, .data⟩ (by simp) rfl
   clear hd ho
   have h10 := G.h (j := 7) (d := 10) rfl (by decide) d7
   have h14 := G.h (j := 11) (d := 14) rfl (by decide) d11
   refine step_open rfl ?_
   clear G
   exact step_run (v := (.int .u8 (((k1 : Nat) : Int) + ((k2 : Nat) : Int) + ((k3 : Nat) : Int)))) (by go_simp) rfl
  | 13 =>
   intro ho hd
   obtain rfl := (Option.some.inj ho).symm
   clear hd ho
   refine step_open rfl ?_
   clear G
   exact step_run (v := (.int .u32 (x : Int))) (by go_simp) rfl
  | 14 =>
   intro ho hd
   obtain rfl := (Option.some.inj ho).symm
   have d13 : vs 13 = (.int .u32 (x : Int)) := hd ⟨13, .data⟩ (by simp) rfl
   clear hd ho
   have h16 := G.h (j := 13) (d := 16) rfl (by decide) d13
   refine step_open rfl ?_
   clear G
   exact step_run (v := (.int .u32 (d' : Int))) (by go_simp) rfl
  | 15 =>
   intro ho hd
   obtain rfl := (Option.some.inj ho).symm
   have d14 : vs 14 = (.int .u32 (d' : Int)) := hd ⟨14, .data⟩ (by simp) rfl
   clear hd ho
   have h17 := G.h (j := 14) (d := 17) rfl (by decide) d14
   refine step_open rfl ?_
   clear G
   exact step_run (v := (.int .u8 (k4 : Int))) (by go_simp) rfl
  | 16 =>
   intro ho hd
   obtain rfl := (Option.some.inj ho).symm
   have d12 : vs 12 = (.int .u8 (((k1 : Nat) : Int) + ((k2 : Nat) : Int) + ((k3 : Nat) : Int))) := hd ⟨12, .data⟩ (by simp) rfl
   have d15 : vs 15 = (.int .u8 (k4 : Int)) := hd ⟨15, .data⟩ (by simp) rfl
   clear hd ho
   have h15 := G.h (j := 12) (d := 15) rfl (by decide) d12
   have h18 := G.h (j := 15) (d := 18) rfl (by decide) d15
   refine step_open rfl ?_
   clear G
   exact step_run (v := (.int .u8 (((k1 : Nat) : Int) + ((k2 : Nat) : Int) + ((k3 : Nat) : Int) + ((k4 : Nat) : Int)))) (by go_simp) rfl
  | 17 =>
   intro ho hd
   obtain rfl := (Option.some.inj ho).symm
   have d16 : vs 16 = (.int .u8 (((k1 : Nat) : Int) + ((k2 : Nat) : Int) + ((k3 : Nat) : Int) + ((k4 : Nat) : Int))) := hd ⟨16, .data⟩ (by simp) rfl
   clear hd ho
   have h19 := G.h (j := 16) (d := 19) rfl (by decide) d16
   refine step_open rfl ?_
   clear G
   exact step_run (v := (.int .i64 (((k1 : Nat) : Int) + ((k2 : Nat) : Int) + ((k3 : Nat) : Int) + ((k4 : Nat) : Int)))) (by go_simp) rfl
  | 18 =>
   intro ho hd
   obtain rfl := (Option.some.inj ho).symm
   have d17 : vs 17 = (.int .i64 (((k1 : Nat) : Int) + ((k2 : Nat) : Int) + ((k3 : Nat) : Int) + ((k4 : Nat) : Int))) := hd ⟨17, .data⟩ (by simp) rfl
   clear hd ho
   have h20 := G.h (j := 17) (d := 20) rfl (by decide) d17
   refine step_open rfl ?_
   clear G
   exact step_run (v := (.int .i64 (((k1 : Nat) : Int) + ((k2 : Nat) : Int) + ((k3 : Nat) : Int) + ((k4 : Nat) : Int)))) (by go_simp) rfl
  | n + 19 =>
   intro ho hd
   simp at ho
 ·intro vs w' hb hR
  have hv : vs 18 = (.int .i64 ((k1 : Int) + (k2 : Int) + (k3 : Int) + (k4 : Int))) := hR 18 (by simp)
  have HB2 := Lib.hid hb
  simp only [putAll, Act.put, List.setIfInBounds_toArray, List.set_cons_succ, List.set_cons_zero]
  rw [hv]
  clear hR hb hv
  go_wp2_with fail
  go_ret
  exact ⟨ret_intk HR.out, HB2.out⟩
end Go.Proofs.YthmpknlgkflhiabGreat
