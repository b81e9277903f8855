/- Contracts of column.Swap and Set. -/
import Derived.Test.YtoadihebdaooaaaGreatU3
import Derived.Deep.RegionLaw
namespace Go.Proofs.YtoadihebdaooaaaGreat
open Go.RowKit
set_option linter.unusedVariables false
theorem Out.drew {F : Nat → Prop} {a b : World} (h : Out F a b) : Out F a b.drew := ⟨h.os, h.tape, h.output, h.size, h.block⟩
theorem copy_sl (w : World) (ty : TypeId) (g off cap g2 off2 cap2 : Nat) (l : List UInt8) (arr : Array Value) (hg : w.heap[g]? = some (.cells arr 5 (0, 0))) (hfit : off + l.length ≤ arr.size) (hsrc : ∀ (k : Nat) (x : UInt8), l[k]? = some x → w.cell? ⟨g2, off2 + k, none⟩ = some (.int .u8 x.toNat)) :
    ∃ w', (Builtin.copy_ #[192, 192] ty #[.slice (some ⟨g, off, none⟩) l.length cap, .slice (some ⟨g2, off2, none⟩) l.length cap2]).run Tryz.prog w = .ok (goInt l.length) w' ∧ Only g w w' ∧ w'.heap[g]? = some (.cells (splice arr.toList off (Lib.byteCells l)).toArray 5 (0, 0)) := by
  have hlen : (Lib.byteCells l).length = l.length := Lib.byteCells_length l
  have hr := run_copy_row (P := Tryz.prog) w 192 192 ty 5 g off l.length cap ⟨g2, off2, none⟩ l.length cap2 arr 5 (Lib.byteCells l) Tryz.underlying192 (by kernel_rfl) hg (by rw [hlen]; exact (Nat.min_self _).symm) (fun j v hv => by
    have : (⟨g2, off2, none⟩ : Addr).add j = ⟨g2, off2 + j, none⟩ := by simp [Addr.add]
    rw [this]
    simp only [Lib.byteCells, List.getElem?_map, Option.map_eq_some_iff] at hv
    obtain ⟨x, hx, rfl⟩ := hv
    exact hsrc j x hx) (by rw [hlen]; exact hfit) (Lib.byteCells_one l)
  rw [hlen] at hr
  refine ⟨_, hr, Only.setRow _ _ _, ?_⟩
  rw [setRow_heap w g _ _ _ _ hg]
  simp [splice, hlen]
theorem ownsRow_shrink {w : World} {b : Nat} {e : TypeId} {va : Option Addr} {n vc m : Nat} {xs : List Value} (h : w.ownsRow b e 1 (.slice va n vc) n xs) (hm : m ≤ n) (h0 : 0 < n) : w.ownsRow b e 1 (.slice va m vc) m (xs.take m) := by
  obtain ⟨h1, h2⟩ := h
  refine ⟨by rw [List.length_take]; omega, ?_⟩
  rcases h2 with ⟨_, h3⟩ | ⟨g, cap, cur, hv, hg, hh, hc1, hc2, hc3, hc4⟩
  · omega
  · cases hv
    exact .inr ⟨g, vc, cur, rfl, hg, hh, by omega, hc2, hc3, by rw [← hc4, List.take_take]; congr 1; omega⟩
theorem ColMem.shrink {B : Nat} {w : World} {size cap n cb : Nat} {va : Option Addr} {vc : Nat} {gs : List Nat} {G : Nat} (h : ColMem B w size cap n cb va vc gs) (hG : gs.length = G + 1) : ColMem B (w.setCell ⟨cb, 3, none⟩ (.slice va G vc)) size cap n cb va vc (gs.take G) := by
  have ho := Only.at w cb 3 (.slice va G vc)
  have hl : (gs.take G).length = G := by rw [List.length_take]; omega
  refine ⟨?_, ?_, h.hcb, h.nd.sublist (List.take_sublist _ _), fun x hx => ?_, h.hsz, h.hn, h.hcap, by rw [hl]; have := h.hgl; omega⟩
  · rw [hl]
    simpa using hset w cb 3 (.slice va G vc) _ _ _ h.blk
  · rw [hl]
    have := ownsRow_shrink h.own (show G ≤ gs.length by omega) (by omega)
    rw [← List.map_take] at this
    refine ownsRow_out this (Out.only (F := fun b => b = cb) ho rfl) (fun x hx e => ?_)
    subst e
    exact ownsRow_ne_block3 this h.blk (fun cur he => by cases he) hx.symm
  · obtain ⟨h1, a, h2, h3⟩ := h.chunk x (List.mem_of_mem_take hx)
    exact ⟨h1, a, keepO ho h2 (fun e => by subst e; rw [h.blk] at h2; cases h2), h3⟩
theorem RowsIn.sub {w : World} {size : Nat} {rows rows' : List (List UInt8)} {gs gs' : List Nat} (h : RowsIn w size rows gs) (h1 : ∀ (i : Nat) (r : List UInt8), rows'[i]? = some r → rows[i]? = some r) (h2 : ∀ (i g : Nat), gs'[i]? = some g → gs[i]? = some g) : RowsIn w size rows' gs' :=
  fun i row hr g hg k x hx => h i row (h1 i row hr) g (h2 _ g hg) k x hx
theorem take_sub {α : Type} {l : List α} {m i : Nat} {x : α} (h : (l.take m)[i]? = some x) : l[i]? = some x := by
  rw [List.getElem?_take] at h
  split at h
  · exact h
  · cases h
set_option maxRecDepth 100000 in
set_option maxHeartbeats 4000000 in
theorem colSet_any (B : Nat) (w : World) (d : CD) (i : Nat) (s : ByteArray) (h : ColAt B w d) (hi : i < d.rows.length) (hs : s.size = d.size) :
    Calls Tryz.prog 83 #[.pointer (some ⟨d.cb, 0, none⟩), .int .i64 (i : Int), .string s] w fun e w' => e = .returned (.int .i64 0) ∧ ColAt B w' { d with rows := d.rows.set i s.data.toList } ∧ Out d.foot w w' := by
  obtain ⟨size, cap, rows, cb, va, vc, gs⟩ := d
  simp only at hs hi ⊢
  obtain ⟨hm, hnum, hcell, hsz, hle⟩ := h
  simp only at hm hnum hcell hsz hle
  have hchk := colCheck_any size cap rows.length cb _ (i : Int) w hm.blk
  rw [if_pos ⟨by omega, by omega⟩] at hchk
  have HCHK := Lib.hid hchk
  have hsz256 := hm.hsz
  have c0 := cell_at hm.blk 0
  simp at c0
  have e1 : ((s.size : Int) != (size : Int)) = false := by rw [hs]; simp
  obtain ⟨g, hgg⟩ : ∃ g, gs[i / 16]? = some g := ⟨_, List.getElem?_eq_getElem (by omega)⟩
  obtain ⟨arr, harr, hal⟩ := (hm.chunk g (List.mem_of_getElem? hgg)).2
  have hsl : s.data.toList.length = size := by exact hs
  have hoff : i % 16 * size + s.size ≤ arr.size := by
    have h1 : i % 16 * size ≤ 15 * size := Nat.mul_le_mul_right _ (by omega)
    omega
  have hmem : g ∈ gs := List.mem_of_getElem? hgg
  have HM := Lib.hid hm
  have HR := Lib.hid (show RowsIn w size rows gs from hcell)
  have HSZ := Lib.hid hsz
  have HS := Lib.hid hs
  have HNUM := Lib.hid hnum
  have HGG := Lib.hid hgg
  have HAR := Lib.hid harr
  have HAL := Lib.hid hal
  clear hm hcell hsz hs hnum hgg harr hal hchk
  go_enter Tryz.func83, Tryz.ntmps83
  go_wp2_with fail
  refine HCHK.out.mono ?_
  rintro e w1 ⟨rfl, rfl⟩
  clear HCHK
  go_wp2_with fail
  refine (colCell_any B _ size cap rows.length cb _ _ gs i g HM.out HGG.out).mono ?_
  rintro e w1 ⟨rfl, q, rfl⟩
  obtain ⟨w2, hr, ho, hh⟩ := copy_str (w.drewN q) 3 g (i % 16 * size) (16 * size - i % 16 * size) s arr HAR.out hoff
  rw [HS.out] at hr
  have HHR := Lib.hid hr
  have HHO := Lib.hid ho
  have HHH := Lib.hid hh
  clear hr ho hh
  go_wp2_with (first | (refine Lib.wpList_copy_run _ rfl _ _ 192 9 rfl _ _ rfl rfl HHR.out ?_))
  go_returns
  have hasz : (splice arr.toList (i % 16 * size) (Lib.byteCells s.data.toList)).toArray.size = 16 * size := by
    have h3 : (Lib.byteCells s.data.toList).length = s.size := by rw [Lib.byteCells_length]; rfl
    have h4 : arr.toList.length = arr.size := Array.length_toList
    have h5 := HAL.out
    rw [List.size_toArray, length_splice _ _ _ (by omega)]; omega
  have hm2 := (HM.out.drewN q).only hmem HHO.out HHH.out hasz
  refine ⟨rfl, ⟨by simpa using hm2, by simpa using HNUM.out, ?_, fun r hr => ?_, by simpa using hle⟩, ((Out.refl _ w).drewN _).trans (Out.only HHO.out (.inr (.inr hmem))) (fun x h => .inl h)⟩
  · refine (HR.out.drewN q).lay HM.out.nd HSZ.out HGG.out HAR.out hsl HAL.out HHO.out HHH.out _ (fun j row hj => ?_)
    by_cases e : j = i
    · subst e
      rw [List.getElem?_set_self hi] at hj
      cases hj
      exact .inr ⟨rfl, rfl⟩
    · rw [List.getElem?_set_ne (Ne.symm e)] at hj
      exact .inl ⟨e, hj⟩
  · rcases List.mem_or_eq_of_mem_set hr with hr | rfl
    · exact HSZ.out r hr
    · exact hsl
set_option maxRecDepth 100000 in
set_option maxHeartbeats 400000 in
theorem colSwap_any (B : Nat) (w : World) (d : CD) (i m : Nat) (l : List UInt8) (h : ColAt B w d) (hi : i ≤ m) (hm : d.rows.length = m + 1) (hl : d.rows[m]? = some l) :
    Calls Tryz.prog 80 #[.pointer (some ⟨d.cb, 0, none⟩), .int .i64 (i : Int)] w fun e w' => e = .returned (.tuple #[.int .i64 (m : Int), .int .i64 0]) ∧ ∃ gs, ColAt B w' { d with rows := (d.rows.set i l).take m, gs := gs } ∧ Out d.foot w w' ∧ (∀ b, CD.foot { d with rows := (d.rows.set i l).take m, gs := gs } b → d.foot b) := by
  obtain ⟨size, cap, rows, cb, va, vc, gs⟩ := d
  simp only at hm hl ⊢
  obtain ⟨hmm, hnum, hcell, hsz, hle⟩ := h
  simp only at hmm hnum hcell hsz hle
  have hchk := colCheck_any size cap rows.length cb _ (i : Int) w hmm.blk
  rw [if_pos ⟨by omega, by omega⟩] at hchk
  have HCHK := Lib.hid hchk
  have hsz256 := hmm.hsz
  have hcap := hmm.hcap
  have c2 := cell_at hmm.blk 2
  rw [hm] at c2
  simp at c2
  obtain ⟨g, hgg⟩ : ∃ g, gs[i / 16]? = some g := ⟨_, List.getElem?_eq_getElem (by omega)⟩
  obtain ⟨g2, hgg2⟩ : ∃ g2, gs[m / 16]? = some g2 := ⟨_, List.getElem?_eq_getElem (by omega)⟩
  obtain ⟨arr, harr, hal⟩ := (hmm.chunk g (List.mem_of_getElem? hgg)).2
  have hsl : l.length = size := hsz l (List.mem_of_getElem? hl)
  have hoff : i % 16 * size + l.length ≤ arr.size := by
    have h1 : i % 16 * size ≤ 15 * size := Nat.mul_le_mul_right _ (by omega)
    omega
  have hmem : g ∈ gs := List.mem_of_getElem? hgg
  have hsrc : ∀ (k : Nat) (x : UInt8), l[k]? = some x → w.cell? ⟨g2, m % 16 * size + k, none⟩ = some (.int .u8 x.toNat) := hcell m l hl g2 hgg2
  have HM := Lib.hid hmm
  have HR := Lib.hid (show RowsIn w size rows gs from hcell)
  have HSZ := Lib.hid hsz
  have HSL := Lib.hid hsl
  have HLM := Lib.hid hm
  have HNUM := Lib.hid hnum
  have HGG := Lib.hid hgg
  have HGG2 := Lib.hid hgg2
  have HAR := Lib.hid harr
  have HAL := Lib.hid hal
  have HSRC := Lib.hid hsrc
  have HLE := Lib.hid hle
  have hmb : m < 65536 := by omega
  clear hmm hcell hsz hsl hnum hgg hgg2 harr hal hchk hsrc hl hm hle
  go_enter Tryz.func80, Tryz.ntmps80
  go_wp2_with fail
  refine HCHK.out.mono ?_
  rintro e w1 ⟨rfl, rfl⟩
  clear HCHK
  go_wp2_with fail
  refine (colCell_any B _ size cap rows.length cb _ _ gs i g HM.out HGG.out).mono ?_
  rintro e w1 ⟨rfl, q, rfl⟩
  go_wp2_with fail
  refine (colCell_any B _ size cap rows.length cb _ _ gs m g2 (HM.out.drewN q) HGG2.out).mono ?_
  rintro e w1 ⟨rfl, q2, rfl⟩
  obtain ⟨w2, hr, ho, hh⟩ := copy_sl (w.drewN (q + q2)) 3 g (i % 16 * size) (16 * size - i % 16 * size) g2 (m % 16 * size) (16 * size - m % 16 * size) l arr HAR.out hoff HSRC.out
  rw [HSL.out] at hr
  have hasz : (splice arr.toList (i % 16 * size) (Lib.byteCells l)).toArray.size = 16 * size := by
    have h3 : (Lib.byteCells l).length = l.length := Lib.byteCells_length l
    have h4 : arr.toList.length = arr.size := Array.length_toList
    have h5 := HAL.out
    rw [List.size_toArray, length_splice _ _ _ (by omega)]; omega
  have hm2 := (HM.out.drewN (q + q2)).only hmem ho hh hasz
  have d2 := cell_at hm2.blk 2
  have d3 := cell_at hm2.blk 3
  have f2 := free_at hm2.blk 2
  have f3 := free_at hm2.blk 3
  simp at d2 d3
  have HHR := Lib.hid hr
  have HHO := Lib.hid ho
  have HHH := Lib.hid hh
  have HM2 := Lib.hid hm2
  clear hr ho hh hm2
  go_wp2_with (first | (refine Lib.wpList_copy_run _ rfl _ _ 192 192 rfl _ _ rfl rfl HHR.out ?_))
  all_goals
    have hrow2 : RowsIn w2 size (rows.set i l) gs := (HR.out.drewN (q + q2)).lay HM.out.nd HSZ.out HGG.out HAR.out HSL.out HAL.out HHO.out HHH.out _ (fun j row hj => by
      by_cases e : j = i
      · subst e
        rw [List.getElem?_set_self (by have := HLM.out; omega)] at hj
        cases hj
        exact .inr ⟨rfl, rfl⟩
      · rw [List.getElem?_set_ne (Ne.symm e)] at hj
        exact .inl ⟨e, hj⟩)
    have hm3 := HM2.out.setN (m := m) (by omega)
    have hrow3 := RowsIn.setN HM2.out hrow2 2 (.int .i64 (m : Int))
    have hout3 : Out (CD.foot ⟨size, cap, rows, cb, va, vc, gs⟩) w (w2.setCell ⟨cb, 2, none⟩ (.int .i64 (m : Int))) := (((Out.refl _ w).drewN _).trans (Out.only HHO.out (.inr (.inr hmem))) (fun x h => .inl h)).trans (Out.only (Only.at w2 cb 2 _) (.inl rfl)) (fun x h => .inl h)
    have hsz3 : ∀ r ∈ (rows.set i l).take m, r.length = size := fun r hr => by
      rcases List.mem_or_eq_of_mem_set (List.mem_of_mem_take hr) with hr | rfl
      · exact HSZ.out r hr
      · exact HSL.out
    have hlen3 : ((rows.set i l).take m).length = m := by rw [List.length_take, List.length_set]; have := HLM.out; omega
    generalize w2.setCell ⟨cb, 2, none⟩ (.int .i64 (m : Int)) = W3 at *
    have HM3 := Lib.hid hm3
    have HR3 := Lib.hid hrow3
    have HO3 := Lib.hid hout3
    have HS3 := Lib.hid hsz3
    have HL3 := Lib.hid hlen3
    clear hrow2 hm3 hrow3 hout3 hsz3 hlen3 HHR HHO HHH HM2 d2 d3 f2 f3
  · have hdiv : m % 16 = 0 := by
      have : ((m : Int) % 16 == 0) = true := by assumption
      rw [beq_iff_eq] at this; omega
    obtain ⟨G, hG⟩ : ∃ G, gs.length = G + 1 := ⟨gs.length - 1, by have := HGG.out; have := (List.getElem?_eq_some_iff.1 this).1; omega⟩
    have hGm : G * 16 = m := by have h1 := HNUM.out; have h2 := HLM.out; omega
    have c3 := cell_at HM3.out.blk 3
    have f3 := free_at HM3.out.blk 3
    rw [hG] at c3
    simp at c3
    have hgl := HM3.out.hgl
    have hG1 : G ≤ 5000 := by omega
    have hw1 : IntKind.i64.wrap (G : Int) = (G : Int) := IntWalk.i64_in _ (by omega)
    have i1 : (0 : Int) ≤ (G : Int) := by omega
    have hvc : G + 1 ≤ vc := by
      rcases HM3.out.own.2 with ⟨_, h0⟩ | ⟨q0, cap', cur', h1, _, _, h4, _⟩
      · omega
      · cases h1; omega
    have i2 : (G : Int) ≤ (vc : Int) := by omega
    have HGL := Lib.hid hG
    have HGM := Lib.hid hGm
    have HDIV := Lib.hid hdiv
    clear hG hGm hdiv hgl
    go_region_law (fail)
    all_goals
      go_wp2_with fail
      go_ret2
      have hms := (HM3.out.shrink HGL.out).out ((Out.refl (fun _ => False) _).drew) (by simp) (by simp) (by simp)
      have hrs := RowsIn.setN HM3.out HR3.out 3 (.slice va G vc)
      have hlg : (gs.take G).length = G := by rw [List.length_take]; have := HGL.out; omega
      refine ⟨rfl, gs.take G, ⟨by simpa [HL3.out] using hms, by simp only [HL3.out]; have h1 := HGM.out; omega, RowsIn.sub hrs (fun i r h => take_sub h) (fun i g h => take_sub h), HS3.out, by simp only [HL3.out]; have h1 := HLE.out; have h2 := HLM.out; omega⟩, ?_, fun b hb => ?_⟩
      · exact (HO3.out.trans (Out.only (Only.at W3 cb 3 _) (.inl rfl)) (fun x h => .inl h)).drew
      · rcases hb with rfl | hb | hb
        · exact .inl rfl
        · refine .inr (.inl ?_)
          show (Value.slice va gs.length vc).ownBlock = some b
          cases va with
          | none => cases hb
          | some a => exact hb
        · exact .inr (.inr (List.mem_of_mem_take hb))
  · have hdiv : ¬ m % 16 = 0 := by
      have : ((m : Int) % 16 == 0) = false := by assumption
      rw [beq_eq_false_iff_ne] at this; omega
    go_ret2
    refine ⟨rfl, gs, ⟨by simpa [HL3.out] using HM3.out, by simp only [HL3.out]; have h1 := HNUM.out; have h2 := HLM.out; omega, HR3.out.sub (fun i r h => take_sub h) (fun i g h => h), HS3.out, by simp only [HL3.out]; have h1 := HLE.out; have h2 := HLM.out; omega⟩, HO3.out, fun b hb => hb⟩
end Go.Proofs.YtoadihebdaooaaaGreat
