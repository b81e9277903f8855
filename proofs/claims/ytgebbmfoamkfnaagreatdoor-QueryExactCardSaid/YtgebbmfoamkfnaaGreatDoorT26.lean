/- sig.Text, Within, Meets; query's Matches and Text. · retrofitref20.has, Matches: the answers of the document. · The index in memory: what it holds, frames; handles. · The queue of free ids: its methods. · The queue's ends; the heap: down, up, Pop, Push. -/
import Derived.Test.YtgebbmfoamkfnaaGreatDoorT15
import Derived.Test.YtgebbmfoamkfnaaGreatDoorT16
import Derived.Test.YtgebbmfoamkfnaaGreatDoorT25
import Derived.Test.YtgebbmfoamkfnaaGreatDoorT12
import Derived.Test.YtgebbmfoamkfnaaGreatDoorT23
import Derived.Test.YtgebbmfoamkfnaaGreatDoorT10
import Derived.Test.YtgebbmfoamkfnaaGreatDoorT7
import Derived.Test.YtgebbmfoamkfnaaGreatDoorT4
import Derived.Laws.BitsAllLaws
import Derived.WalkKit
import Derived.BigQuiet
import Derived.Deep.QuietTactic
import Derived.Deep.DeepCutAuto
import Derived.Test.YtgebbmfoamkfnaaGreatDoorT11
import Derived.Deep.AppendLies
import Derived.Deep.RegionLaw
namespace Go.Proofs.YtgebbmfoamkfnaaGreatDoor
open Go.RowKit
set_option linter.unusedVariables false
open Go.Lib (decDigits join)
theorem within_any (s t : Int) (w : World) (h0 : 0 ≤ s) (h1 : s ≤ 4294967295) (h2 : 0 ≤ t) (h3 : t ≤ 4294967295) : Calls Tryz.prog 34 #[.int .u32 s, .int .u32 t] w fun e w' => e = .returned (.bool (within s t)) ∧ w = w' := by
  go_enter Tryz.func34, Tryz.ntmps34
  go_wp2_with fail
  go_returns
  exact ⟨rfl, rfl⟩
theorem meets_any (s t : Int) (w : World) (h0 : 0 ≤ s) (h1 : s ≤ 4294967295) (h2 : 0 ≤ t) (h3 : t ≤ 4294967295) : Calls Tryz.prog 35 #[.int .u32 s, .int .u32 t] w fun e w' => e = .returned (.bool (meets s t)) ∧ w = w' := by
  go_enter Tryz.func35, Tryz.ntmps35
  go_wp2_with fail
  go_returns
  exact ⟨rfl, rfl⟩
theorem matches_any (al no t : Int) (w : World) (h0 : 0 ≤ al) (h1 : al ≤ 4294967295) (k0 : 0 ≤ no) (k1 : no ≤ 4294967295) (h2 : 0 ≤ t) (h3 : t ≤ 4294967295) : Calls Tryz.prog 12 #[.agg #[.int .u32 al, .int .u32 no], .int .u32 t] w fun e w' => e = .returned (.bool (matchB al no t)) ∧ Below w.heap.size w w' := by
  have HB : Hid (Below w.heap.size w (w.alloc (.cells #[.int .u32 al, .int .u32 no] 30))) := Lib.hid (by go_grown)
  have HW := fun W => within_any al t W h0 h1 h2 h3
  have HM := fun W => meets_any no t W k0 k1 h2 h3
  obtain ⟨a, ha⟩ : ∃ a, within al t = a := ⟨_, rfl⟩
  obtain ⟨b, hb⟩ : ∃ b, meets no t = b := ⟨_, rfl⟩
  have HR : Hid (matchB al no t = (a && !b)) := Lib.hid (by unfold matchB; rw [ha, hb])
  rw [HR.out]
  simp only [ha] at HW
  simp only [hb] at HM
  clear ha hb
  cases a
  · go_enter Tryz.func12, Tryz.ntmps12
    go_wp2_with fail
    refine (HW _).mono ?_
    rintro e w2 ⟨rfl, rfl⟩
    go_wp2_with fail
    go_returns
    exact ⟨rfl, HB.out⟩
  · go_enter Tryz.func12, Tryz.ntmps12
    go_wp2_with fail
    refine (HW _).mono ?_
    rintro e w2 ⟨rfl, rfl⟩
    go_wp2_with fail
    refine (HM _).mono ?_
    rintro e w2 ⟨rfl, rfl⟩
    go_wp2_with fail
    go_returns
    exact ⟨by cases b <;> rfl, HB.out⟩
theorem textS_len (n : Int) : (textS n).length ≤ 100 := by
  unfold textS
  split
  · simp
  · have h1 := join_len (s := 43) (m := 2) (l := (idsTo n 24).map fun i => decDigits i.toNat) (fun x hx => by
      obtain ⟨i, hi, rfl⟩ := List.mem_map.1 hx
      have := ids_pos hi
      exact dd_len2 i.toNat (by omega))
    rw [List.length_map] at h1
    have := idsTo_len n 24
    omega
theorem ids_take {l : List Int} {k : Nat} {x : Int} (h : l[k]? = some x) : (l.take (k + 1)).map (fun i => decDigits i.toNat) = (l.take k).map (fun i => decDigits i.toNat) ++ [decDigits x.toNat] := by
  rw [List.take_add_one, h, List.map_append]
  rfl
set_option maxRecDepth 100000 in
set_option maxHeartbeats 2000000 in
theorem sText_any (n : Int) (w : World) (h0 : 0 ≤ n) (h1 : n ≤ 4294967295) : Calls Tryz.prog 41 #[.int .u32 n] w fun e w' => e = .returned (.string ⟨(textS n).toArray⟩) ∧ Below w.heap.size w w' := by
  obtain ⟨i0, hi, hz0, hz1, hz2⟩ := info_parts Tryz.infoS9
  obtain ⟨L, hL⟩ : ∃ L, idsTo n 24 = L := ⟨_, rfl⟩
  obtain ⟨ln, hln⟩ : ∃ ln, L.length = ln := ⟨_, rfl⟩
  have hln24 : ln ≤ 24 := by rw [← hln, ← hL]; exact idsTo_len n 24
  have HLN := Lib.hid hln
  have HL := Lib.hid hL
  have HSL := sigLen_any n w h0 h1
  rw [hL, hln] at HSL
  have HSL := Lib.hid HSL
  clear hL hln
  by_cases hz : ln = 0
  · subst hz
    have HT : Hid (textS n = [45]) := Lib.hid (by unfold textS; rw [HL.out, List.eq_nil_of_length_eq_zero HLN.out]; rfl)
    go_enter Tryz.func41, Tryz.ntmps41
    go_wp2_with fail
    refine HSL.out.mono ?_
    rintro e w2 ⟨rfl, hb2⟩
    have HB2 := Lib.hid hb2
    clear hb2
    go_wp2_with fail
    go_returns
    exact ⟨by rw [HT.out]; rfl, HB2.out⟩
  have e0 : ((ln : Int) == 0) = false := by simp; omega
  have HT : Hid (textS n = join (L.map fun i => decDigits i.toNat) [43]) := Lib.hid (by
    unfold textS
    rw [HL.out, if_neg]
    intro e
    have : L = [] := by simpa using e
    rw [this] at HLN
    exact hz HLN.out.symm)
  go_enter Tryz.func41, Tryz.ntmps41
  go_wp2_with fail
  refine HSL.out.mono ?_
  rintro e w2 ⟨rfl, hb2⟩
  have HB2 := Lib.hid hb2
  clear hb2 HSL
  go_wp2_with fail
  refine (ids_any n w2 h0 h1).mono ?_
  rintro e w3 ⟨va, m, vc, rfl, hm, hown, hb3⟩
  rw [HL.out, HLN.out] at hm
  subst hm
  rw [HL.out] at hown
  have HB3 := Lib.hid (HB2.out.trans (hb3.mono HB2.out.size))
  obtain ⟨q, rfl, _, hql, hqc⟩ := row_block hown (by omega)
  have HQ : Hid (q < w3.heap.size ∧ ∀ (k : Nat) (x : Int), L[k]? = some x → w3.cell? ⟨q, k, none⟩ = some (.int .i64 x)) := Lib.hid ⟨hql, fun k x hx => hqc k _ (by rw [List.getElem?_map, hx]; rfl)⟩
  clear hb3 hown hql hqc
  go_wp2_with fail
  go_loopw [3, 12] (fun o i wr => ∃ (k : Nat) (oa : Option Addr) (oc : Nat), o = .slice oa k oc ∧ i = .int .i64 (k : Int) ∧ k ≤ m ∧ wr.ownsRow w3.heap.size 9 1 (.slice oa k oc) k (strV ((L.take k).map fun i => decDigits i.toNat)) ∧ Below w3.heap.size w3 wr) (fun _ i _ => m - (intOf i).toNat)
  case atStart => exact ⟨0, none, 0, rfl, rfl, Nat.zero_le _, World.ownsRow_nil _ _ _ _, Below.refl _ _⟩
  case round =>
    obtain ⟨k, oa, oc, rfl, rfl, hk, hown, hb⟩ := hrel
    by_cases hlt : k < m
    · obtain ⟨x, hx⟩ : ∃ x, L[k]? = some x := ⟨_, List.getElem?_eq_getElem (by rw [HLN.out]; exact hlt)⟩
      have hxp : 1 ≤ x ∧ x ≤ 24 := ids_pos (n := n) (by rw [HL.out]; exact List.mem_of_getElem? hx)
      obtain ⟨xn, rfl⟩ : ∃ xn : Nat, x = (xn : Int) := ⟨x.toNat, by omega⟩
      have x0 := (hb.cell (p := ⟨q, k, none⟩) HQ.out.1).trans (HQ.out.2 k _ hx)
      have g0 : (0 : Int) ≤ (k : Int) := by omega
      have g1 : (k : Int) < (m : Int) := by omega
      have HX := Lib.hid hx
      have HOWN := Lib.hid hown
      have HB := Lib.hid hb
      clear hx hown hb
      go_wp2_with fail
      refine (Tryz.strconv_Itoa_small xn (by omega) _).mono ?_
      rintro e w5 ⟨rfl, rfl⟩
      have hown6 := HOWN.out.alloc (.cells #[.string ⟨(decDigits xn).toArray⟩] 9)
      have hb7 := HB.out.alloc HB.out.size (.cells #[.string ⟨(decDigits xn).toArray⟩] 9)
      have hnews : ∀ j u, ([.string ⟨(decDigits xn).toArray⟩] : List Value)[j]? = some u → (w5.alloc (.cells #[.string ⟨(decDigits xn).toArray⟩] 9)).cell? ((⟨w5.heap.size, 0, none⟩ : Addr).add j) = some u :=
        World.news_of_block (w := w5.alloc (.cells #[.string ⟨(decDigits xn).toArray⟩] 9)) (cs := #[.string ⟨(decDigits xn).toArray⟩]) (t := 9) (fr := (0, 0)) (heap_alloc_new w5 _)
      have hsz := HB.out.size
      have HOWN6 := Lib.hid hown6
      have HB7 := Lib.hid hb7
      have HNEWS := Lib.hid hnews
      clear hown6 hb7 hnews x0 HOWN
      go_wp2_with (at_builtin; refine wpList_append_own _ rfl (.tmp 16) (.tmp 19) 139 rfl w3.heap.size 9 i0 (.string ByteArray.empty) 1 16 Tryz.underlying139 hi hz0 hz1 hz2 rfl (by decide) (.slice oa k oc) k _ rfl HOWN6.out ⟨w5.heap.size, 0, none⟩ 1 1 _ rfl rfl HNEWS.out (fun u hu => by simp at hu; subst hu; rfl) (by unfold maxLen; omega) (by omega) (by simp; omega) ?_)
      intro v' w8 hown8 hg8 _
      obtain ⟨va', vc', hv'⟩ := ownsRow_slice hown8
      rw [hv'] at hown8 ⊢
      clear hv'
      have HB8 := Lib.hid (HB7.out.trans (below_own HOWN6.out hg8 HB7.out.size))
      have HOWN8 : Hid (w8.ownsRow w3.heap.size 9 1 (.slice va' (k + 1) vc') (k + 1) (strV ((L.take (k + 1)).map fun i => decDigits i.toNat))) := Lib.hid (by
        rw [ids_take HX.out, strV_snoc]
        first | exact hown8 | (rw [List.map_take]; exact hown8))
      clear hown8 hg8 HOWN6 HNEWS HB7
      go_wp2_with fail
      go_roundw
      case rel => exact ⟨k + 1, va', vc', rfl, by go_num, by omega, HOWN8.out, HB8.out⟩
      case measure => simp [intOf]; omega
    · obtain rfl : k = m := by omega
      have hfull : L.take k = L := by rw [← HLN.out, List.take_length]
      rw [hfull] at hown
      have hjl : (join (L.map fun i => decDigits i.toNat) [43]).length ≤ 1000000 := by
        have := textS_len n
        rw [HT.out] at this
        omega
      have HJ := Lib.hid (join_any (s := 43) hown (by rw [List.length_map]; exact HLN.out) (by omega) hjl (by omega))
      have HB := Lib.hid hb
      clear hown hb hjl
      go_wp2_with fail
      refine HJ.out.mono ?_
      rintro e w5 ⟨rfl, hb5⟩
      have HB5 := Lib.hid (HB3.out.trans ((HB.out.trans (hb5.mono HB.out.size)).mono HB3.out.size))
      clear hb5
      go_wp2_with fail
      go_returns
      exact ⟨by rw [HT.out]; rfl, HB5.out⟩
end Go.Proofs.YtgebbmfoamkfnaaGreatDoor
namespace Go.Proofs.YtgebbmfoamkfnaaGreatDoor
open Go.RowKit
set_option linter.unusedVariables false
theorem mem_ids10 {s i : Int} (h0 : 0 ≤ s) (h1 : s ≤ 4294967295) : i ∈ ids10 s 24 ↔ idB i = true ∧ hasB s i = true := by
 rw [← ids_same16 h0 h1]
 constructor
 ·intro h
  have := idsTo_mem h
  exact ⟨this.2, this.1⟩
 ·rintro ⟨h2, h3⟩
  unfold idsTo
  rw [List.mem_filter]
  refine ⟨?_, h3⟩
  obtain ⟨n, rfl, n1, n2⟩ := idNat h2
  exact List.mem_map.2 ⟨n - 1, List.mem_range.2 (by omega), by omega⟩
theorem within_ids {s t : Int} (hs : 0 ≤ s ∧ s ≤ 4294967295) (ht : 0 ≤ t ∧ t ≤ 4294967295) : within s t = (ids10 s 24).all fun i => decide (i ∈ ids10 t 24) := by
 apply Bool.eq_iff_iff.2
 rw [within_iff ⟨hs.1, by omega⟩ ⟨ht.1, by omega⟩, List.all_eq_true]
 constructor
 ·intro h i hi
  obtain ⟨h1, h2⟩ := (mem_ids10 hs.1 hs.2).1 hi
  exact decide_eq_true ((mem_ids10 ht.1 ht.2).2 ⟨h1, h i h1 h2⟩)
 ·intro h i h1 h2
  exact ((mem_ids10 ht.1 ht.2).1 (of_decide_eq_true (h i ((mem_ids10 hs.1 hs.2).2 ⟨h1, h2⟩)))).2
theorem meets_ids {s t : Int} (hs : 0 ≤ s ∧ s ≤ 4294967295) (ht : 0 ≤ t ∧ t ≤ 4294967295) : meets s t = (ids10 s 24).any fun i => decide (i ∈ ids10 t 24) := by
 apply Bool.eq_iff_iff.2
 rw [meets_iff ⟨hs.1, by omega⟩ ⟨ht.1, by omega⟩, List.any_eq_true]
 constructor
 ·rintro ⟨i, h1, h2, h3⟩
  exact ⟨i, (mem_ids10 hs.1 hs.2).2 ⟨h1, h2⟩, decide_eq_true ((mem_ids10 ht.1 ht.2).2 ⟨h1, h3⟩)⟩
 ·rintro ⟨i, h1, h2⟩
  obtain ⟨h3, h4⟩ := (mem_ids10 hs.1 hs.2).1 h1
  exact ⟨i, h3, h4, ((mem_ids10 ht.1 ht.2).1 (of_decide_eq_true h2)).2⟩
set_option maxRecDepth 100000 in
set_option maxHeartbeats 1000000 in
theorem has20_any (l : List Int) (n : Nat) (va : Option Addr) (vc : Nat) (x : Int) (w : World) (B : Nat) (ho : w.ownsRow B 3 1 (.slice va n vc) n (l.map (.int .i64))) (hn : n ≤ 100000) : Calls Tryz.prog 40 #[.slice va n vc, .int .i64 x] w fun e w' => e = .returned (.bool (decide (x ∈ l))) ∧ Below w.heap.size w w' := by
 have hln : l.length = n := by have := ho.1; rw [List.length_map] at this; omega
 have HO := Lib.hid ho
 have HLN := Lib.hid hln
 clear ho hln
 go_enter Tryz.func40, Tryz.ntmps40
 go_wp2_with fail
 go_loopw [5] (fun i wr => ∃ k : Nat, i = .int .i64 (k : Int) ∧ k ≤ n ∧ x ∉ l.take k ∧ Below w.heap.size w wr) (fun i _ => n - (intOf i).toNat)
 case atStart => exact ⟨0, rfl, Nat.zero_le _, by simp, Below.refl _ _⟩
 case round =>
  obtain ⟨k, rfl, hk, hni, hb⟩ := hrel
  by_cases hlt : k < n
  ·obtain ⟨q, rfl, _, hql, hqc⟩ := row_block (ownsRow_below HO.out hb) (by omega)
   obtain ⟨y, hy⟩ : ∃ y, l[k]? = some y := ⟨_, List.getElem?_eq_getElem (by rw [HLN.out]; exact hlt)⟩
   have y0 := hqc k (.int .i64 y) (by rw [List.getElem?_map, hy]; rfl)
   have g0 : (0 : Int) ≤ (k : Int) := by omega
   have g1 : (k : Int) < (n : Int) := by omega
   have HTK := Lib.hid (take_snoc hy)
   have HNI := Lib.hid hni
   have HMY := Lib.hid (List.mem_of_getElem? hy)
   have HB := Lib.hid hb
   clear hqc hy hni hb
   by_cases hxy : y = x
   ·subst hxy
    go_wp2_with fail
    go_returns
    exact ⟨ret_bool (by rw [decide_eq_true HMY.out]), HB.out⟩
   ·go_wp2_with fail
    go_roundw
    case rel => exact ⟨k + 1, by go_num, by omega, by rw [HTK.out]; simp [HNI.out, Ne.symm hxy], HB.out⟩
    case measure => simp [intOf]; omega
  ·obtain rfl : k = n := by omega
   rw [List.take_of_length_le (by rw [HLN.out]; exact Nat.le_refl _)] at hni
   have HFIN := Lib.hid (And.intro hni hb)
   clear hni hb
   go_wp2_with fail
   go_returns
   exact ⟨ret_bool (by rw [decide_eq_false HFIN.out.1]), HFIN.out.2⟩
set_option maxRecDepth 100000 in
set_option maxHeartbeats 1000000 in
theorem match20_any (al no s : Int) (w : World) (ha : 0 ≤ al ∧ al ≤ 4294967295) (hn : 0 ≤ no ∧ no ≤ 4294967295) (hs : 0 ≤ s ∧ s ≤ 4294967295) : Calls Tryz.prog 13 #[.int .u32 al, .int .u32 no, .int .u32 s] w fun e w' => e = .returned (.bool (matchB al no s)) ∧ Below w.heap.size w w' := by
 obtain ⟨R, hR⟩ : ∃ R, matchB al no s = R := ⟨_, rfl⟩
 rw [hR]
 unfold matchB at hR
 rw [within_ids ha hs, meets_ids hn hs] at hR
 have HA := Lib.hid (fun W => ids10_any al W ha.1 ha.2)
 have HN := Lib.hid (fun W => ids10_any no W hn.1 hn.2)
 have HS := Lib.hid (fun W => ids10_any s W hs.1 hs.2)
 have hla := ids10_len al 24
 have hln := ids10_len no 24
 have hls := ids10_len s 24
 unfold IsIds10 at HA HN HS
 generalize ids10 al 24 = la at *
 generalize ids10 no 24 = ln at *
 generalize ids10 s 24 = ls at *
 have HR := Lib.hid hR
 clear ha hn hs hR
 go_enter Tryz.func13, Tryz.ntmps13
 go_wp2_with fail
 refine (HA.out _).mono ?_
 rintro e w1 ⟨aa, an, ac, rfl, han, hao, hb1⟩
 have han2 : an ≤ 24 := by omega
 have HAN := Lib.hid han
 clear han hla
 have HAO := Lib.hid hao
 have HB1 := Lib.hid hb1
 clear hao hb1 HA
 go_wp2_with fail
 refine (HN.out _).mono ?_
 rintro e w2 ⟨na, nn, nc, rfl, hnn, hno, hb2⟩
 have hnn2 : nn ≤ 24 := by omega
 have HNN := Lib.hid hnn
 clear hnn hln
 have HAO2 := Lib.hid (ownsRow_below HAO.out hb2)
 have HNO := Lib.hid hno
 have HB2 := Lib.hid (HB1.out.trans (hb2.mono HB1.out.size))
 clear hno hb2 HN HAO HB1
 go_wp2_with fail
 refine (HS.out _).mono ?_
 rintro e w3 ⟨sa, sn, sc, rfl, hsn, hso, hb3⟩
 have hsn2 : sn ≤ 24 := by omega
 clear hsn hls
 have HAO3 := Lib.hid (ownsRow_below HAO2.out hb3)
 have HNO3 := Lib.hid (ownsRow_below HNO.out hb3)
 have HSO := Lib.hid hso
 have HB3 := Lib.hid (HB2.out.trans (hb3.mono HB2.out.size))
 clear hso hb3 HS HAO2 HNO HB2
 go_wp2_with fail
 go_loopw [10] (fun i wr => ∃ k : Nat, i = .int .i64 (k : Int) ∧ k ≤ an ∧ ((la.take k).all fun i => decide (i ∈ ls)) = true ∧ Below w3.heap.size w3 wr) (fun i _ => an - (intOf i).toNat)
 case atStart => exact ⟨0, rfl, Nat.zero_le _, by simp, Below.refl _ _⟩
 case round =>
  obtain ⟨k, rfl, hk, hall, hb⟩ := hrel
  have hHAS := fun y => has20_any ls sn sa sc y wr _ (ownsRow_below HSO.out hb) (by omega)
  by_cases hlt : k < an
  ·obtain ⟨q, rfl, _, hql, hqc⟩ := row_block (ownsRow_below HAO3.out hb) (by omega)
   obtain ⟨y, hy⟩ : ∃ y, la[k]? = some y := ⟨_, List.getElem?_eq_getElem (by have := HAN.out; omega)⟩
   have y0 := hqc k (.int .i64 y) (by rw [List.getElem?_map, hy]; rfl)
   have g0 : (0 : Int) ≤ (k : Int) := by omega
   have g1 : (k : Int) < (an : Int) := by omega
   have HTK := Lib.hid (take_snoc hy)
   have HMY := Lib.hid (List.mem_of_getElem? hy)
   have HALL := Lib.hid hall
   have HB := Lib.hid hb
   have hh := hHAS y
   obtain ⟨r, hr⟩ : ∃ r, decide (y ∈ ls) = r := ⟨_, rfl⟩
   rw [hr] at hh
   have HH := Lib.hid hh
   have HRR := Lib.hid hr
   clear hqc hy hall hb hHAS hh hr
   go_wp2_with fail
   refine HH.out.mono ?_
   rintro e w5 ⟨rfl, hb5⟩
   have HB5 := Lib.hid (HB.out.trans (hb5.mono HB.out.size))
   clear hb5
   cases r
   ·have HF : Hid (R = false) := Lib.hid (by
     rw [← HR.out]
     have : (la.all fun i => decide (i ∈ ls)) = false := List.all_eq_false.2 ⟨y, HMY.out, by rw [HRR.out]; simp⟩
     rw [this]; rfl)
    go_wp2_with fail
    go_returns
    exact ⟨ret_bool HF.out.symm, HB3.out.trans (HB5.out.mono HB3.out.size)⟩
   ·go_wp2_with fail
    go_roundw
    case rel => exact ⟨k + 1, by go_num, by omega, by rw [HTK.out, List.all_append, HALL.out]; simp [of_decide_eq_true HRR.out], HB5.out⟩
    case measure => simp [intOf]; omega
  ·obtain rfl : k = an := by omega
   rw [List.take_of_length_le (by have := HAN.out; omega)] at hall
   have HB4 := Lib.hid hb
   have HR2 : Hid ((!(ln.any fun i => decide (i ∈ ls))) = R) := Lib.hid (by rw [← HR.out, hall]; rfl)
   clear hall hb hHAS
   go_wp2_with fail
   go_loopw [11] (fun i w2 => ∃ j : Nat, i = .int .i64 (j : Int) ∧ j ≤ nn ∧ ((ln.take j).any fun i => decide (i ∈ ls)) = false ∧ Below w3.heap.size w3 w2) (fun i _ => nn - (intOf i).toNat)
   case atStart => exact ⟨0, rfl, Nat.zero_le _, by simp, HB4.out⟩
   case round =>
    rename_i _ wq
    obtain ⟨j, rfl, hj, hany, hb⟩ := hrel
    by_cases hlt2 : j < nn
    ·have hHAS := fun y W (hb : Below w3.heap.size w3 W) => has20_any ls sn sa sc y W _ (ownsRow_below HSO.out hb) (by omega)
     obtain ⟨q, rfl, _, hql, hqc⟩ := row_block (ownsRow_below HNO3.out hb) (by omega)
     obtain ⟨y, hy⟩ : ∃ y, ln[j]? = some y := ⟨_, List.getElem?_eq_getElem (by have := HNN.out; omega)⟩
     have y0 := hqc j (.int .i64 y) (by rw [List.getElem?_map, hy]; rfl)
     have g0 : (0 : Int) ≤ (j : Int) := by omega
     have g1 : (j : Int) < (nn : Int) := by omega
     have HTK := Lib.hid (take_snoc hy)
     have HMY := Lib.hid (List.mem_of_getElem? hy)
     have HANY := Lib.hid hany
     have HB := Lib.hid hb
     have hh := hHAS y _ hb
     obtain ⟨r, hr⟩ : ∃ r, decide (y ∈ ls) = r := ⟨_, rfl⟩
     rw [hr] at hh
     have HH := Lib.hid hh
     have HRR := Lib.hid hr
     clear hqc hy hany hb hHAS hh hr
     go_wp2_with fail
     refine HH.out.mono ?_
     rintro e w5 ⟨rfl, hb5⟩
     have HB5 := Lib.hid (HB.out.trans (hb5.mono HB.out.size))
     clear hb5
     cases r
     ·go_wp2_with fail
      go_roundw
      case rel => exact ⟨j + 1, by go_num, by omega, by rw [HTK.out, List.any_append, HANY.out]; simp [of_decide_eq_false HRR.out], HB5.out⟩
      case measure => simp [intOf]; omega
     ·have HF : Hid (R = false) := Lib.hid (by
       rw [← HR2.out]
       have : (ln.any fun i => decide (i ∈ ls)) = true := List.any_eq_true.2 ⟨y, HMY.out, HRR.out⟩
       rw [this]; rfl)
      go_wp2_with fail
      go_returns
      exact ⟨ret_bool HF.out.symm, HB3.out.trans (HB5.out.mono HB3.out.size)⟩
    ·obtain rfl : j = nn := by omega
     rw [List.take_of_length_le (by have := HNN.out; omega)] at hany
     have HF : Hid (R = true) := Lib.hid (by rw [← HR2.out, hany]; rfl)
     have HB := Lib.hid hb
     clear hany hb
     go_wp2_with fail
     go_returns
     exact ⟨ret_bool HF.out.symm, HB3.out.trans (HB.out.mono HB3.out.size)⟩
end Go.Proofs.YtgebbmfoamkfnaaGreatDoor
namespace Go.Proofs.YtgebbmfoamkfnaaGreatDoor
open Go.RowKit
set_option linter.unusedVariables false
structure XD where
 xb : Nat
 ix : IX
 fr : List Int
 ga : Option Addr
 gc : Nat
 la : Option Addr
 lc : Nat
 fa : Option Addr
 fc : Nat
def XD.foot (x : XD) (b : Nat) : Prop := b = x.xb ∨ (Value.slice x.ga x.ix.gens.length x.gc).ownBlock = some b ∨ (Value.slice x.la x.ix.lives.length x.lc).ownBlock = some b ∨ (Value.slice x.fa x.fr.length x.fc).ownBlock = some b
structure XMem (w : World) (x : XD) : Prop where
 blk : w.heap[x.xb]? = some (.cells #[.int .i64 x.ix.most, .slice x.ga x.ix.gens.length x.gc, .slice x.la x.ix.lives.length x.lc, .slice x.fa x.fr.length x.fc] 161 (0, 0))
 gensR : w.ownsRow 0 3 1 (.slice x.ga x.ix.gens.length x.gc) x.ix.gens.length (x.ix.gens.map (.int .i64))
 livesR : w.ownsRow 0 4 1 (.slice x.la x.ix.lives.length x.lc) x.ix.lives.length (x.ix.lives.map .bool)
 freeR : w.ownsRow 0 3 1 (.slice x.fa x.fr.length x.fc) x.fr.length (x.fr.map (.int .i64))
 ne : ∀ b, (Value.slice x.ga x.ix.gens.length x.gc).ownBlock = some b → (Value.slice x.fa x.fr.length x.fc).ownBlock ≠ some b
structure XIn (w : World) (x : XD) : Prop extends XMem w x where
 ok : x.ix.Ok
 free : FreeOk x.ix x.fr
theorem XMem.out {w w' : World} {x : XD} {F : Nat → Prop} (h : XMem w x) (ho : Out F w w') (hF : ∀ b, x.foot b → ¬ F b) : XMem w' x :=
 ⟨ho.keep h.blk (hF _ (.inl rfl)), ownsRow_out h.gensR ho (fun b hb => hF b (.inr (.inl hb))), ownsRow_out h.livesR ho (fun b hb => hF b (.inr (.inr (.inl hb)))), ownsRow_out h.freeR ho (fun b hb => hF b (.inr (.inr (.inr hb)))), h.ne⟩
theorem XIn.out {w w' : World} {x : XD} {F : Nat → Prop} (h : XIn w x) (ho : Out F w w') (hF : ∀ b, x.foot b → ¬ F b) : XIn w' x := ⟨h.toXMem.out ho hF, h.ok, h.free⟩
theorem XIn.below {w w' : World} {x : XD} (h : XIn w x) (hb : Below w.heap.size w w') : XIn w' x := h.out (F := fun _ => False) (Out.of hb) (fun _ _ => id)
theorem hOf_bits {id gen : Nat} (h : id < 4294967296) (hg : gen < 4294967296) : bits BinOp.or .u64 ((gen : Int) * 4294967296) (id : Int) = hOf id gen := by
 have e : ((gen : Int) * 4294967296) = ((gen * 4294967296 : Nat) : Int) := by omega
 rw [e, u64_or_nat _ _ (by omega) (by omega)]
 have := Nat.two_pow_add_eq_or_of_lt (i := 32) (b := id) (by omega) gen
 rw [show gen * 4294967296 = 2 ^ 32 * gen by omega, ← this]
 unfold hOf
 omega
theorem low_bits {e : Int} (h0 : 0 ≤ e) (h1 : e < 18446744073709551616) : bits BinOp.and .u64 e 4294967295 = e % 4294967296 := by
 obtain ⟨n, rfl⟩ := Int.eq_ofNat_of_zero_le h0
 rw [show (4294967295 : Int) = ((4294967295 : Nat) : Int) from rfl, u64_and_nat _ _ (by omega) (by omega), nat_mask32]
 omega
theorem entOf_any (id gen : Nat) (w : World) (h1 : 1 ≤ id) (h2 : id < 4294967296) (g1 : 1 ≤ gen) (g2 : gen < 4294967296) : Calls Tryz.prog 89 #[.int .i64 id, .int .i64 gen] w fun e w' => e = .returned (.int .u64 (hOf id gen)) ∧ w = w' := by
 have HB := Lib.hid (hOf_bits h2 g2)
 go_enter Tryz.func89, Tryz.ntmps89
 go_wp2_with fail
 all_goals
  go_returns
  exact ⟨ret_intk HB.out, rfl⟩
theorem entId_any (e : Int) (w : World) (h0 : 0 ≤ e) (h1 : e < 18446744073709551616) : Calls Tryz.prog 190 #[.int .u64 e] w fun en w' => en = .returned (.int .i64 (e % 4294967296)) ∧ w = w' := by
 have hb := low_bits h0 h1
 have b0 : 0 ≤ e % 4294967296 := by omega
 have b1 : e % 4294967296 < 4294967296 := by omega
 go_enter Tryz.func190, Tryz.ntmps190
 go_wp2_with fail
 go_returns
 exact ⟨rfl, rfl⟩
theorem entGen_any (e : Int) (w : World) (h0 : 0 ≤ e) (h1 : e < 18446744073709551616) : Calls Tryz.prog 191 #[.int .u64 e] w fun en w' => en = .returned (.int .i64 (e / 4294967296)) ∧ w = w' := by
 have b0 : 0 ≤ e / 4294967296 := by omega
 have b1 : e / 4294967296 < 4294967296 := by omega
 go_enter Tryz.func191, Tryz.ntmps191
 go_wp2_with fail
 go_returns
 exact ⟨rfl, rfl⟩
end Go.Proofs.YtgebbmfoamkfnaaGreatDoor
namespace Go.Proofs.YtgebbmfoamkfnaaGreatDoor
open Go.RowKit
set_option linter.unusedVariables false
theorem XMem.cells {w : World} {x : XD} (h : XMem w x) : w.cell? ⟨x.xb, 0, none⟩ = some (.int .i64 x.ix.most) ∧ w.cell? ⟨x.xb, 1, none⟩ = some (.slice x.ga x.ix.gens.length x.gc) ∧ w.cell? ⟨x.xb, 2, none⟩ = some (.slice x.la x.ix.lives.length x.lc) ∧ w.cell? ⟨x.xb, 3, none⟩ = some (.slice x.fa x.fr.length x.fc) ∧ ∀ o, w.frozen? ⟨x.xb, o, none⟩ = false := by
 have c0 := cell_at h.blk 0
 have c1 := cell_at h.blk 1
 have c2 := cell_at h.blk 2
 have c3 := cell_at h.blk 3
 simp at c0 c1 c2 c3
 exact ⟨c0, c1, c2, c3, fun o => free_at h.blk o⟩
def XD.withFr (x : XD) (l : List Int) : XD := { x with fr := l }
structure XStep (x x' : XD) (w w' : World) : Prop where
 mem : XMem w' x'
 xb : x'.xb = x.xb
 out : Out x.foot w w'
 foot : ∀ b, x'.foot b → x.foot b ∨ w.heap.size ≤ b
theorem XStep.trans {x y z : XD} {a b c : World} (h : XStep x y a b) (k : XStep y z b c) : XStep x z a c :=
 ⟨k.mem, k.xb.trans h.xb, h.out.trans k.out h.foot, fun q hq => (k.foot q hq).elim (h.foot q) fun hb => .inr (Nat.le_trans h.out.size hb)⟩
theorem XStep.refl {x : XD} {w : World} (h : XMem w x) : XStep x x w w := ⟨h, rfl, Out.refl _ _, fun _ => .inl⟩
theorem XStep.below {x y : XD} {a b c : World} (h : XStep x y a b) (hb : Below b.heap.size b c) : XStep x y a c :=
 h.trans ⟨h.mem.out (F := fun _ => False) (Out.of hb) (fun _ _ => id), rfl, Out.of hb, fun _ => .inl⟩
theorem XMem.frow {w : World} {x : XD} (h : XMem w x) {k : Nat} (hk : k < x.fr.length) : ∃ q, x.fa = some ⟨q, 0, none⟩ ∧ q < w.heap.size ∧ w.cell? ⟨q, k, none⟩ = some (.int .i64 (at0 x.fr k)) ∧ w.frozen? ⟨q, k, none⟩ = false ∧ x.fr.length ≤ x.fc ∧ q ≠ x.xb := by
 obtain ⟨q, hq, _, hl, hc⟩ := row_block h.freeR (by omega)
 obtain ⟨q2, hq2, _, hf, _, hcap⟩ := ownsRow_set (r := k) (.int .i64 0) h.freeR hk
 have : q2 = q := by rw [hq] at hq2; cases hq2; rfl
 subst this
 refine ⟨q2, hq, hl, hc k _ (by rw [List.getElem?_map, at0_get hk]; rfl), hf, hcap, fun e => ?_⟩
 have h1 := ownsRow_ne_block3 h.freeR h.blk (fun cur he => by cases he)
 rw [hq] at h1
 exact h1 (by rw [e]; rfl)
theorem XMem.fput {w : World} {x : XD} (h : XMem w x) {k : Nat} (hk : k < x.fr.length) (y : Int) {q : Nat} (hq : x.fa = some ⟨q, 0, none⟩) : XStep x (x.withFr (x.fr.set k y)) w (w.setCell ⟨q, k, none⟩ (.int .i64 y)) := by
 obtain ⟨q2, hq2, hrow, hf, hql, hcap⟩ := ownsRow_set (r := k) (.int .i64 y) h.freeR hk
 have : q2 = q := by rw [hq] at hq2; cases hq2; rfl
 subst this
 have ho : Only q2 w (w.setCell ⟨q2, k, none⟩ (.int .i64 y)) := Only.at w q2 k _
 have hfb : (Value.slice x.fa x.fr.length x.fc).ownBlock = some q2 := by rw [hq]; rfl
 have hn1 : q2 ≠ x.xb := fun e => by
  have h1 := ownsRow_ne_block3 h.freeR h.blk (fun cur he => by cases he)
  exact h1 (by rw [hfb, e])
 have hn2 : ∀ b, (Value.slice x.ga x.ix.gens.length x.gc).ownBlock = some b → b ≠ q2 := fun b hb e => h.ne b hb (by rw [e]; exact hfb)
 have hn3 : ∀ b, (Value.slice x.la x.ix.lives.length x.lc).ownBlock = some b → b ≠ q2 := fun b hb e => by
  subst e
  obtain ⟨c1, h1⟩ := row_type h.livesR hb
  obtain ⟨c2, h2⟩ := row_type h.freeR hfb
  rw [h1] at h2; cases h2
 have hout : Out (fun b => b = q2) w (w.setCell ⟨q2, k, none⟩ (.int .i64 y)) := Out.only ho rfl
 refine ⟨⟨?_, ownsRow_out h.gensR hout hn2, ownsRow_out h.livesR hout hn3, ?_, ?_⟩, rfl, hout.mono (fun b hb => .inl (by subst hb; exact .inr (.inr (.inr hfb)))), fun b hb => .inl ?_⟩
 ·have := keepO ho h.blk (Ne.symm hn1)
  simpa [XD.withFr] using this
 ·simpa [XD.withFr, List.map_set] using hrow
 ·intro b hb
  have := h.ne b hb
  simpa [XD.withFr] using this
 ·rcases hb with hb | hb | hb | hb
  ·exact .inl hb
  ·exact .inr (.inl hb)
  ·exact .inr (.inr (.inl hb))
  ·exact .inr (.inr (.inr (by simpa [XD.withFr] using hb)))
theorem qLen_any (a : Option Addr) (n c : Nat) (w : World) : Calls Tryz.prog 242 #[.slice a n c] w fun e w' => e = .returned (.int .i64 n) ∧ w = w' := by
 go_enter Tryz.func242, Tryz.ntmps242
 go_wp2_with fail
 go_returns
 exact ⟨rfl, rfl⟩
theorem qLess_any (x : XD) (w : World) (h : XMem w x) (i j : Nat) (hi : i < x.fr.length) (hj : j < x.fr.length) : Calls Tryz.prog 243 #[.slice x.fa x.fr.length x.fc, .int .i64 i, .int .i64 j] w fun e w' => e = .returned (.bool (decide (at0 x.fr i < at0 x.fr j))) ∧ ∃ n, w' = w.drewN n := by
 obtain ⟨q, hq, _, ci, _, hcap, _⟩ := h.frow hi
 obtain ⟨q', hq', _, cj, _, _, _⟩ := h.frow hj
 have : q' = q := by rw [hq] at hq'; cases hq'; rfl
 subst this
 rw [hq]
 have i0 : (0 : Int) ≤ (i : Int) := by omega
 have i1 : (i : Int) < (x.fr.length : Int) := by omega
 have j0 : (0 : Int) ≤ (j : Int) := by omega
 have j1 : (j : Int) < (x.fr.length : Int) := by omega
 have H := Lib.hid h
 have HQ := Lib.hid hq
 clear h hq hq' hi hj
 go_enter Tryz.func243, Tryz.ntmps243
 go_wp2_with fail
 go_quiet (fail)
 go_wp2_with fail
 go_returns
 exact ⟨rfl, _, rfl⟩
theorem qSwap_any (x : XD) (w : World) (h : XMem w x) (i j : Nat) (hi : i < x.fr.length) (hj : j < x.fr.length) : Calls Tryz.prog 244 #[.slice x.fa x.fr.length x.fc, .int .i64 i, .int .i64 j] w fun e w' => e = .returned (.tuple #[]) ∧ XStep x (x.withFr (swapL x.fr i j)) w w' := by
 obtain ⟨q, hq, _, ci, fi, hcap, _⟩ := h.frow hi
 obtain ⟨q', hq', _, cj, fj, _, _⟩ := h.frow hj
 have : q' = q := by rw [hq] at hq'; cases hq'; rfl
 subst this
 rw [hq]
 have i0 : (0 : Int) ≤ (i : Int) := by omega
 have i1 : (i : Int) < (x.fr.length : Int) := by omega
 have j0 : (0 : Int) ≤ (j : Int) := by omega
 have j1 : (j : Int) < (x.fr.length : Int) := by omega
 have hst := h.fput hi (at0 x.fr j) hq
 have hj2 : j < (x.fr.set i (at0 x.fr j)).length := by simpa using hj
 obtain ⟨q3, hq3, _, cs, fs, _, _⟩ := hst.mem.frow hj2
 have : q3 = q' := by
  have hq3 : x.fa = some ⟨q3, 0, none⟩ := hq3
  rw [hq] at hq3; cases hq3; rfl
 subst this
 have e1 : at0 (x.fr.set i (at0 x.fr j)) j = at0 x.fr j := by
  unfold at0
  rw [List.getD_eq_getElem?_getD, List.getD_eq_getElem?_getD, List.getElem?_set]
  split
  ·rename_i e; subst e; simp [hi]
  ·rfl
 have cs : (w.setCell ⟨q3, i, none⟩ (.int .i64 (at0 x.fr j))).cell? ⟨q3, j, none⟩ = some (.int .i64 (at0 (x.fr.set i (at0 x.fr j)) j)) := cs
 rw [e1] at cs
 have hst2 := hst.trans (hst.mem.fput hj2 (at0 x.fr i) hq)
 have HST := Lib.hid hst2
 clear h hq hq' hst hst2 e1 hq3 hj2
 go_enter Tryz.func244, Tryz.ntmps244
 go_wp2_with fail
 go_region
 all_goals
  go_wp2_with fail
  go_end0
  exact ⟨rfl, HST.out.below ⟨rfl, rfl, rfl, Nat.le_refl _, fun _ _ => rfl⟩⟩
end Go.Proofs.YtgebbmfoamkfnaaGreatDoor
namespace Go.Proofs.YtgebbmfoamkfnaaGreatDoor
open Go.RowKit
set_option linter.unusedVariables false
theorem XMem.fb {w : World} {x : XD} (h : XMem w x) : ∀ b, (Value.slice x.fa x.fr.length x.fc).ownBlock = some b → b ≠ x.xb := fun b hb e => by
 have h1 := ownsRow_ne_block3 h.freeR h.blk (fun cur he => by cases he)
 exact h1 (by rw [hb, e])
theorem XMem.gb {w : World} {x : XD} (h : XMem w x) : ∀ b, (Value.slice x.ga x.ix.gens.length x.gc).ownBlock = some b → b ≠ x.xb := fun b hb e => by
 have h1 := ownsRow_ne_block3 h.gensR h.blk (fun cur he => by cases he)
 exact h1 (by rw [hb, e])
theorem XMem.lb {w : World} {x : XD} (h : XMem w x) : ∀ b, (Value.slice x.la x.ix.lives.length x.lc).ownBlock = some b → b ≠ x.xb := fun b hb e => by
 have h1 := ownsRow_ne_block3 h.livesR h.blk (fun cur he => by cases he)
 exact h1 (by rw [hb, e])
def XD.withFa (x : XD) (fa : Option Addr) (fc : Nat) (l : List Int) : XD := { x with fr := l, fa := fa, fc := fc }
theorem XMem.fhang {w : World} {x : XD} (h : XMem w x) {fa : Option Addr} {fc : Nat} {l : List Int} (hrow : w.ownsRow 0 3 1 (.slice fa l.length fc) l.length (l.map (.int .i64))) (hf : ∀ b, (Value.slice fa l.length fc).ownBlock = some b → b ≠ x.xb ∧ (Value.slice x.ga x.ix.gens.length x.gc).ownBlock ≠ some b) :
  XMem (w.setCell ⟨x.xb, 3, none⟩ (.slice fa l.length fc)) (x.withFa fa fc l) := by
 have ho : Out (fun b => b = x.xb) w (w.setCell ⟨x.xb, 3, none⟩ (.slice fa l.length fc)) := Out.only (Only.at w x.xb 3 _) rfl
 refine ⟨?_, ownsRow_out h.gensR ho (fun b hb e => h.gb b hb e), ownsRow_out h.livesR ho (fun b hb e => h.lb b hb e), ownsRow_out hrow ho (fun b hb e => (hf b hb).1 e), fun b hb hb2 => (hf b hb2).2 hb⟩
 have := hset w x.xb 3 (.slice fa l.length fc) _ _ _ h.blk
 simpa [XD.withFa] using this
theorem XMem.ftake {w : World} {x : XD} (h : XMem w x) {m : Nat} (hm : x.fr.length = m + 1) : XStep x (x.withFr (x.fr.take m)) w (w.setCell ⟨x.xb, 3, none⟩ (.slice x.fa m x.fc)) := by
 have hl : (x.fr.take m).length = m := by rw [List.length_take]; omega
 have hr := ownsRow_shrink h.freeR (show m ≤ x.fr.length by omega) (by omega)
 have hob : (Value.slice x.fa m x.fc).ownBlock = (Value.slice x.fa x.fr.length x.fc).ownBlock := by cases x.fa <;> rfl
 have := h.fhang (l := x.fr.take m) (fa := x.fa) (fc := x.fc) (by rw [hl, List.map_take]; exact hr) (fun b hb => by rw [hl, hob] at hb; exact ⟨h.fb b hb, fun hg => h.ne b hg hb⟩)
 rw [hl] at this
 refine ⟨this, rfl, (Out.only (Only.at w x.xb 3 _) (F := fun b => b = x.xb) rfl).mono (fun b hb => .inl (.inl hb)), fun b hb => .inl ?_⟩
 rcases hb with hb | hb | hb | hb
 ·exact .inl hb
 ·exact .inr (.inl hb)
 ·exact .inr (.inr (.inl hb))
 ·refine .inr (.inr (.inr ?_))
  have hb : (Value.slice x.fa (x.fr.take m).length x.fc).ownBlock = some b := hb
  rw [hl, hob] at hb; exact hb
theorem qPop_any (x : XD) (w : World) (h : XMem w x) (m : Nat) (hm : x.fr.length = m + 1) (hl : m ≤ 300) : Calls Tryz.prog 245 #[.pointer (some ⟨x.xb, 3, none⟩)] w fun e w' => e = .returned (.iface 3 (.int .i64 (at0 x.fr m))) ∧ XStep x (x.withFr (x.fr.take m)) w w' := by
 obtain ⟨q, hq, _, ci, fi, hcap, _⟩ := h.frow (show m < x.fr.length by omega)
 obtain ⟨_, _, _, c3, fz⟩ := h.cells
 have f3 := fz 3
 have hst := h.ftake hm
 rw [hm] at c3 hcap
 rw [hq] at c3 hst
 have i0 : (0 : Int) ≤ (m : Int) := by omega
 have i1 : (m : Int) < (m : Int) + 1 := by omega
 have i2 : (m : Int) ≤ (x.fc : Int) := by omega
 have HST := Lib.hid hst
 clear h hq hst hm fz
 go_enter Tryz.func245, Tryz.ntmps245
 go_wp2_with fail
 go_returns
 exact ⟨rfl, HST.out⟩
theorem Tryz.infoI : (Tryz.prog.info? 3).map (fun i => (i.zero, i.size, i.bytes)) = some (some (.int .i64 0), 1, 8) := by kernel_rfl
theorem assert_int (y : Int) (w : World) : (Instr.typeAssert (.iface 3 (.int .i64 y)) 20 3 false).run Tryz.prog w = .ok (.int .i64 y) w := by kernel_rfl
theorem XMem.fapp {W w6 : World} {x : XD} (h : XMem W x) {o : Obj} {q cap : Nat} {y : Int} (hg : (W.alloc o).drew.grownBy w6 (Value.slice x.fa x.fr.length x.fc).ownBlock) (hrow : w6.ownsRow 0 3 1 (.slice (some ⟨q, 0, none⟩) (x.fr.length + 1) cap) (x.fr.length + 1) (x.fr.map (.int .i64) ++ [.int .i64 y])) (hat : (Value.slice x.fa x.fr.length x.fc).ownBlock = some q ∨ q = W.heap.size + 1) :
  XStep x (x.withFa (some ⟨q, 0, none⟩) cap (x.fr ++ [y])) W (w6.setCell ⟨x.xb, 3, none⟩ (.slice (some ⟨q, 0, none⟩) (x.fr.length + 1) cap)) := by
 have h1 : Out (fun b => (Value.slice x.fa x.fr.length x.fc).ownBlock = some b) W w6 := ⟨hg.os, hg.tape, hg.output, by have := hg.size; simp at this; omega, fun k hk hF => (hg.block k (by simp; omega) (fun e => hF e.symm)).trans (by
  show (W.alloc o).heap[k]? = _
  rw [halloc, if_neg (by omega)])⟩
 have hl3 : ∀ b, (Value.slice x.la x.ix.lives.length x.lc).ownBlock = some b → ¬ (Value.slice x.fa x.fr.length x.fc).ownBlock = some b := fun b hb e => by
  obtain ⟨c1, k1⟩ := row_type h.livesR hb
  obtain ⟨c2, k2⟩ := row_type h.freeR e
  rw [k1] at k2; cases k2
 have hblk := h1.keep h.blk (fun e => h.fb _ e rfl)
 have hgR := ownsRow_out h.gensR h1 (fun b hb e => h.ne b hb e)
 have hlR := ownsRow_out h.livesR h1 hl3
 have hq1 : q ≠ x.xb := fun e => by
  rcases hat with hat | hat
  ·exact h.fb _ hat e
  ·have := lt_some h.blk; omega
 have hq2 : (Value.slice x.ga x.ix.gens.length x.gc).ownBlock ≠ some q := fun e => by
  rcases hat with hat | hat
  ·exact h.ne _ e hat
  ·obtain ⟨c1, k1⟩ := row_type h.gensR e
   have := lt_some k1; omega
 have ho : Out (fun b => b = x.xb) w6 (w6.setCell ⟨x.xb, 3, none⟩ (.slice (some ⟨q, 0, none⟩) (x.fr.length + 1) cap)) := Out.only (Only.at w6 x.xb 3 _) rfl
 have hqb : ∀ b, (Value.slice (some ⟨q, 0, none⟩) (x.fr.length + 1) cap).ownBlock = some b → b = q := fun b hb => by simp [Value.ownBlock] at hb; exact hb.symm
 refine ⟨⟨?_, ownsRow_out hgR ho (fun b hb e => h.gb b hb e), ownsRow_out hlR ho (fun b hb e => h.lb b hb e), ?_, fun b hb hb2 => ?_⟩, rfl, ?_, ?_⟩
 ·have := hset w6 x.xb 3 (.slice (some ⟨q, 0, none⟩) (x.fr.length + 1) cap) _ _ _ hblk
  simpa [XD.withFa] using this
 ·have := ownsRow_out hrow ho (fun b hb e => hq1 ((hqb b hb).symm.trans e))
  simpa [XD.withFa] using this
 ·have e : b = q := by simpa [XD.withFa, Value.ownBlock] using hb2.symm
  subst e
  exact hq2 hb
 ·exact (h1.mono (G := x.foot) (fun b hb => .inl (.inr (.inr (.inr hb))))).trans ho (fun b hb => .inl (.inl hb))
 ·rintro b (hb | hb | hb | hb)
  ·exact .inl (.inl hb)
  ·exact .inl (.inr (.inl hb))
  ·exact .inl (.inr (.inr (.inl hb)))
  ·have e : b = q := by simpa [XD.withFa, Value.ownBlock] using hb.symm
   subst e
   rcases hat with hat | hat
   ·exact .inl (.inr (.inr (.inr hat)))
   ·exact .inr (by omega)
end Go.Proofs.YtgebbmfoamkfnaaGreatDoor
