/- dump.Value and dump.Part: the texts of a value, of a part. · dump.Part: a part's text. Printed by mkO5.py. -/
import Derived.Test.YtnhlnnehpmjeiaaGreatDoorP36
import Derived.Test.YtnhlnnehpmjeiaaGreatDoorP11
import Derived.Test.YtnhlnnehpmjeiaaGreatDoorP4
namespace Go.Proofs.YtnhlnnehpmjeiaaGreatDoor
open Go.RowKit
set_option linter.unusedVariables false
open Go.Lib (decDigits byteCells join)
theorem mag_bd {x : WI} (hx : x.wf) : x.mag < 10 ^ 40 := by
  unfold WI.mag
  obtain ⟨⟨a1, a2⟩, a3, a4⟩ := hx
  omega
theorem wtext_len {x : WI} (hx : x.wf) : (wtext x).length ≤ 41 := by
  have := dd_len 39 x.mag (mag_bd hx)
  unfold wtext
  split
  · rw [List.length_cons]; omega
  · omega
theorem vtext_len {v : List WI} (hv : ∀ x ∈ v, x.wf) (hl : v.length ≤ 100) : (vtext v).length ≤ 4200 := by
  unfold vtext
  split
  · simp
  · have := join_len (s := 44) (m := 41) (l := v.map wtext) (fun x hx => by obtain ⟨y, hy, rfl⟩ := List.mem_map.1 hx; exact wtext_len (hv y hy))
    rw [List.length_map] at this
    omega
theorem vals_map (v : List WI) (k : Nat) (x : WI) (h : v[k]? = some x) : (v.take (k + 1)).map wtext = (v.take k).map wtext ++ [wtext x] := by
  rw [List.take_add_one, h, List.map_append]
  rfl
set_option maxRecDepth 100000 in
set_option maxHeartbeats 2000000 in
theorem dumpValue_any (v : List WI) (va : Option Addr) (vl vc : Nat) (w : World) (hv : IntsAt w.heap.size w va vl vc v) (hf : ∀ x ∈ v, x.form = true) (hl : v.length ≤ 100) :
    Calls Tryz.prog 56 #[.slice va vl vc] w fun e w' => e = .returned (.string ⟨(vtext v).toArray⟩) ∧ Below w.heap.size w w' := by
  obtain ⟨i0, hi, hz0, hz1, hz2⟩ := info_parts Tryz.infoS9
  have hlen := hv.1
  by_cases h0 : vl = 0
  · subst h0
    obtain rfl := List.eq_nil_of_length_eq_zero hlen
    go_enter Tryz.func56, Tryz.ntmps56
    go_wp2_with fail
    go_returns
    exact ⟨rfl, Below.refl _ _⟩
  have e0 : ((vl : Int) == 0) = false := by simp; omega
  have hl : vl ≤ 100 := by omega
  have HV := Lib.hid hv
  have HF := Lib.hid hf
  have HLEN := Lib.hid hlen
  clear hv hf hlen
  go_enter Tryz.func56, Tryz.ntmps56
  go_wp2_with fail
  go_loopw [3, 11] (fun o i wr => ∃ (k : Nat) (oa : Option Addr) (oc : Nat), o = .slice oa k oc ∧ i = .int .i64 (k : Int) ∧ k ≤ vl ∧ wr.ownsRow w.heap.size 9 1 (.slice oa k oc) k (strV ((v.take k).map wtext)) ∧ Below w.heap.size w wr) (fun _ i _ => vl - (intOf i).toNat)
  case atStart => exact ⟨0, none, 0, rfl, rfl, Nat.zero_le _, World.ownsRow_nil _ _ _ _, Below.refl _ _⟩
  case round =>
    obtain ⟨k, oa, oc, rfl, rfl, hk, hown, hb⟩ := hrel
    by_cases hlt : k < vl
    · obtain ⟨b, off, x, rfl, _, hx, hxw, x0, x1, x2⟩ := HV.out.get hb hlt
      have g0 : (0 : Int) ≤ (k : Int) := by omega
      have g1 : (k : Int) < (vl : Int) := by omega
      have HT := Lib.hid (fun W => wtext_any x W hxw (HF.out x (List.mem_of_getElem? hx)))
      unfold WI.v at HT
      have HX := Lib.hid hx
      have HOWN := Lib.hid hown
      have HB := Lib.hid hb
      clear hx hxw hown hb
      go_wp2_with fail
      refine (HT.out _).mono ?_
      rintro e w5 ⟨rfl, hb5⟩
      have hbB : Below wr.heap.size wr w5 := (show Below wr.heap.size wr (wr.alloc (.cells #[.bool x.neg, .int .u64 x.hi, .int .u64 x.lo] 96)) by go_grown).trans (hb5.mono (by simp))
      have hown5 := ownsRow_below HOWN.out hbB
      have hb6 := HB.out.trans (hbB.mono HB.out.size)
      have hown6 := hown5.alloc (.cells #[.string ⟨(wtext x).toArray⟩] 9)
      have hb7 := hb6.alloc hb6.size (.cells #[.string ⟨(wtext x).toArray⟩] 9)
      have hnews : ∀ j u, ([.string ⟨(wtext x).toArray⟩] : List Value)[j]? = some u → (w5.alloc (.cells #[.string ⟨(wtext x).toArray⟩] 9)).cell? ((⟨w5.heap.size, 0, none⟩ : Addr).add j) = some u :=
        World.news_of_block (w := w5.alloc (.cells #[.string ⟨(wtext x).toArray⟩] 9)) (cs := #[.string ⟨(wtext x).toArray⟩]) (t := 9) (fr := (0, 0)) (heap_alloc_new w5 _)
      have HOWN6 := Lib.hid hown6
      have HB7 := Lib.hid hb7
      have HNEWS := Lib.hid hnews
      have hsz := hb6.size
      clear hb5 hbB hown5 hb6 hown6 hb7 hnews x0 x1 x2 HOWN HB
      go_wp2_with (at_builtin; refine wpList_append_own _ rfl (.tmp 15) (.tmp 18) 79 rfl w.heap.size 9 i0 (.string ByteArray.empty) 1 16 Tryz.underlying79 hi hz0 hz1 hz2 rfl (by decide) (.slice oa k oc) k _ rfl HOWN6.out ⟨w5.heap.size, 0, none⟩ 1 1 _ rfl rfl HNEWS.out (fun u hu => by simp at hu; subst hu; rfl) (by unfold maxLen; omega) (by omega) (by simp; omega) ?_)
      intro v' w8 hown8 hg8 _
      obtain ⟨va', vc', hv'⟩ := ownsRow_slice hown8
      rw [hv'] at hown8 ⊢
      clear hv'
      have HB8 := Lib.hid (HB7.out.trans (below_own HOWN6.out hg8 HB7.out.size))
      have HOWN8 : Hid (w8.ownsRow w.heap.size 9 1 (.slice va' (k + 1) vc') (k + 1) (strV ((v.take (k + 1)).map wtext))) := Lib.hid (by rw [vals_map v k x HX.out, strV_snoc, List.map_take]; exact hown8)
      clear hown8 hg8 HOWN6 HNEWS HB7
      go_wp2_with fail
      go_roundw
      case rel => exact ⟨k + 1, va', vc', rfl, by go_num, by omega, HOWN8.out, HB8.out⟩
      case measure => simp [intOf]; omega
    · obtain rfl : k = vl := by omega
      have hfull : v.take k = v := by rw [← HLEN.out, List.take_length]
      rw [hfull] at hown
      have hjl : (join (v.map wtext) [44]).length ≤ 1000000 := by
        have h1 := join_len (s := 44) (m := 41) (l := v.map wtext) (fun x hx => by obtain ⟨y, hy, rfl⟩ := List.mem_map.1 hx; exact wtext_len (HV.out.2.2.2.1 y hy))
        rw [List.length_map, HLEN.out] at h1
        omega
      have HJ := Lib.hid (join_any (s := 44) hown (by rw [List.length_map]; exact HLEN.out) (by omega) hjl (by omega))
      have HB := Lib.hid hb
      clear hown hb hjl
      go_wp2_with fail
      refine HJ.out.mono ?_
      rintro e w5 ⟨rfl, hb5⟩
      have HB5 := Lib.hid (HB.out.trans (hb5.mono HB.out.size))
      have HE : Hid (vtext v = join (v.map wtext) [44]) := Lib.hid (by
        unfold vtext
        rw [if_neg]
        intro e
        have : v = [] := by simpa using e
        rw [this] at hfull
        have := HLEN.out
        simp_all)
      clear hb5
      go_wp2_with fail
      go_returns
      exact ⟨by rw [HE.out]; rfl, HB5.out⟩
end Go.Proofs.YtnhlnnehpmjeiaaGreatDoor
namespace Go.Proofs.YtnhlnnehpmjeiaaGreatDoor
open Go.RowKit
set_option linter.unusedVariables false
open Go.Lib (decDigits byteCells join)
def dp_list (U n : Nat) (va : Option Addr) (vl vc : Nat) (v : List WI) : List (Value → World → Prop) :=
  [IsV (.pointer (some ⟨U, 0, none⟩)),
   IsV (.int .i64 (n : Int)),
   IsV (.string (⟨(decDigits n).toArray⟩ : ByteArray)),
   IsV (.string ((⟨(decDigits n).toArray⟩ : ByteArray) ++ (⟨#[61]⟩ : ByteArray))),
   IsV (.pointer (some ⟨U, 1, none⟩)),
   IsV (.slice va vl vc),
   IsV (.string ⟨(vtext v).toArray⟩),
   IsV (.string ((⟨(decDigits n).toArray⟩ : ByteArray) ++ (⟨#[61]⟩ : ByteArray) ++ (⟨(vtext v).toArray⟩ : ByteArray))),
   IsV (.string ((⟨(decDigits n).toArray⟩ : ByteArray) ++ (⟨#[61]⟩ : ByteArray) ++ (⟨(vtext v).toArray⟩ : ByteArray)))]
theorem dp_list_lasts (U n : Nat) (va : Option Addr) (vl vc : Nat) (v : List WI) : ∀ p ∈ dp_list U n  va  vl vc  v , Lasts p := by
  simp only [dp_list, List.mem_cons, List.not_mem_nil, or_false]
  rintro p hp
  repeat (rcases hp with rfl | hp; exact lasts_v _)
theorem ba_app (a b : List UInt8) : ((⟨a.toArray⟩ : ByteArray) ++ (⟨b.toArray⟩ : ByteArray)) = ⟨(a ++ b).toArray⟩ := by
  apply ByteArray.ext
  simp
theorem ptext_eq (n : Nat) (v : List WI) : ((⟨(decDigits n).toArray⟩ : ByteArray) ++ (⟨#[61]⟩ : ByteArray) ++ (⟨(vtext v).toArray⟩ : ByteArray)) = ⟨(ptext ((n : Int), v)).toArray⟩ := by
  rw [show (⟨#[61]⟩ : ByteArray) = ⟨[(61 : UInt8)].toArray⟩ from rfl, ba_app, ba_app]
  unfold ptext
  simp
set_option maxRecDepth 100000 in
set_option maxHeartbeats 2000000 in
theorem dumpPart_any (n : Nat) (hn : n < 100) (v : List WI) (va : Option Addr) (vl vc : Nat) (w : World) (hv : IntsAt w.heap.size w va vl vc v) (hf : ∀ x ∈ v, x.form = true) (hl : v.length ≤ 100) :
    Calls Tryz.prog 34 #[.agg #[.int .i64 (n : Int), .slice va vl vc]] w fun e w' => e = .returned (.string ⟨(ptext ((n : Int), v)).toArray⟩) ∧ Below w.heap.size w w' := by
  have hb1 : Below w.heap.size w (w.alloc (.cells #[.int .i64 (n : Int), .slice va vl vc] 73)) := by go_grown
  have hc1 := heap_alloc_new w (.cells #[.int .i64 (n : Int), .slice va vl vc] 73)
  have HB1 := Lib.hid hb1
  have HC1 := Lib.hid hc1
  have HV := Lib.hid hv
  have HF := Lib.hid hf
  clear hb1 hc1 hv hf
  go_enter Tryz.func34, Tryz.ntmps34
  go_wp2_with fail
  generalize w.alloc (.cells #[.int .i64 (n : Int), .slice va vl vc] 73) = w1 at HB1 HC1 ⊢
  refine wp_region_frame (by kernel_rfl) (by kernel_rfl) (by kernel_rfl) (byList (dp_list w.heap.size n va vl vc v)) (lasts_list (dp_list_lasts w.heap.size n va vl vc v)) ?_ ?_
  · intro vs w' iq o A F hb ho hd
    have m1 : A.tmps[1]?.getD undef = (.pointer (some ⟨w.heap.size, 0, none⟩)) := F.m (by kernel_rfl) rfl
    have G := F.light (n := 11) (by kernel_rfl)
    clear F
    have HB := Lib.hid (HB1.out.trans (hb.mono HB1.out.size))
    have hc := keep hb HC1.out
    have x0 := cell_at hc 0
    have x1 := cell_at hc 1
    simp at x0 x1
    have hd1 : (decDigits n).length ≤ 9223372036854775806 := by have := dd_len 1 n (by omega); omega
    have hd2 : (decDigits n).length + 1 + (vtext v).length ≤ 9223372036854775807 := by have h1 := dd_len 1 n (by omega); have h2 := vtext_len (HV.out.2.2.2.1) hl; omega
    clear hc hb
    revert ho hd
    match iq with
    | 0 => intro ho hd; obtain rfl := (Option.some.inj ho).symm; clear hd ho; refine step_open rfl ?_; clear G; exact step_run (v := (.pointer (some ⟨w.heap.size, 0, none⟩))) (by go_simp) rfl
    | 1 => intro ho hd; obtain rfl := (Option.some.inj ho).symm; have d0 : vs 0 = (.pointer (some ⟨w.heap.size, 0, none⟩)) := hd ⟨0, .data⟩ (by simp) rfl; clear hd ho; have h3 := G.h (j := 0) (d := 3) rfl (by decide) d0; refine step_open rfl ?_; clear G; exact step_run (v := (.int .i64 (n : Int))) (by go_simp) rfl
    | 2 => intro ho hd; obtain rfl := (Option.some.inj ho).symm; have d1 : vs 1 = (.int .i64 (n : Int)) := hd ⟨1, .data⟩ (by simp) rfl; clear hd ho; have h4 := G.h (j := 1) (d := 4) rfl (by decide) d1; refine step_open rfl ?_; clear G; go_simp; refine (Tryz.strconv_Itoa_small n hn _).mono ?_; rintro e w9 ⟨rfl, rfl⟩; exact ⟨_, rfl, rfl, Below.refl _ _⟩
    | 3 => intro ho hd; obtain rfl := (Option.some.inj ho).symm; have d2 : vs 2 = (.string (⟨(decDigits n).toArray⟩ : ByteArray)) := hd ⟨2, .data⟩ (by simp) rfl; clear hd ho; have h5 := G.h (j := 2) (d := 5) rfl (by decide) d2; refine step_open rfl ?_; clear G; exact step_run (v := (.string ((⟨(decDigits n).toArray⟩ : ByteArray) ++ (⟨#[61]⟩ : ByteArray)))) (by go_simp) rfl
    | 4 => intro ho hd; obtain rfl := (Option.some.inj ho).symm; clear hd ho; refine step_open rfl ?_; clear G; exact step_run (v := (.pointer (some ⟨w.heap.size, 1, none⟩))) (by go_simp) rfl
    | 5 => intro ho hd; obtain rfl := (Option.some.inj ho).symm; have d4 : vs 4 = (.pointer (some ⟨w.heap.size, 1, none⟩)) := hd ⟨4, .data⟩ (by simp) rfl; clear hd ho; have h7 := G.h (j := 4) (d := 7) rfl (by decide) d4; refine step_open rfl ?_; clear G; exact step_run (v := (.slice va vl vc)) (by go_simp) rfl
    | 6 => intro ho hd; obtain rfl := (Option.some.inj ho).symm; have d5 : vs 5 = (.slice va vl vc) := hd ⟨5, .data⟩ (by simp) rfl; clear hd ho; have h8 := G.h (j := 5) (d := 8) rfl (by decide) d5; refine step_open rfl ?_; clear G; go_simp; refine (dumpValue_any v va vl vc _ ((HV.out.below HB.out).mono HB.out.size) HF.out hl).mono ?_; rintro e w9 ⟨rfl, hb9⟩; exact ⟨_, rfl, rfl, hb9⟩
    | 7 => intro ho hd; obtain rfl := (Option.some.inj ho).symm; have d3 : vs 3 = (.string ((⟨(decDigits n).toArray⟩ : ByteArray) ++ (⟨#[61]⟩ : ByteArray))) := hd ⟨3, .data⟩ (by simp) rfl; have d6 : vs 6 = (.string ⟨(vtext v).toArray⟩) := hd ⟨6, .data⟩ (by simp) rfl; clear hd ho; have h6 := G.h (j := 3) (d := 6) rfl (by decide) d3; have h9 := G.h (j := 6) (d := 9) rfl (by decide) d6; refine step_open rfl ?_; clear G; exact step_run (v := (.string ((⟨(decDigits n).toArray⟩ : ByteArray) ++ (⟨#[61]⟩ : ByteArray) ++ (⟨(vtext v).toArray⟩ : ByteArray)))) (by go_simp) rfl
    | 8 => intro ho hd; obtain rfl := (Option.some.inj ho).symm; have d7 : vs 7 = (.string ((⟨(decDigits n).toArray⟩ : ByteArray) ++ (⟨#[61]⟩ : ByteArray) ++ (⟨(vtext v).toArray⟩ : ByteArray))) := hd ⟨7, .data⟩ (by simp) rfl; clear hd ho; have h10 := G.h (j := 7) (d := 10) rfl (by decide) d7; refine step_open rfl ?_; clear G; exact step_run (v := (.string ((⟨(decDigits n).toArray⟩ : ByteArray) ++ (⟨#[61]⟩ : ByteArray) ++ (⟨(vtext v).toArray⟩ : ByteArray)))) (by go_simp) rfl
    | n + 9 => intro ho hd; simp at ho
  · intro vs w' hb hR
    have hv : vs 8 = _ := hR 8 (by simp)
    have HB := Lib.hid (HB1.out.trans (hb.mono HB1.out.size))
    simp only [putAll, Act.put, List.setIfInBounds_toArray, List.set_cons_succ, List.set_cons_zero]
    rw [hv, ptext_eq]
    clear hR hb hv
    go_wp2_with fail
    go_returns
    exact ⟨rfl, HB.out⟩
end Go.Proofs.YtnhlnnehpmjeiaaGreatDoor
