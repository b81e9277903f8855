/- query.Text, query.Parse; a nil cache. Printed by mkF9.py out of F9.in. · schema.Ids; query.Check. -/
import Derived.Test.YtgebbmfoamkfnaaGreatDoorT30
import Derived.Test.YtgebbmfoamkfnaaGreatDoorT31
import Derived.Test.YtgebbmfoamkfnaaGreatDoorT2
namespace Go.Proofs.YtgebbmfoamkfnaaGreatDoor
open Go.RowKit
set_option linter.unusedVariables false
def qt_list (U : Nat) (al no : Int) : List (Value → World → Prop) :=
  [IsV (.pointer (some ⟨U, 0, none⟩)),
   IsV (.int .u32 al),
   IsV (.string (⟨(textS al).toArray⟩ : ByteArray)),
   IsV (.string ((⟨(textS al).toArray⟩ : ByteArray) ++ (⟨#[32, 110, 111, 116, 32]⟩ : ByteArray))),
   IsV (.pointer (some ⟨U, 1, none⟩)),
   IsV (.int .u32 no),
   IsV (.string (⟨(textS no).toArray⟩ : ByteArray)),
   IsV (.string ((⟨(textS al).toArray⟩ : ByteArray) ++ (⟨#[32, 110, 111, 116, 32]⟩ : ByteArray) ++ (⟨(textS no).toArray⟩ : ByteArray))),
   IsV (.string ((⟨(textS al).toArray⟩ : ByteArray) ++ (⟨#[32, 110, 111, 116, 32]⟩ : ByteArray) ++ (⟨(textS no).toArray⟩ : ByteArray)))]
theorem qt_list_lasts (U : Nat) (al no : Int) : ∀ p ∈ qt_list U  al no , Lasts p := by
  simp only [qt_list, List.mem_cons, List.not_mem_nil, or_false]
  rintro p hp
  repeat (rcases hp with rfl | hp; exact lasts_v _)
theorem ba_app2 (a b : List UInt8) : ((⟨a.toArray⟩ : ByteArray) ++ (⟨b.toArray⟩ : ByteArray)) = ⟨(a ++ b).toArray⟩ := by
  apply ByteArray.ext
  simp
theorem qtext_eq (al no : Int) : ((⟨(textS al).toArray⟩ : ByteArray) ++ (⟨#[32, 110, 111, 116, 32]⟩ : ByteArray) ++ (⟨(textS no).toArray⟩ : ByteArray)) = ⟨(textQ al no).toArray⟩ := by
  rw [show (⟨#[32, 110, 111, 116, 32]⟩ : ByteArray) = ⟨sepQ.toArray⟩ from rfl, ba_app2, ba_app2]
  unfold textQ
  simp
set_option maxRecDepth 100000 in
set_option maxHeartbeats 2000000 in
theorem qText_any (al no : Int) (w : World) (hq : QWf (al, no)) : Calls Tryz.prog 14 #[.agg #[.int .u32 al, .int .u32 no]] w fun e w' => e = .returned (.string ⟨(textQ al no).toArray⟩) ∧ Below w.heap.size w w' := by
  obtain ⟨⟨al0, al1⟩, no0, no1⟩ := hq
  have hb1 : Below w.heap.size w (w.alloc (.cells #[.int .u32 al, .int .u32 no] 30)) := by go_grown
  have hc1 := heap_alloc_new w (.cells #[.int .u32 al, .int .u32 no] 30)
  have HB1 := Lib.hid hb1
  have HC1 := Lib.hid hc1
  clear hb1 hc1
  go_enter Tryz.func14, Tryz.ntmps14
  go_wp2_with fail
  generalize w.alloc (.cells #[.int .u32 al, .int .u32 no] 30) = w1 at HB1 HC1 ⊢
  refine wp_region_frame (by kernel_rfl) (by kernel_rfl) (by kernel_rfl) (byList (qt_list w.heap.size al no)) (lasts_list (qt_list_lasts w.heap.size al no)) ?_ ?_
  · intro vs w' iq o A F hb ho hd
    have m1 : A.tmps[1]?.getD undef = (.pointer (some ⟨w.heap.size, 0, none⟩)) := F.m (by kernel_rfl) rfl
    have G := F.light (n := 11) (by kernel_rfl)
    clear F
    have hc := keep hb HC1.out
    have x0 := cell_at hc 0
    have x1 := cell_at hc 1
    simp at x0 x1
    have t1 := textS_len al
    have t2 := textS_len no
    have hd1 : (textS al).length + 5 ≤ 9223372036854775807 := by omega
    have hd2 : (textS al).length + 5 + (textS no).length ≤ 9223372036854775807 := by omega
    clear hb hc
    revert ho hd
    match iq with
    | 0 => intro ho hd; obtain rfl := (Option.some.inj ho).symm; clear hd ho; refine step_open rfl ?_; clear G; exact step_run (v := (.pointer (some ⟨w.heap.size, 0, none⟩))) (by go_simp) rfl
    | 1 => intro ho hd; obtain rfl := (Option.some.inj ho).symm; have d0 : vs 0 = (.pointer (some ⟨w.heap.size, 0, none⟩)) := hd ⟨0, .data⟩ (by simp) rfl; clear hd ho; have h3 := G.h (j := 0) (d := 3) rfl (by decide) d0; refine step_open rfl ?_; clear G; exact step_run (v := (.int .u32 al)) (by go_simp) rfl
    | 2 => intro ho hd; obtain rfl := (Option.some.inj ho).symm; have d1 : vs 1 = (.int .u32 al) := hd ⟨1, .data⟩ (by simp) rfl; clear hd ho; have h4 := G.h (j := 1) (d := 4) rfl (by decide) d1; refine step_open rfl ?_; clear G; go_simp; refine (sText_any al _ al0 al1).mono ?_; rintro e w9 ⟨rfl, hb9⟩; exact ⟨_, rfl, rfl, hb9⟩
    | 3 => intro ho hd; obtain rfl := (Option.some.inj ho).symm; have d2 : vs 2 = (.string (⟨(textS al).toArray⟩ : ByteArray)) := hd ⟨2, .data⟩ (by simp) rfl; clear hd ho; have h5 := G.h (j := 2) (d := 5) rfl (by decide) d2; refine step_open rfl ?_; clear G; exact step_run (v := (.string ((⟨(textS al).toArray⟩ : ByteArray) ++ (⟨#[32, 110, 111, 116, 32]⟩ : ByteArray)))) (by go_simp) rfl
    | 4 => intro ho hd; obtain rfl := (Option.some.inj ho).symm; clear hd ho; refine step_open rfl ?_; clear G; exact step_run (v := (.pointer (some ⟨w.heap.size, 1, none⟩))) (by go_simp) rfl
    | 5 => intro ho hd; obtain rfl := (Option.some.inj ho).symm; have d4 : vs 4 = (.pointer (some ⟨w.heap.size, 1, none⟩)) := hd ⟨4, .data⟩ (by simp) rfl; clear hd ho; have h7 := G.h (j := 4) (d := 7) rfl (by decide) d4; refine step_open rfl ?_; clear G; exact step_run (v := (.int .u32 no)) (by go_simp) rfl
    | 6 => intro ho hd; obtain rfl := (Option.some.inj ho).symm; have d5 : vs 5 = (.int .u32 no) := hd ⟨5, .data⟩ (by simp) rfl; clear hd ho; have h8 := G.h (j := 5) (d := 8) rfl (by decide) d5; refine step_open rfl ?_; clear G; go_simp; refine (sText_any no _ no0 no1).mono ?_; rintro e w9 ⟨rfl, hb9⟩; exact ⟨_, rfl, rfl, hb9⟩
    | 7 => intro ho hd; obtain rfl := (Option.some.inj ho).symm; have d3 : vs 3 = (.string ((⟨(textS al).toArray⟩ : ByteArray) ++ (⟨#[32, 110, 111, 116, 32]⟩ : ByteArray))) := hd ⟨3, .data⟩ (by simp) rfl; have d6 : vs 6 = (.string (⟨(textS no).toArray⟩ : ByteArray)) := hd ⟨6, .data⟩ (by simp) rfl; clear hd ho; have h6 := G.h (j := 3) (d := 6) rfl (by decide) d3; have h9 := G.h (j := 6) (d := 9) rfl (by decide) d6; refine step_open rfl ?_; clear G; exact step_run (v := (.string ((⟨(textS al).toArray⟩ : ByteArray) ++ (⟨#[32, 110, 111, 116, 32]⟩ : ByteArray) ++ (⟨(textS no).toArray⟩ : ByteArray)))) (by go_simp) rfl
    | 8 => intro ho hd; obtain rfl := (Option.some.inj ho).symm; have d7 : vs 7 = (.string ((⟨(textS al).toArray⟩ : ByteArray) ++ (⟨#[32, 110, 111, 116, 32]⟩ : ByteArray) ++ (⟨(textS no).toArray⟩ : ByteArray))) := hd ⟨7, .data⟩ (by simp) rfl; clear hd ho; have h10 := G.h (j := 7) (d := 10) rfl (by decide) d7; refine step_open rfl ?_; clear G; exact step_run (v := (.string ((⟨(textS al).toArray⟩ : ByteArray) ++ (⟨#[32, 110, 111, 116, 32]⟩ : ByteArray) ++ (⟨(textS no).toArray⟩ : ByteArray)))) (by go_simp) rfl
    | n + 9 => intro ho hd; simp at ho
  · intro vs w' hb hR
    have hv : vs 8 = _ := hR 8 (by simp)
    have HB := Lib.hid (HB1.out.trans (hb.mono HB1.out.size))
    simp only [putAll, Act.put, List.setIfInBounds_toArray, List.set_cons_succ, List.set_cons_zero]
    rw [hv, qtext_eq]
    clear hR hb hv
    go_wp2_with fail
    go_returns
    exact ⟨rfl, HB.out⟩
/-- What a text is the text of, as query.Parse finds it. -/
def leftQ (s : ByteArray) : ByteArray := ⟨(Lib.cut s.data.toList sepQ).1.toArray⟩
def rightQ (s : ByteArray) : ByteArray := ⟨(Lib.cut s.data.toList sepQ).2.1.toArray⟩
def canonBQ (s : ByteArray) : Bool := textQ (parseV (leftQ s)) (parseV (rightQ s)) == s.data.toList
def parseQ (s : ByteArray) : Int × Int := if canonBQ s then (parseV (leftQ s), parseV (rightQ s)) else (0, 0)
def parseQE (s : ByteArray) : Int := if canonBQ s then 0 else 4
theorem parseV_bd (s : ByteArray) : 0 ≤ parseV s ∧ parseV s ≤ 4294967295 := by
  unfold parseV
  split
  · unfold parseS
    exact foldS_bd _
  · omega
theorem cut_le (s t : List UInt8) : (Lib.cut s t).1.length ≤ s.length ∧ (Lib.cut s t).2.1.length ≤ s.length := by
  unfold Lib.cut
  split
  · simp; omega
  · simp
set_option maxRecDepth 100000 in
set_option maxHeartbeats 4000000 in
theorem qParse_any (s : ByteArray) (w : World) (hs : s.size ≤ 1000) (hv : QV w) : Calls Tryz.prog 8 #[.string s] w fun e w' => e = .returned (.tuple #[.agg #[.int .u32 (parseQ s).1, .int .u32 (parseQ s).2], .int .i64 (parseQE s)]) ∧ Below w.heap.size w w' := by
  have hb0 : Below w.heap.size w (w.alloc (.cells #[.int .u32 0, .int .u32 0] 30)) := by go_grown
  have hv0 := hv.below hb0
  obtain ⟨m, hm⟩ := hv0.m
  have hss : s.data.toList.length = s.size := by simp
  have hcl := cut_le s.data.toList sepQ
  have HCUT := Lib.hid (Tryz.strings_Cut s ⟨#[32, 110, 111, 116, 32]⟩ m (w.alloc (.cells #[.int .u32 0, .int .u32 0] 30)) (by omega) hm)
  have HL := Lib.hid (show (leftQ s).size ≤ 1000 ∧ (rightQ s).size ≤ 1000 from ⟨by unfold leftQ; show (Lib.cut s.data.toList sepQ).1.toArray.size ≤ 1000; rw [List.size_toArray]; omega, by unfold rightQ; show (Lib.cut s.data.toList sepQ).2.1.toArray.size ≤ 1000; rw [List.size_toArray]; omega⟩)
  have el : (⟨(Lib.cut s.data.toList (⟨#[32, 110, 111, 116, 32]⟩ : ByteArray).data.toList).1.toArray⟩ : ByteArray) = leftQ s := rfl
  have er : (⟨(Lib.cut s.data.toList (⟨#[32, 110, 111, 116, 32]⟩ : ByteArray).data.toList).2.1.toArray⟩ : ByteArray) = rightQ s := rfl
  rw [el, er] at HCUT
  obtain ⟨fl, hfl⟩ : ∃ fl, (Lib.cut s.data.toList (⟨#[32, 110, 111, 116, 32]⟩ : ByteArray).data.toList).2.2 = fl := ⟨_, rfl⟩
  rw [hfl] at HCUT
  have HK0 := Lib.hid (heap_alloc_new w (.cells #[.int .u32 0, .int .u32 0] 30))
  have HB0 := Lib.hid hb0
  have HV0 := Lib.hid hv0
  obtain ⟨al, hal⟩ : ∃ al, parseV (leftQ s) = al := ⟨_, rfl⟩
  obtain ⟨no, hno⟩ : ∃ no, parseV (rightQ s) = no := ⟨_, rfl⟩
  have HQ : Hid (QWf (al, no)) := Lib.hid ⟨by rw [← hal]; exact parseV_bd _, by rw [← hno]; exact parseV_bd _⟩
  have HCB : Hid (canonBQ s = (textQ al no == s.data.toList)) := Lib.hid (by unfold canonBQ; rw [hal, hno])
  have HPQ : Hid (parseQ s = if canonBQ s then (al, no) else (0, 0)) := Lib.hid (by unfold parseQ; rw [hal, hno])
  have HAL := Lib.hid (And.intro hal hno)
  clear hb0 hv0 hv hm hss hcl el er hfl hal hno
  go_enter Tryz.func8, Tryz.ntmps8
  go_wp2_with fail
  refine HCUT.out.mono ?_
  rintro e w2 ⟨rfl, nd, rfl⟩
  have hb1 : Below (w.alloc (.cells #[.int .u32 0, .int .u32 0] 30)).heap.size (w.alloc (.cells #[.int .u32 0, .int .u32 0] 30)) ((w.alloc (.cells #[.int .u32 0, .int .u32 0] 30)).drewN nd) := below_drewN (Below.refl _ _) nd
  have HK1 := Lib.hid (keep hb1 HK0.out)
  have HB1 := Lib.hid (HB0.out.trans (hb1.mono HB0.out.size))
  have HV1 := Lib.hid (HV0.out.below hb1)
  clear hb1 HCUT HK0 HB0 HV0
  generalize (w.alloc (.cells #[.int .u32 0, .int .u32 0] 30)).drewN nd = W1 at HK1 HB1 HV1 ⊢
  have HP := Lib.hid (sParse_any (leftQ s) W1 HL.out.1 HV1.out)
  rw [HAL.out.1] at HP
  obtain ⟨ea, hea⟩ : ∃ ea, parseE (leftQ s) = ea := ⟨_, rfl⟩
  rw [hea] at HP
  clear hea
  go_wp2_with fail
  refine HP.out.mono ?_
  rintro e W2 ⟨rfl, hb2⟩
  have HK2 := Lib.hid (keep hb2 HK1.out)
  have HB2 := Lib.hid (HB1.out.trans (hb2.mono HB1.out.size))
  have HV2 := Lib.hid (HV1.out.below hb2)
  clear hb2 HP HK1 HB1 HV1
  have HP := Lib.hid (sParse_any (rightQ s) W2 HL.out.2 HV2.out)
  rw [HAL.out.2] at HP
  obtain ⟨eb, heb⟩ : ∃ eb, parseE (rightQ s) = eb := ⟨_, rfl⟩
  rw [heb] at HP
  clear heb
  go_wp2_with fail
  refine HP.out.mono ?_
  rintro e W3 ⟨rfl, hb3⟩
  have HK3 := Lib.hid (keep hb3 HK2.out)
  have HB3 := Lib.hid (HB2.out.trans (hb3.mono HB2.out.size))
  clear hb3 HP HK2 HB2 HV2
  have HTX := fun W => qText_any al no W HQ.out
  have tl : ∀ l : List UInt8, (⟨l.toArray⟩ : ByteArray).toList = l := fun l => by rw [ByteArray.toList_eq]
  have hz : ∀ W : World, W.heap[w.heap.size]? = some (.cells #[.int .u32 0, .int .u32 0] 30 (0, 0)) → W.cell? ⟨w.heap.size, 0, none⟩ = some (.int .u32 0) ∧ W.cell? ⟨w.heap.size, 1, none⟩ = some (.int .u32 0) ∧ W.frozen? ⟨w.heap.size, 0, none⟩ = false ∧ W.frozen? ⟨w.heap.size, 1, none⟩ = false ∧ w.heap.size < W.heap.size := fun W h => ⟨cell_at h 0, cell_at h 1, free_at h 0, free_at h 1, lt_some h⟩
  have HZ := Lib.hid hz
  clear hz
  by_cases hc : textQ al no = s.data.toList
  · have f1 : (textQ al no == s.toList) = true := by rw [ByteArray.toList_eq, hc]; simp
    have HE : Hid (parseQ s = (al, no) ∧ parseQE s = 0) := Lib.hid (by
      have h1 : canonBQ s = true := by rw [HCB.out, hc]; simp
      rw [HPQ.out]
      unfold parseQE
      rw [h1]
      exact ⟨rfl, rfl⟩)
    clear hc tl
    go_wp2_with fail
    refine (HTX _).mono ?_
    rintro e W4 ⟨rfl, hb4⟩
    have hbx : (W3.alloc (.cells #[.int .u32 al, .int .u32 no] 30)).heap[W3.heap.size]? = some (.cells #[.int .u32 al, .int .u32 no] 30 (0, 0)) ∧ Below W3.heap.size W3 (W3.alloc (.cells #[.int .u32 al, .int .u32 no] 30)) := ⟨heap_alloc_new W3 _, (Below.refl _ W3).alloc (Nat.le_refl _) _⟩
    generalize W3.alloc (.cells #[.int .u32 al, .int .u32 no] 30) = WA at hb4 hbx
    have hb34 := hbx.2.trans (hb4.mono hbx.2.size)
    have HK4 := Lib.hid (keep hb34 HK3.out)
    have HB4 := Lib.hid (HB3.out.trans (hb34.mono HB3.out.size))
    have hx4 := keep hb4 hbx.1
    have x0 := cell_at hx4 0
    have x1 := cell_at hx4 1
    simp at x0 x1
    have hlx := lt_some hx4
    obtain ⟨z0, z1, f0, f2, hlz⟩ := HZ.out W4 HK4.out
    clear hb34 hb4 hbx hx4
    go_wp2_with fail
    have hs := hset _ w.heap.size 1 (.int .u32 no) _ _ _ (hset W4 w.heap.size 0 (.int .u32 al) _ _ _ HK4.out)
    have HBF := Lib.hid (HB4.out.trans (below_set2 W4 w.heap.size (.int .u32 al) (.int .u32 no) (Nat.le_refl _)))
    generalize World.setCell _ ⟨w.heap.size, 1, none⟩ _ = WF at *
    have a0 := cell_at hs 0
    have a1 := cell_at hs 1
    simp at a0 a1
    refine bodyPost_ret (v := .tuple #[.agg #[.int .u32 al, .int .u32 no], .int .i64 0]) (by simp [results, Tryz.results8, go_sem, a0, a1]) rfl ?_
    exact ⟨by rw [HE.out.1, HE.out.2], HBF.out⟩
  · have f1 : (textQ al no == s.toList) = false := by rw [ByteArray.toList_eq]; simpa using hc
    have HE : Hid (parseQ s = (0, 0) ∧ parseQE s = 4) := Lib.hid (by
      have h1 : canonBQ s = false := by rw [HCB.out]; simpa using hc
      rw [HPQ.out]
      unfold parseQE
      rw [h1]
      exact ⟨rfl, rfl⟩)
    clear hc tl
    go_wp2_with fail
    refine (HTX _).mono ?_
    rintro e W4 ⟨rfl, hb4⟩
    have hbx : (W3.alloc (.cells #[.int .u32 al, .int .u32 no] 30)).heap[W3.heap.size]? = some (.cells #[.int .u32 al, .int .u32 no] 30 (0, 0)) ∧ Below W3.heap.size W3 (W3.alloc (.cells #[.int .u32 al, .int .u32 no] 30)) := ⟨heap_alloc_new W3 _, (Below.refl _ W3).alloc (Nat.le_refl _) _⟩
    generalize W3.alloc (.cells #[.int .u32 al, .int .u32 no] 30) = WA at hb4 hbx
    have hb34 := hbx.2.trans (hb4.mono hbx.2.size)
    have HK4 := Lib.hid (keep hb34 HK3.out)
    have HB4 := Lib.hid (HB3.out.trans (hb34.mono HB3.out.size))
    have hx4 := keep hb4 hbx.1
    have x0 := cell_at hx4 0
    have x1 := cell_at hx4 1
    simp at x0 x1
    have hlx := lt_some hx4
    obtain ⟨z0, z1, f0, f2, hlz⟩ := HZ.out W4 HK4.out
    clear hb34 hb4 hbx hx4
    go_wp2_with fail
    have hs := hset _ w.heap.size 1 (.int .u32 0) _ _ _ (hset W4 w.heap.size 0 (.int .u32 0) _ _ _ HK4.out)
    have HBF := Lib.hid (HB4.out.trans (below_set2 W4 w.heap.size (.int .u32 0) (.int .u32 0) (Nat.le_refl _)))
    generalize World.setCell _ ⟨w.heap.size, 1, none⟩ _ = WF at *
    have a0 := cell_at hs 0
    have a1 := cell_at hs 1
    simp at a0 a1
    refine bodyPost_ret (v := .tuple #[.agg #[.int .u32 0, .int .u32 0], .int .i64 4]) (by simp [results, Tryz.results8, go_sem, a0, a1]) rfl ?_
    exact ⟨by rw [HE.out.1, HE.out.2], HBF.out⟩
end Go.Proofs.YtgebbmfoamkfnaaGreatDoor
namespace Go.Proofs.YtgebbmfoamkfnaaGreatDoor
open Go.RowKit
set_option linter.unusedVariables false
set_option maxRecDepth 100000 in
set_option maxHeartbeats 2000000 in
theorem schIds_any (ver : Int) (cs : List Cmp) (a : Option Addr) (len cap : Nat) (w : World) (hcs : CompsAt w.heap.size w a len cs) (hl : len ≤ 100000) :
    Calls Tryz.prog 33 #[.agg #[.int .i64 ver, .slice a len cap]] w (IsCopyOf 3 ((cs.map (·.id)).map (.int .i64)) len w) := by
  obtain ⟨i0, hi, hz0, hz1, hz2⟩ := info_parts Tryz.infoI
  have hlen := hcs.1
  have hb0 : Below w.heap.size w (w.alloc (.cells #[.int .i64 ver, .slice a len cap] 24)) := by go_grown
  have HCS := Lib.hid hcs
  have HB0 := Lib.hid hb0
  have HLN := Lib.hid hlen
  clear hcs hb0 hlen
  go_enter Tryz.func33, Tryz.ntmps33
  go_wp2_with fail
  go_loopw [3, 9] (fun o i wr => ∃ (k : Nat) (oa : Option Addr) (oc : Nat), o = .slice oa k oc ∧ i = .int .i64 (k : Int) ∧ k ≤ len ∧ wr.ownsRow w.heap.size 3 1 (.slice oa k oc) k (((cs.map (·.id)).take k).map (.int .i64)) ∧ Below w.heap.size w wr) (fun _ i _ => len - (intOf i).toNat)
  case atStart => exact ⟨0, none, 0, rfl, rfl, Nat.zero_le _, World.ownsRow_nil _ _ _ _, HB0.out⟩
  case round =>
    obtain ⟨k, oa, oc, rfl, rfl, hk, hown, hb⟩ := hrel
    by_cases hlt : k < len
    · obtain ⟨b, off, c, rfl, hB, hc, c0, c1, fa, fl, fc, c2, hF, hnil⟩ := HCS.out.get hb hlt
      have g0 : (0 : Int) ≤ (k : Int) := by omega
      have g1 : (k : Int) < (len : Int) := by omega
      have hsz := hb.size
      have hbl : b < wr.heap.size := by omega
      have HTK : Hid ((cs.map (·.id)).take (k + 1) = (cs.map (·.id)).take k ++ [c.id]) := Lib.hid (take_snoc (by rw [List.getElem?_map, hc]; rfl))
      have hown2 := (hown.alloc (.cells #[.int .i64 c.id, .string c.name, .slice fa fl fc] 82)).alloc (.cells #[.int .i64 c.id] 3)
      have hb2 := (hb.alloc hsz (.cells #[.int .i64 c.id, .string c.name, .slice fa fl fc] 82)).alloc (by simp; omega) (.cells #[.int .i64 c.id] 3)
      have hnews : ∀ j u, ([.int .i64 c.id] : List Value)[j]? = some u → ((wr.alloc (.cells #[.int .i64 c.id, .string c.name, .slice fa fl fc] 82)).alloc (.cells #[.int .i64 c.id] 3)).cell? ((⟨wr.heap.size + 1, 0, none⟩ : Addr).add j) = some u :=
        World.news_of_block (w := (wr.alloc (.cells #[.int .i64 c.id, .string c.name, .slice fa fl fc] 82)).alloc (.cells #[.int .i64 c.id] 3)) (cs := #[.int .i64 c.id]) (t := 3) (fr := (0, 0)) (by have := heap_alloc_new (wr.alloc (.cells #[.int .i64 c.id, .string c.name, .slice fa fl fc] 82)) (.cells #[.int .i64 c.id] 3); rw [World.size_alloc] at this; exact this)
      have HOWN2 := Lib.hid hown2
      have HB2 := Lib.hid hb2
      have HNEWS := Lib.hid hnews
      clear hc hown hb hown2 hb2 hnews hF hnil
      go_wp2_with (at_builtin; refine wpList_append_own _ rfl (.tmp 13) (.tmp 16) 72 rfl w.heap.size 3 i0 (.int .i64 0) 1 8 Tryz.underlying72 hi hz0 hz1 hz2 rfl (by decide) (.slice oa k oc) k _ rfl HOWN2.out ⟨wr.heap.size + 1, 0, none⟩ 1 1 _ rfl rfl HNEWS.out (fun u hu => by simp at hu; subst hu; rfl) (by unfold maxLen; omega) (by omega) (by simp; omega) ?_)
      intro v' w8 hown8 hg8 _
      obtain ⟨va', vc', hv'⟩ := ownsRow_slice hown8
      rw [hv'] at hown8 ⊢
      clear hv'
      have HB8 := Lib.hid (HB2.out.trans (below_own HOWN2.out hg8 HB2.out.size))
      have HOWN8 : Hid (w8.ownsRow w.heap.size 3 1 (.slice va' (k + 1) vc') (k + 1) (((cs.map (·.id)).take (k + 1)).map (.int .i64))) := Lib.hid (by rw [HTK.out, List.map_append, List.map_take, List.map_map]; exact hown8)
      clear hown8 hg8 HOWN2 HNEWS HB2
      go_wp2_with fail
      go_roundw
      case rel => exact ⟨k + 1, va', vc', rfl, by go_num, by omega, HOWN8.out, HB8.out⟩
      case measure => simp [intOf]; omega
    · obtain rfl : k = len := by omega
      have HFIN : Hid (wr.ownsRow w.heap.size 3 1 (.slice oa k oc) k ((cs.map (·.id)).map (.int .i64)) ∧ Below w.heap.size w wr) := Lib.hid ⟨by rw [List.take_of_length_le (by rw [List.length_map, HLN.out]; exact Nat.le_refl _)] at hown; exact hown, hb⟩
      clear hown hb
      go_wp2_with fail
      go_returns
      exact ⟨oa, oc, rfl, HFIN.out⟩
/-- All the components' ids, as a set. -/
def hasQ (cs : List Cmp) : Int := (ofF (cs.map (·.id))).1
/-- Whether a query can be: its error. -/
def checkQ (ver : Int) (cs : List Cmp) (al no : Int) : Int :=
  if schemaCheck ver cs ≠ 0 then schemaCheck ver cs else if (!sIs al || !sIs no) = true then 1 else if (!within al (hasQ cs) || !within no (hasQ cs)) = true then 6 else if meets al no = true then 7 else 0
theorem ofF_bd (ids : List Int) : 0 ≤ (ofF ids).1 ∧ (ofF ids).1 ≤ 4294967295 := by
  unfold ofF
  split
  · exact foldS_bd _
  · exact ⟨by decide, by decide⟩
set_option maxRecDepth 100000 in
set_option maxHeartbeats 4000000 in
theorem qCheck_any (ver : Int) (cs : List Cmp) (a : Option Addr) (len cap : Nat) (al no : Int) (w : World) (hcs : CompsAt w.heap.size w a len cs) (hw : CompsWf cs) (hl : len ≤ 100000) (hq : QWf (al, no)) :
    Calls Tryz.prog 10 #[.agg #[.int .i64 ver, .slice a len cap], .agg #[.int .u32 al, .int .u32 no]] w fun e w' => e = .returned (.int .i64 (checkQ ver cs al no)) ∧ Below w.heap.size w w' := by
  obtain ⟨⟨al0, al1⟩, no0, no1⟩ := hq
  obtain ⟨W1, hW1⟩ : ∃ W1, (w.alloc (.cells #[.int .i64 ver, .slice a len cap] 24)).alloc (.cells #[.int .u32 al, .int .u32 no] 30) = W1 := ⟨_, rfl⟩
  have hb1 : Below w.heap.size w W1 := by rw [← hW1]; go_grown
  have hq1 : W1.heap[w.heap.size + 1]? = some (.cells #[.int .u32 al, .int .u32 no] 30 (0, 0)) := by
    rw [← hW1]
    have := heap_alloc_new (w.alloc (.cells #[.int .i64 ver, .slice a len cap] 24)) (.cells #[.int .u32 al, .int .u32 no] 30)
    rw [World.size_alloc] at this
    exact this
  have hs1 : W1.heap[w.heap.size]? = some (.cells #[.int .i64 ver, .slice a len cap] 24 (0, 0)) := by
    rw [← hW1]
    exact keepA _ (heap_alloc_new w _)
  have hcs1 := (hcs.below hb1).mono hb1.size
  have HQC : Hid (∀ W, Below W1.heap.size W1 W → W.cell? ⟨w.heap.size + 1, 0, none⟩ = some (.int .u32 al) ∧ W.cell? ⟨w.heap.size + 1, 1, none⟩ = some (.int .u32 no) ∧ W.cell? ⟨w.heap.size, 0, none⟩ = some (.int .i64 ver) ∧ W.cell? ⟨w.heap.size, 1, none⟩ = some (.slice a len cap) ∧ w.heap.size + 1 < W.heap.size) := Lib.hid fun W hb => ⟨cell_at (keep hb hq1) 0, cell_at (keep hb hq1) 1, cell_at (keep hb hs1) 0, cell_at (keep hb hs1) 1, lt_some (keep hb hq1)⟩
  have HCHK := Lib.hid (schemaCheck_any ver cs a len cap W1 hcs1 hw)
  have HCS := Lib.hid hcs1
  have HB1 := Lib.hid hb1
  have HLN := Lib.hid hcs.1
  obtain ⟨E, hE⟩ : ∃ E, checkQ ver cs al no = E := ⟨_, rfl⟩
  rw [hE]
  have hE2 := hE.symm
  unfold checkQ at hE2
  obtain ⟨ce, hce⟩ : ∃ ce, schemaCheck ver cs = ce := ⟨_, rfl⟩
  obtain ⟨ia, hia⟩ : ∃ ia, sIs al = ia := ⟨_, rfl⟩
  obtain ⟨ib, hib⟩ : ∃ ib, sIs no = ib := ⟨_, rfl⟩
  obtain ⟨hs, hhs⟩ : ∃ hs, hasQ cs = hs := ⟨_, rfl⟩
  obtain ⟨hs0, hs1'⟩ : 0 ≤ hs ∧ hs ≤ 4294967295 := by rw [← hhs]; exact ofF_bd _
  obtain ⟨wa, hwa⟩ : ∃ wa, within al hs = wa := ⟨_, rfl⟩
  obtain ⟨wb, hwb⟩ : ∃ wb, within no hs = wb := ⟨_, rfl⟩
  obtain ⟨mt, hmt⟩ : ∃ mt, meets al no = mt := ⟨_, rfl⟩
  rw [hce, hia, hib, hhs, hwa, hwb, hmt] at hE2
  rw [hce] at HCHK
  have HE := Lib.hid hE2
  have HIA := fun W => sigIs_any al W al0 al1
  have HIB := fun W => sigIs_any no W no0 no1
  have HWA := fun W => within_any al hs W al0 al1 hs0 hs1'
  have HWB := fun W => within_any no hs W no0 no1 hs0 hs1'
  have HMT := fun W => meets_any al no W al0 al1 no0 no1
  simp only [hia] at HIA
  simp only [hib] at HIB
  simp only [hwa] at HWA
  simp only [hwb] at HWB
  simp only [hmt] at HMT
  have HHS := Lib.hid hhs
  clear hE hE2 hce hia hib hhs hwa hwb hmt hcs hw hcs1 hb1 hq1 hs1
  obtain ⟨q0, q1, s0, s1, hlw⟩ := HQC.out W1 (Below.refl _ _)
  go_enter Tryz.func10, Tryz.ntmps10
  go_upto_region 1 with (fail)
  clear hW1
  go_wp2_with fail
  refine HCHK.out.mono ?_
  rintro e W2 ⟨rfl, hb2⟩
  have HB2 := Lib.hid (HB1.out.trans (hb2.mono HB1.out.size))
  have HB12 := Lib.hid hb2
  clear q0 q1 s0 s1 hlw hb2 HCHK
  obtain ⟨q0, q1, s0, s1, hlw⟩ := HQC.out W2 HB12.out
  by_cases h0 : ce = 0
  · subst h0
    have HE1 := HE.out
    rw [if_neg (by simp)] at HE1
    have HE2 := Lib.hid HE1
    clear HE HE1
    cases ia
    · have HE3 : Hid (E = 1) := Lib.hid (by rw [HE2.out]; rfl)
      go_wp2_with fail
      refine (HIA _).mono ?_
      rintro e w' ⟨rfl, rfl⟩
      go_wp2_with fail
      go_returns
      exact ⟨ret_intk HE3.out.symm, HB2.out⟩
    cases ib
    · have HE3 : Hid (E = 1) := Lib.hid (by rw [HE2.out]; rfl)
      go_wp2_with fail
      refine (HIA _).mono ?_
      rintro e w' ⟨rfl, rfl⟩
      go_wp2_with fail
      refine (HIB _).mono ?_
      rintro e w' ⟨rfl, rfl⟩
      go_wp2_with fail
      go_returns
      exact ⟨ret_intk HE3.out.symm, HB2.out⟩
    have HIDS := Lib.hid (schIds_any ver cs a len cap W2 ((HCS.out.below HB12.out).mono HB12.out.size) hl)
    go_wp2_with fail
    refine (HIA _).mono ?_
    rintro e w' ⟨rfl, rfl⟩
    go_wp2_with fail
    refine (HIB _).mono ?_
    rintro e w' ⟨rfl, rfl⟩
    go_wp2_with fail
    refine HIDS.out.mono ?_
    rintro e W3 ⟨va, vc, rfl, hown3, hb3⟩
    have HB3 := Lib.hid (HB2.out.trans (hb3.mono HB2.out.size))
    have HB13 := Lib.hid (HB12.out.trans (hb3.mono HB12.out.size))
    have HSO := Lib.hid (sigOf_any va len vc (cs.map (·.id)) W3 (by
      refine ⟨by rw [List.length_map]; exact HLN.out, by unfold maxLen; omega, ?_⟩
      by_cases h0 : len = 0
      · exact .inl h0
      · obtain ⟨q, hq, _, hlt, hc⟩ := row_block hown3 (by omega)
        exact .inr ⟨q, 0, hq, fun i x hx => by rw [Nat.zero_add]; exact hc i _ (by rw [List.getElem?_map, hx]; rfl)⟩))
    have hhs := HHS.out
    unfold hasQ at hhs
    rw [hhs] at HSO
    obtain ⟨oe, hoe⟩ : ∃ oe, (ofF (cs.map (·.id))).2 = oe := ⟨_, rfl⟩
    rw [hoe] at HSO
    clear q0 q1 s0 s1 hlw hown3 hb3 HIDS hhs hoe HB2 HB12
    obtain ⟨q0, q1, s0, s1, hlw⟩ := HQC.out W3 HB13.out
    go_wp2_with fail
    refine HSO.out.mono ?_
    rintro e w' ⟨rfl, rfl⟩
    go_wp2_with fail
    refine (HWA _).mono ?_
    rintro e w' ⟨rfl, rfl⟩
    cases wa
    · have HE3 : Hid (E = 6) := Lib.hid (by rw [HE2.out]; rfl)
      go_wp2_with fail
      go_returns
      exact ⟨ret_intk HE3.out.symm, HB3.out⟩
    go_wp2_with fail
    refine (HWB _).mono ?_
    rintro e w' ⟨rfl, rfl⟩
    cases wb
    · have HE3 : Hid (E = 6) := Lib.hid (by rw [HE2.out]; rfl)
      go_wp2_with fail
      go_returns
      exact ⟨ret_intk HE3.out.symm, HB3.out⟩
    go_wp2_with fail
    refine (HMT _).mono ?_
    rintro e w' ⟨rfl, rfl⟩
    cases mt
    · have HE3 : Hid (E = 0) := Lib.hid (by rw [HE2.out]; rfl)
      go_wp2_with fail
      go_returns
      exact ⟨ret_intk HE3.out.symm, HB3.out⟩
    · have HE3 : Hid (E = 7) := Lib.hid (by rw [HE2.out]; rfl)
      go_wp2_with fail
      go_returns
      exact ⟨ret_intk HE3.out.symm, HB3.out⟩
  · have HE3 : Hid (E = ce) := Lib.hid (by rw [HE.out, if_pos h0])
    have g1 : (ce != 0) = true := by simpa using h0
    go_wp2_with fail
    go_returns
    exact ⟨ret_intk HE3.out.symm, HB2.out⟩
end Go.Proofs.YtgebbmfoamkfnaaGreatDoor
