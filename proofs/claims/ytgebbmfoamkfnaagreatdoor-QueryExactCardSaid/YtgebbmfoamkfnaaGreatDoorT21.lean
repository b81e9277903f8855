/- The contract of field.Get. -/
import Derived.Test.YtgebbmfoamkfnaaGreatDoorT20
import Derived.Test.YtgebbmfoamkfnaaGreatDoorT8
namespace Go.Proofs.YtgebbmfoamkfnaaGreatDoor
open Go.RowKit
set_option linter.unusedVariables false
def kNm (k : Int) : ByteArray := match shapesObj with
 | .cells cs _ _ => match cs[k.toNat * 3]? with
  | some (.string s) => s
  | _ => ⟨#[]⟩
 | _ => ⟨#[]⟩
theorem shapes_named (W : World) (k : Int) (h1 : 1 ≤ k) (h2 : k ≤ 10) : (W.alloc shapesObj).cell? ⟨W.heap.size, k.toNat * 3, none⟩ = some (.string (kNm k)) ∧
  (W.alloc shapesObj).cell? ⟨W.heap.size, k.toNat * 3 + 1, none⟩ = some (.int .i64 (kSize k)) ∧ (W.alloc shapesObj).cell? ⟨W.heap.size, k.toNat * 3 + 2, none⟩ = some (.bool (kSig k)) := by
 have h' : k = 1 ∨ k = 2 ∨ k = 3 ∨ k = 4 ∨ k = 5 ∨ k = 6 ∨ k = 7 ∨ k = 8 ∨ k = 9 ∨ k = 10 := by omega
 have hh : (W.alloc shapesObj).heap[W.heap.size]? = some shapesObj := heap_alloc_new W _
 rcases h' with rfl | rfl | rfl | rfl | rfl | rfl | rfl | rfl | rfl | rfl
 all_goals
  refine ⟨?_, ?_, ?_⟩
  all_goals (unfold World.cell?; rw [hh]; rfl)
theorem of_named (k : Int) (w : World) (h1 : 1 ≤ k) (h2 : k ≤ 10) : Calls Tryz.prog 173 #[.int .i64 k] w fun e w' => e = .returned (.agg #[.string (kNm k), .int .i64 (kSize k), .bool (kSig k)]) ∧ Below w.heap.size w w' := by
 obtain ⟨c0, c1, c2⟩ := shapes_named (w.alloc (Obj.cells #[Value.string { data := #[] }, Value.int IntKind.i64 0, Value.bool false] 277)) k h1 h2
 rw [World.size_alloc] at c0 c1 c2
 have hk := kindB_true h1 h2
 go_enter Tryz.func173, Tryz.ntmps173
 go_wp2_with (first | (go_at_call 199; refine (shapes_any _).mono ?_; rintro e w' ⟨rfl, rfl⟩) | (go_at_call 157; refine (isKind_any _ _).mono ?_; rintro e w' ⟨rfl, rfl⟩))
 go_returns
 exact ⟨rfl, by go_grown⟩
theorem cmp_great (k : Int) (n : Nat) : decide (0 < cmpF ⟨false, 0, n⟩ (greatW k)) = decide (kMax k < (n : Int)) := by
 have h : cmpF ⟨false, 0, n⟩ (greatW k) = signF (n : Int) (kMax k) := by
  unfold cmpF
  rw [greatW_form, greatW_val]
  simp [WI.form, WI.val]
 rw [h]
 have := @sign_le (n : Int) (kMax k)
 exact decide_eq_decide.2 (by omega)
def get_un (k : Int) : List (Value → World → Prop) :=
 [IsV (.int .i64 k),
  IsV (.agg #[.string (kNm k), .int .i64 (kSize k), .bool false]),
  IsV (.bool false),
  IsV (.bool false),
  IsV undef,
  IsV undef,
  IsV undef,
  IsV undef,
  IsV undef,
  IsV (.bool false)]
theorem get_un_lasts (k : Int) : ∀ p ∈ get_un k , Lasts p := by
 simp only [get_un, List.mem_cons, List.not_mem_nil, or_false]
 rintro p hp
 repeat (rcases hp with rfl | hp; exact lasts_v _)
def get_si (k : Int) (n : Nat) (q : Int) (b : Bool) : List (Value → World → Prop) :=
 [IsV (.int .i64 k),
  IsV (.agg #[.string (kNm k), .int .i64 (kSize k), .bool true]),
  IsV (.bool true),
  IsV (.bool true),
  IsV (.agg #[.bool false, .int .u64 0, .int .u64 (n : Int)]),
  IsV (.int .i64 k),
  IsV (.agg #[.bool false, .int .u64 0, .int .u64 (kMax k)]),
  IsV (.int .i64 q),
  IsV (.bool b),
  IsV (.bool b)]
theorem get_si_lasts (k : Int) (n : Nat) (q : Int) (b : Bool) : ∀ p ∈ get_si k  n  q  b , Lasts p := by
 simp only [get_si, List.mem_cons, List.not_mem_nil, or_false]
 rintro p hp
 repeat (rcases hp with rfl | hp; exact lasts_v _)
set_option maxRecDepth 100000 in
set_option maxHeartbeats 4000000 in
theorem get_stay (k : Int) (s : ByteArray) (c n : Nat) (w : World) (h1 : 1 ≤ k) (h2 : k ≤ 10) (hc : kSize k = (c : Int)) (hs : s.size = c) (hn : leV s.data.toList = n) (hu : kSig k = false) (hf : fitsF k ⟨false, 0, n⟩ = true) (hwf : WI.wf ⟨false, 0, n⟩) :
  Calls Tryz.prog 195 #[.int .i64 k, .string s] w fun e w' => e = .returned (.tuple #[WI.v ⟨false, 0, n⟩, .int .i64 0]) ∧ Below w.heap.size w w' := by
 have hcs : c = 1 ∨ c = 2 ∨ c = 4 ∨ c = 8 := by have := kSize_set h1 h2; omega
 have hn' : leV (s.data.toList.take c) = n := by rw [List.take_of_length_le (by have : s.data.toList.length = s.size := rfl; omega)]; exact hn
 have hempty : s.extract c s.size = ⟨#[]⟩ := by rw [hs]; apply ByteArray.ext; rw [ByteArray.data_extract]; simp [hs]
 have hmx : s.size ≤ maxLen := by unfold maxLen; omega
 have HNUM := Lib.hid (fun rb w h => rNum_any rb s c w h hcs (by omega) hmx)
 rw [hn', hempty] at HNUM
 have HK := Lib.hid (kindB_true h1 h2)
 have HC := Lib.hid hc
 have HU := Lib.hid hu
 have HF := Lib.hid hf
 have HWF := Lib.hid hwf
 have hb : Below w.heap.size w (w.alloc (.cells #[.bool false, .int .u64 0, .int .u64 0] 87)) := by go_grown
 have kr := heap_alloc_new w (.cells #[.bool false, .int .u64 0, .int .u64 0] 87)
 have HB := Lib.hid hb
 have HR := Lib.hid kr
 clear hb kr hc hs hn hu hf hwf hcs hn' hempty hmx
 go_enter Tryz.func195, Tryz.ntmps195
 go_wp2_with fail
 refine (isKind_any _ _).mono ?_
 rintro e w1 ⟨rfl, rfl⟩
 rw [HK.out]
 go_wp2_with fail
 refine (size_any _ _).mono ?_
 rintro e w1 ⟨rfl, hb1⟩
 rw [HC.out]
 have HR1 := Lib.hid (keep hb1 HR.out)
 have HB1 := Lib.hid (HB.out.trans (hb1.mono HB.out.size))
 clear hb1
 go_wp2_with fail
 refine (read_any _ _).mono ?_
 rintro e w2 ⟨rfl, rfl⟩
 have HX2 := Lib.hid (heap_alloc_new w1 (.cells #[.string s, .bool false] 319))
 have HR2 := Lib.hid (keepA (.cells #[.string s, .bool false] 319) HR1.out)
 have HB2 := Lib.hid (HB1.out.alloc HB1.out.size (.cells #[.string s, .bool false] 319))
 generalize w1.alloc (.cells #[.string s, .bool false] 319) = w2 at *
 have hrb : w.heap.size < w1.heap.size := by have := lt_some HR1.out; omega
 generalize w1.heap.size = rb at *
 go_wp2_with fail
 refine (HNUM.out rb w2 HX2.out).mono ?_
 rintro e w3 ⟨rfl, hx3, ho3⟩
 have HX3 := Lib.hid hx3
 have HR3 := Lib.hid ((ho3.block _ (by omega)).trans HR2.out)
 have HB3 := Lib.hid (HB2.out.trans (ho3.below (by omega)))
 clear hx3 ho3
 go_wp2_with fail
 refine (wofword_any _ _).mono ?_
 rintro e w4 ⟨rfl, hb4⟩
 dsimp only [WI.v]
 go_wp2_with fail
 have hs4 : rb < w4.heap.size := lt_some (keep hb4 HX3.out)
 have HN5 := Lib.hid (heap_alloc_new w4 (.cells #[.bool false, .int .u64 0, .int .u64 (n : Int)] 87))
 have HR5 := Lib.hid (keepA (.cells #[.bool false, .int .u64 0, .int .u64 (n : Int)] 87) (keep hb4 HR3.out))
 have HX5 := Lib.hid (keepA (.cells #[.bool false, .int .u64 0, .int .u64 (n : Int)] 87) (keep hb4 HX3.out))
 have HB4 := HB3.out.trans (hb4.mono HB3.out.size)
 have HB5 := Lib.hid (HB4.alloc HB4.size (.cells #[.bool false, .int .u64 0, .int .u64 (n : Int)] 87))
 clear hb4 HB4
 generalize w4.alloc (.cells #[.bool false, .int .u64 0, .int .u64 (n : Int)] 87) = w5 at *
 generalize w4.heap.size = xb at *
 have HFL := Lib.hid (fun s => fldShape s (kSize k) (kSig k))
 rw [HU.out] at HFL
 refine wp_region_frame (by kernel_rfl) (by kernel_rfl) (by kernel_rfl) (byList (get_un k)) (lasts_list (get_un_lasts k)) ?_ ?_
 ·intro vs w' iq o A F hb ho hd
  have m0 : A.tmps[0]?.getD undef = (.int .i64 k) := F.m (by kernel_rfl) rfl
  have m8 : A.tmps[8]?.getD undef = (.pointer (some ⟨xb, 0, none⟩)) := F.m (by kernel_rfl) rfl
  have G := F.light (n := 57) (by kernel_rfl)
  clear F
  clear hb
  revert ho hd
  match iq with
  | 0 =>
   intro ho hd
   obtain rfl := (Option.some.inj ho).symm
   clear hd ho
   refine step_open rfl ?_
   clear G
   exact step_run (v := (.int .i64 k)) (by go_simp) rfl
  | 1 =>
   intro ho hd
   obtain rfl := (Option.some.inj ho).symm
   have d0 : vs 0 = (.int .i64 k) := hd ⟨0, .data⟩ (by simp) rfl
   clear hd ho
   have h21 := G.h (j := 0) (d := 21) rfl (by decide) d0
   refine step_open rfl ?_
   clear G
   go_simp
   refine (of_named _ _ h1 h2).mono ?_
   rintro e w2 ⟨rfl, hb2⟩
   rw [HU.out]
   exact ⟨_, rfl, rfl, hb2⟩
  | 2 =>
   intro ho hd
   obtain rfl := (Option.some.inj ho).symm
   have d1 : vs 1 = (.agg #[.string (kNm k), .int .i64 (kSize k), .bool false]) := hd ⟨1, .data⟩ (by simp) rfl
   clear hd ho
   have h22 := G.h (j := 1) (d := 22) rfl (by decide) d1
   refine step_open rfl ?_
   clear G
   have hfld := HFL.out (kNm k)
   exact step_run (v := (.bool false)) (by go_simp) rfl
  | 3 =>
   intro ho hd
   obtain rfl := (Option.some.inj ho).symm
   have d2 : vs 2 = (.bool false) := hd ⟨2, .data⟩ (by simp) rfl
   clear hd ho
   have h23 := G.h (j := 2) (d := 23) rfl (by decide) d2
   refine step_open rfl ?_
   clear G
   exact step_run (v := (.bool false)) (by go_simp) rfl
  | 4 =>
   intro ho hd
   obtain rfl := (Option.some.inj ho).symm
   have d3 : vs 3 = (.bool false) := hd ⟨3, .guard⟩ (by simp) rfl
   clear hd ho
   exact step_not G rfl rfl (by decide) d3 rfl
  | 5 =>
   intro ho hd
   obtain rfl := (Option.some.inj ho).symm
   have d3 : vs 3 = (.bool false) := hd ⟨3, .guard⟩ (by simp) rfl
   clear hd ho
   exact step_not G rfl rfl (by decide) d3 rfl
  | 6 =>
   intro ho hd
   obtain rfl := (Option.some.inj ho).symm
   have d3 : vs 3 = (.bool false) := hd ⟨3, .guard⟩ (by simp) rfl
   clear hd ho
   exact step_not G rfl rfl (by decide) d3 rfl
  | 7 =>
   intro ho hd
   obtain rfl := (Option.some.inj ho).symm
   have d3 : vs 3 = (.bool false) := hd ⟨3, .guard⟩ (by simp) rfl
   clear hd ho
   exact step_not G rfl rfl (by decide) d3 rfl
  | 8 =>
   intro ho hd
   obtain rfl := (Option.some.inj ho).symm
   have d3 : vs 3 = (.bool false) := hd ⟨3, .guard⟩ (by simp) rfl
   clear hd ho
   exact step_not G rfl rfl (by decide) d3 rfl
  | 9 =>
   intro ho hd
   obtain rfl := (Option.some.inj ho).symm
   have d3 : vs 3 = (.bool false) := hd ⟨3, .data⟩ (by simp) rfl
   have d8 : vs 8 = undef := hd ⟨8, .data⟩ (by simp) rfl
   clear hd ho
   have h24 := G.h (j := 3) (d := 24) rfl (by decide) d3
   have h29 := G.h (j := 8) (d := 29) rfl (by decide) d8
   refine step_open rfl ?_
   clear G
   exact step_run (v := (.bool false)) (by go_simp) rfl
  | n + 10 =>
   intro ho hd
   simp at ho
 intro vs w6 hb hR
 have hv : vs 9 = .bool false := hR 9 (by simp)
 have HX6 := Lib.hid (keep hb HX5.out)
 have HR6 := Lib.hid (keep hb HR5.out)
 have HN6 := Lib.hid (keep hb HN5.out)
 have HB6 := Lib.hid (HB5.out.trans (hb.mono HB5.out.size))
 simp only [putAll, Act.put, List.setIfInBounds_toArray, List.set_cons_succ, List.set_cons_zero]
 rw [hv]
 generalize vs 0 = y0
 generalize vs (0 + 1) = y1
 generalize vs (0 + 1 + 1) = y2
 generalize vs (0 + 1 + 1 + 1) = y3
 generalize vs (0 + 1 + 1 + 1 + 1) = y4
 generalize vs (0 + 1 + 1 + 1 + 1 + 1) = y5
 generalize vs (0 + 1 + 1 + 1 + 1 + 1 + 1) = y6
 generalize vs (0 + 1 + 1 + 1 + 1 + 1 + 1 + 1) = y7
 generalize vs (0 + 1 + 1 + 1 + 1 + 1 + 1 + 1 + 1) = y8
 clear hR hb hv
 have n0 := cell_at HN6.out 0
 have n1 := cell_at HN6.out 1
 have n2 := cell_at HN6.out 2
 simp at n0 n1 n2
 go_wp2_with fail
 refine (rDone_any rb _ _ HX6.out rfl).mono ?_
 rintro e w7 ⟨rfl, rfl⟩
 go_wp2_with fail
 refine (fits_any k ⟨false, 0, n⟩ _ HWF.out).mono ?_
 rintro e w7 ⟨rfl, hb7⟩
 rw [HF.out]
 have hn7 := keep hb7 HN6.out
 have hr7 := keep hb7 HR6.out
 have HB7 := Lib.hid (HB6.out.trans (hb7.mono HB6.out.size))
 have a0 := cell_at hn7 0
 have a1 := cell_at hn7 1
 have a2 := cell_at hn7 2
 have g0 := free_at hr7 0
 have g1 := free_at hr7 1
 have g2 := free_at hr7 2
 have q0 := cell_at hr7 0
 have q1 := cell_at hr7 1
 have q2 := cell_at hr7 2
 simp at a0 a1 a2 q0 q1 q2
 clear hb7
 go_wp2_with fail
 refine bodyPost_ret (v := .tuple #[.agg #[.bool false, .int .u64 0, .int .u64 (n : Int)], .int .i64 0]) (by simp [results, Tryz.results195, go_sem, q0, q1, q2]) rfl ?_
 exact ⟨rfl, ((HB7.out.setCell (by simp) _).setCell (by simp) _).setCell (by simp) _⟩
set_option maxRecDepth 100000 in
set_option maxHeartbeats 4000000 in
theorem get_low (k : Int) (s : ByteArray) (c n : Nat) (w : World) (h1 : 1 ≤ k) (h2 : k ≤ 10) (hc : kSize k = (c : Int)) (hs : s.size = c) (hn : leV s.data.toList = n) (hu : kSig k = true) (hg : (n : Int) ≤ kMax k) (hf : fitsF k ⟨false, 0, n⟩ = true) (hwf : WI.wf ⟨false, 0, n⟩) :
  Calls Tryz.prog 195 #[.int .i64 k, .string s] w fun e w' => e = .returned (.tuple #[WI.v ⟨false, 0, n⟩, .int .i64 0]) ∧ Below w.heap.size w w' := by
 have hcs : c = 1 ∨ c = 2 ∨ c = 4 ∨ c = 8 := by have := kSize_set h1 h2; omega
 have hn' : leV (s.data.toList.take c) = n := by rw [List.take_of_length_le (by have : s.data.toList.length = s.size := rfl; omega)]; exact hn
 have hempty : s.extract c s.size = ⟨#[]⟩ := by rw [hs]; apply ByteArray.ext; rw [ByteArray.data_extract]; simp [hs]
 have hmx : s.size ≤ maxLen := by unfold maxLen; omega
 have HNUM := Lib.hid (fun rb w h => rNum_any rb s c w h hcs (by omega) hmx)
 rw [hn', hempty] at HNUM
 have HK := Lib.hid (kindB_true h1 h2)
 have HC := Lib.hid hc
 have HU := Lib.hid hu
 obtain ⟨q, hq⟩ : ∃ q, q = cmpF ⟨false, 0, n⟩ (greatW k) := ⟨_, rfl⟩
 have HQ := Lib.hid hq
 have HGT := Lib.hid (show decide (0 < q) = false by rw [hq, cmp_great]; simp; exact hg)
 have HF := Lib.hid hf
 have HWF := Lib.hid hwf
 have hb : Below w.heap.size w (w.alloc (.cells #[.bool false, .int .u64 0, .int .u64 0] 87)) := by go_grown
 have kr := heap_alloc_new w (.cells #[.bool false, .int .u64 0, .int .u64 0] 87)
 have HB := Lib.hid hb
 have HR := Lib.hid kr
 clear hb kr hc hs hn hu hg hq hf hwf hcs hn' hempty hmx
 go_enter Tryz.func195, Tryz.ntmps195
 go_wp2_with fail
 refine (isKind_any _ _).mono ?_
 rintro e w1 ⟨rfl, rfl⟩
 rw [HK.out]
 go_wp2_with fail
 refine (size_any _ _).mono ?_
 rintro e w1 ⟨rfl, hb1⟩
 rw [HC.out]
 have HR1 := Lib.hid (keep hb1 HR.out)
 have HB1 := Lib.hid (HB.out.trans (hb1.mono HB.out.size))
 clear hb1
 go_wp2_with fail
 refine (read_any _ _).mono ?_
 rintro e w2 ⟨rfl, rfl⟩
 have HX2 := Lib.hid (heap_alloc_new w1 (.cells #[.string s, .bool false] 319))
 have HR2 := Lib.hid (keepA (.cells #[.string s, .bool false] 319) HR1.out)
 have HB2 := Lib.hid (HB1.out.alloc HB1.out.size (.cells #[.string s, .bool false] 319))
 generalize w1.alloc (.cells #[.string s, .bool false] 319) = w2 at *
 have hrb : w.heap.size < w1.heap.size := by have := lt_some HR1.out; omega
 generalize w1.heap.size = rb at *
 go_wp2_with fail
 refine (HNUM.out rb w2 HX2.out).mono ?_
 rintro e w3 ⟨rfl, hx3, ho3⟩
 have HX3 := Lib.hid hx3
 have HR3 := Lib.hid ((ho3.block _ (by omega)).trans HR2.out)
 have HB3 := Lib.hid (HB2.out.trans (ho3.below (by omega)))
 clear hx3 ho3
 go_wp2_with fail
 refine (wofword_any _ _).mono ?_
 rintro e w4 ⟨rfl, hb4⟩
 dsimp only [WI.v]
 go_wp2_with fail
 have hs4 : rb < w4.heap.size := lt_some (keep hb4 HX3.out)
 have HN5 := Lib.hid (heap_alloc_new w4 (.cells #[.bool false, .int .u64 0, .int .u64 (n : Int)] 87))
 have HR5 := Lib.hid (keepA (.cells #[.bool false, .int .u64 0, .int .u64 (n : Int)] 87) (keep hb4 HR3.out))
 have HX5 := Lib.hid (keepA (.cells #[.bool false, .int .u64 0, .int .u64 (n : Int)] 87) (keep hb4 HX3.out))
 have HB4 := HB3.out.trans (hb4.mono HB3.out.size)
 have HB5 := Lib.hid (HB4.alloc HB4.size (.cells #[.bool false, .int .u64 0, .int .u64 (n : Int)] 87))
 clear hb4 HB4
 generalize w4.alloc (.cells #[.bool false, .int .u64 0, .int .u64 (n : Int)] 87) = w5 at *
 generalize w4.heap.size = xb at *
 have HFL := Lib.hid (fun s => fldShape s (kSize k) (kSig k))
 rw [HU.out] at HFL
 refine wp_region_frame (by kernel_rfl) (by kernel_rfl) (by kernel_rfl) (byList (get_si k n q false)) (lasts_list (get_si_lasts k n q false)) ?_ ?_
 ·intro vs w' iq o A F hb ho hd
  have m0 : A.tmps[0]?.getD undef = (.int .i64 k) := F.m (by kernel_rfl) rfl
  have m8 : A.tmps[8]?.getD undef = (.pointer (some ⟨xb, 0, none⟩)) := F.m (by kernel_rfl) rfl
  have G := F.light (n := 57) (by kernel_rfl)
  clear F
  have hn6 := keep hb HN5.out
  have z0 := cell_at hn6 0
  have z1 := cell_at hn6 1
  have z2 := cell_at hn6 2
  simp at z0 z1 z2
  clear hb hn6
  revert ho hd
  match iq with
  | 0 =>
   intro ho hd
   obtain rfl := (Option.some.inj ho).symm
   clear hd ho
   refine step_open rfl ?_
   clear G
   exact step_run (v := (.int .i64 k)) (by go_simp) rfl
  | 1 =>
   intro ho hd
   obtain rfl := (Option.some.inj ho).symm
   have d0 : vs 0 = (.int .i64 k) := hd ⟨0, .data⟩ (by simp) rfl
   clear hd ho
   have h21 := G.h (j := 0) (d := 21) rfl (by decide) d0
   refine step_open rfl ?_
   clear G
   go_simp
   refine (of_named _ _ h1 h2).mono ?_
   rintro e w2 ⟨rfl, hb2⟩
   rw [HU.out]
   exact ⟨_, rfl, rfl, hb2⟩
  | 2 =>
   intro ho hd
   obtain rfl := (Option.some.inj ho).symm
   have d1 : vs 1 = (.agg #[.string (kNm k), .int .i64 (kSize k), .bool true]) := hd ⟨1, .data⟩ (by simp) rfl
   clear hd ho
   have h22 := G.h (j := 1) (d := 22) rfl (by decide) d1
   refine step_open rfl ?_
   clear G
   have hfld := HFL.out (kNm k)
   exact step_run (v := (.bool true)) (by go_simp) rfl
  | 3 =>
   intro ho hd
   obtain rfl := (Option.some.inj ho).symm
   have d2 : vs 2 = (.bool true) := hd ⟨2, .data⟩ (by simp) rfl
   clear hd ho
   have h23 := G.h (j := 2) (d := 23) rfl (by decide) d2
   refine step_open rfl ?_
   clear G
   exact step_run (v := (.bool true)) (by go_simp) rfl
  | 4 =>
   intro ho hd
   obtain rfl := (Option.some.inj ho).symm
   have d3 : vs 3 = (.bool true) := hd ⟨3, .guard⟩ (by simp) rfl
   clear hd ho
   refine step_yes G rfl rfl (by decide) d3 ?_
   clear G
   exact step_run (v := (.agg #[.bool false, .int .u64 0, .int .u64 (n : Int)])) (by go_simp) rfl
  | 5 =>
   intro ho hd
   obtain rfl := (Option.some.inj ho).symm
   have d3 : vs 3 = (.bool true) := hd ⟨3, .guard⟩ (by simp) rfl
   clear hd ho
   refine step_yes G rfl rfl (by decide) d3 ?_
   clear G
   exact step_run (v := (.int .i64 k)) (by go_simp) rfl
  | 6 =>
   intro ho hd
   obtain rfl := (Option.some.inj ho).symm
   have d5 : vs 5 = (.int .i64 k) := hd ⟨5, .data⟩ (by simp) rfl
   have d3 : vs 3 = (.bool true) := hd ⟨3, .guard⟩ (by simp) rfl
   clear hd ho
   have h26 := G.h (j := 5) (d := 26) rfl (by decide) d5
   refine step_yes G rfl rfl (by decide) d3 ?_
   clear G
   go_simp
   refine (greatest_any k _ h1 h2).mono ?_
   rintro e w2 ⟨rfl, hb2⟩
   exact ⟨_, rfl, rfl, hb2⟩
  | 7 =>
   intro ho hd
   obtain rfl := (Option.some.inj ho).symm
   have d4 : vs 4 = (.agg #[.bool false, .int .u64 0, .int .u64 (n : Int)]) := hd ⟨4, .data⟩ (by simp) rfl
   have d6 : vs 6 = (.agg #[.bool false, .int .u64 0, .int .u64 (kMax k)]) := hd ⟨6, .data⟩ (by simp) rfl
   have d3 : vs 3 = (.bool true) := hd ⟨3, .guard⟩ (by simp) rfl
   clear hd ho
   have h25 := G.h (j := 4) (d := 25) rfl (by decide) d4
   have h27 := G.h (j := 6) (d := 27) rfl (by decide) d6
   refine step_yes G rfl rfl (by decide) d3 ?_
   clear G
   go_simp
   refine (wcmp_any ⟨false, 0, n⟩ (greatW k) _ HWF.out (greatW_wf k)).mono ?_
   rintro e w2 ⟨rfl, hb2⟩
   rw [← HQ.out]
   exact ⟨_, rfl, rfl, hb2⟩
  | 8 =>
   intro ho hd
   obtain rfl := (Option.some.inj ho).symm
   have d7 : vs 7 = (.int .i64 q) := hd ⟨7, .data⟩ (by simp) rfl
   have d3 : vs 3 = (.bool true) := hd ⟨3, .guard⟩ (by simp) rfl
   clear hd ho
   have h28 := G.h (j := 7) (d := 28) rfl (by decide) d7
   refine step_yes G rfl rfl (by decide) d3 ?_
   clear G
   have hgt := HGT.out
   exact step_run (v := (.bool false)) (by go_simp) rfl
  | 9 =>
   intro ho hd
   obtain rfl := (Option.some.inj ho).symm
   have d3 : vs 3 = (.bool true) := hd ⟨3, .data⟩ (by simp) rfl
   have d8 : vs 8 = (.bool false) := hd ⟨8, .data⟩ (by simp) rfl
   clear hd ho
   have h24 := G.h (j := 3) (d := 24) rfl (by decide) d3
   have h29 := G.h (j := 8) (d := 29) rfl (by decide) d8
   refine step_open rfl ?_
   clear G
   exact step_run (v := (.bool false)) (by go_simp) rfl
  | n + 10 =>
   intro ho hd
   simp at ho
 intro vs w6 hb hR
 have hv : vs 9 = .bool false := hR 9 (by simp)
 have HX6 := Lib.hid (keep hb HX5.out)
 have HR6 := Lib.hid (keep hb HR5.out)
 have HN6 := Lib.hid (keep hb HN5.out)
 have HB6 := Lib.hid (HB5.out.trans (hb.mono HB5.out.size))
 simp only [putAll, Act.put, List.setIfInBounds_toArray, List.set_cons_succ, List.set_cons_zero]
 rw [hv]
 generalize vs 0 = y0
 generalize vs (0 + 1) = y1
 generalize vs (0 + 1 + 1) = y2
 generalize vs (0 + 1 + 1 + 1) = y3
 generalize vs (0 + 1 + 1 + 1 + 1) = y4
 generalize vs (0 + 1 + 1 + 1 + 1 + 1) = y5
 generalize vs (0 + 1 + 1 + 1 + 1 + 1 + 1) = y6
 generalize vs (0 + 1 + 1 + 1 + 1 + 1 + 1 + 1) = y7
 generalize vs (0 + 1 + 1 + 1 + 1 + 1 + 1 + 1 + 1) = y8
 clear hR hb hv
 have n0 := cell_at HN6.out 0
 have n1 := cell_at HN6.out 1
 have n2 := cell_at HN6.out 2
 simp at n0 n1 n2
 go_wp2_with fail
 refine (rDone_any rb _ _ HX6.out rfl).mono ?_
 rintro e w7 ⟨rfl, rfl⟩
 go_wp2_with fail
 refine (fits_any k ⟨false, 0, n⟩ _ HWF.out).mono ?_
 rintro e w7 ⟨rfl, hb7⟩
 rw [HF.out]
 have hn7 := keep hb7 HN6.out
 have hr7 := keep hb7 HR6.out
 have HB7 := Lib.hid (HB6.out.trans (hb7.mono HB6.out.size))
 have a0 := cell_at hn7 0
 have a1 := cell_at hn7 1
 have a2 := cell_at hn7 2
 have g0 := free_at hr7 0
 have g1 := free_at hr7 1
 have g2 := free_at hr7 2
 have q0 := cell_at hr7 0
 have q1 := cell_at hr7 1
 have q2 := cell_at hr7 2
 simp at a0 a1 a2 q0 q1 q2
 clear hb7
 go_wp2_with fail
 refine bodyPost_ret (v := .tuple #[.agg #[.bool false, .int .u64 0, .int .u64 (n : Int)], .int .i64 0]) (by simp [results, Tryz.results195, go_sem, q0, q1, q2]) rfl ?_
 exact ⟨rfl, ((HB7.out.setCell (by simp) _).setCell (by simp) _).setCell (by simp) _⟩
end Go.Proofs.YtgebbmfoamkfnaaGreatDoor
