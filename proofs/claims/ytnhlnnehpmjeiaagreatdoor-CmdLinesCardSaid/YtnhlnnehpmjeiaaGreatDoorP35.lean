/- Line of a Remove. Printed by mkNJ.py. · awake: a buffer for two, its two commands, the schema: what stays. · awake of the commands' laws is true. ·  -/
import Derived.Test.YtnhlnnehpmjeiaaGreatDoorP33
import Derived.Test.YtnhlnnehpmjeiaaGreatDoorP34
import Derived.Test.YtnhlnnehpmjeiaaGreatDoorP4
import Derived.Shelf.Strings.Builder1
import Derived.Shelf.Strings.Builder2
import Derived.Shelf.Strings.OnBuilder
import Derived.Shelf.Strings.BuilderF
import Derived.Shelf.Strings.BuilderK
import Derived.Shelf.Strings.Builder2Cap
import Derived.Shelf.Strconv.Itoa0
import Derived.Shelf.Strconv.Itoa1
import Derived.Shelf.LaysM
import Derived.Shelf.Strconv.Itoa2
import Derived.Shelf.Strconv.Itoa3
import Derived.Shelf.Strings.Prefix
import Derived.Shelf.Bits.Mul64
import Derived.Shelf.Strings.Repeat
import Derived.Shelf.Strings.BuilderCap
import Derived.Test.YtnhlnnehpmjeiaaGreatDoorProg
namespace Go.Proofs.YtnhlnnehpmjeiaaGreatDoor
open Go.RowKit
set_option linter.unusedVariables false
def IsWords (v : Value) (w : World) : Prop := ∃ q, v = .slice (some ⟨q, 0, none⟩) 6 6 ∧ w.heap[q]? = some (.cells wordsC 9 (0, 0))
def IsWord5 (v : Value) (w : World) : Prop := ∃ q, v = .pointer (some ⟨q, 5, none⟩) ∧ w.heap[q]? = some (.cells wordsC 9 (0, 0))
def IsTwoS (v : Value) (w : World) : Prop := ∃ q, v = .slice (some ⟨q, 0, none⟩) 2 2 ∧ w.heap[q]? = some (.cells #[.string ⟨(Lib.decDigits 2).toArray⟩, .string ⟨(Lib.decDigits 1).toArray⟩] 9 (0, 0))
theorem lasts_two : Lasts IsTwoS := fun _ _ _ ⟨q, h1, h2⟩ hb => ⟨q, h1, keep hb h2⟩
def IsOneB (U : Nat) (e' : TypeId) (cs : Array Value) (v : Value) (w : World) : Prop := ∃ q, U ≤ q ∧ v = .slice (some ⟨q, 0, none⟩) 1 1 ∧ w.heap[q]? = some (.cells cs e' (0, 0))
theorem lasts_oneB (U : Nat) (e' : TypeId) (cs : Array Value) : Lasts (IsOneB U e' cs) := fun _ _ _ ⟨q, h0, h1, h2⟩ hb => ⟨q, h0, h1, keep hb h2⟩
theorem lasts_words : Lasts IsWords := fun _ _ _ ⟨q, h1, h2⟩ hb => ⟨q, h1, keep hb h2⟩
theorem lasts_word5 : Lasts IsWord5 := fun _ _ _ ⟨q, h1, h2⟩ hb => ⟨q, h1, keep hb h2⟩
def line_list (U : Nat) : List (Value → World → Prop) :=
  [IsWords,
   IsV (.pointer (some ⟨U, 0, none⟩)),
   IsV (.int .i64 5),
   IsWord5,
   IsV (.string ⟨#[114, 101, 109, 111, 118, 101]⟩),
   IsOneB U 9 #[.string ⟨#[114, 101, 109, 111, 118, 101]⟩],
   IsOneB U 9 #[.string ⟨#[114, 101, 109, 111, 118, 101]⟩]]
theorem line_list_lasts (U : Nat) : ∀ p ∈ line_list U , Lasts p := by
  simp only [line_list, List.mem_cons, List.not_mem_nil, or_false]
  rintro p hp
  repeat (rcases hp with rfl | hp; first | exact lasts_v _ | exact lasts_oneB _ _ _ | exact lasts_words | exact lasts_word5 | exact lasts_emp _ _ _ | exact lasts_rowO _ _ _ _ _ | exact lasts_with _ _ _ _ _ _ | exact lasts_oneW _ _ _ _ _ _ _ | exact lasts_one _ _)
def line_list5 (U q6 : Nat) : List (Value → World → Prop) :=
  [IsV (.slice (some ⟨q6, 0, none⟩) 1 1),
   IsV (.pointer (some ⟨U, 1, none⟩)),
   IsV (.int .u64 4294967298),
   IsV (.int .i64 2),
   IsV (.string ⟨(Lib.decDigits 2).toArray⟩),
   IsV (.pointer (some ⟨U, 1, none⟩)),
   IsV (.int .u64 4294967298),
   IsV (.int .i64 1),
   IsV (.string ⟨(Lib.decDigits 1).toArray⟩),
   IsTwoS]
theorem line_list5_lasts (U q6 : Nat) : ∀ p ∈ line_list5 U q6 , Lasts p := by
  simp only [line_list5, List.mem_cons, List.not_mem_nil, or_false]
  rintro p hp
  repeat (rcases hp with rfl | hp; first | exact lasts_v _ | exact lasts_two | exact lasts_emp _ _ _ | exact lasts_rowO _ _ _ _ _ | exact lasts_with _ _ _ _ _ _ | exact lasts_oneW _ _ _ _ _ _ _ | exact lasts_one _ _)
theorem Tryz.infoStr : (Tryz.prog.info? 9).map (fun i => (i.zero, i.size, i.bytes)) = some (some (.string ByteArray.empty), 1, 16) := by kernel_rfl
theorem join4 : (Lib.join (([⟨#[114, 101, 109, 111, 118, 101]⟩, ⟨(Lib.decDigits 2).toArray⟩, ⟨(Lib.decDigits 1).toArray⟩, ⟨(Lib.decDigits 7).toArray⟩] : List ByteArray).map (·.data.toList)) (ByteArray.mk #[32]).data.toList).length = 12 := by kernel_rfl
theorem wp_runC {P : Program} {A : Act} {w : World} {K : Act → World → Prop} {Q : Exit → Act → World → Prop} {o : Oper} {v : Value} (hv : (execOp A.eval o).run P w = .ok (.value v) w) (h : K (A.put o.dst v) w) : o.wp P A w K Q := by
  unfold Oper.wp
  rw [hv]
  exact h
theorem src_two {w : World} {q : Nat} {cs : Array Value} {e : TypeId} (h : w.heap[q]? = some (.cells cs e (0, 0))) (hs : cs.size = 2) (h1 : cs.toList.all (·.oneCell') = true := by rfl) : SrcAt w 1 (some ⟨q, 0, none⟩) 2 2 cs.toList := by
  refine ⟨by rw [Array.length_toList]; omega, List.all_eq_true.1 h1, .inr ⟨_, rfl, fun j u hu => ?_⟩⟩
  exact World.news_of_block h j u hu
set_option maxRecDepth 100000 in
set_option maxHeartbeats 4000000 in
theorem lineRemove_any (w : World) : Calls Tryz.prog 14 #[.agg #[.int .i64 5, .int .u64 4294967298, .int .i64 7, .slice none 0 0]] w fun e w' => e = .returned (.string ⟨#[114, 101, 109, 111, 118, 101, 32, 50, 32, 49, 32, 55]⟩) ∧ Below w.heap.size w w' := by
  obtain ⟨i0, hi, hz0, hz1, hz2⟩ := info_parts Tryz.infoStr
  have HA : Hid ((w.alloc (.cells #[.int .i64 5, .int .u64 4294967298, .int .i64 7, .slice none 0 0] 34)).heap[w.heap.size]? = some (.cells #[.int .i64 5, .int .u64 4294967298, .int .i64 7, .slice none 0 0] 34 (0, 0))) := Lib.hid (heap_alloc_new w _)
  go_enter Tryz.func14, Tryz.ntmps14
  go_wp2_with fail
  refine wp_region_frame (by kernel_rfl) (by kernel_rfl) (by kernel_rfl) (byList (line_list w.heap.size)) (lasts_list (line_list_lasts w.heap.size)) ?_ ?_
  · intro vs w' iq o A F hb ho hd
    have m1 : A.tmps[1]?.getD undef = (.pointer (some ⟨w.heap.size, 0, none⟩)) := F.m (by kernel_rfl) rfl
    have G := F.light (n := 62) (by kernel_rfl)
    clear F
    have hsz : w.heap.size ≤ w'.heap.size := by have := hb.size; simp at this; omega
    have ha' := keep hb HA.out
    have x0 := cell_at ha' 0
    simp at x0
    clear ha' hb
    revert ho hd
    match iq with
    | 0 => intro ho hd; obtain rfl := (Option.some.inj ho).symm; clear hd ho; refine step_open rfl ?_; clear G; go_simp; refine (cmdWords_any _).mono ?_; rintro e w2 ⟨q, rfl, hq, hb2⟩; exact ⟨_, rfl, (show IsWords _ _ from ⟨q, rfl, hq⟩), hb2⟩
    | 1 => intro ho hd; obtain rfl := (Option.some.inj ho).symm; clear hd ho; refine step_open rfl ?_; clear G; exact step_run (v := (.pointer (some ⟨w.heap.size, 0, none⟩))) (by go_simp) rfl
    | 2 => intro ho hd; obtain rfl := (Option.some.inj ho).symm; have d1 : vs 1 = (.pointer (some ⟨w.heap.size, 0, none⟩)) := hd ⟨1, .data⟩ (by simp) rfl; clear hd ho; have h15 := G.h (j := 1) (d := 15) rfl (by decide) d1; refine step_open rfl ?_; clear G; exact step_run (v := (.int .i64 5)) (by go_simp) rfl
    | 3 => intro ho hd; obtain rfl := (Option.some.inj ho).symm; obtain ⟨q0, d0, b0⟩ : IsWords (vs 0) w' := hd ⟨0, .data⟩ (by simp) rfl; have d2 : vs 2 = (.int .i64 5) := hd ⟨2, .data⟩ (by simp) rfl; clear hd ho; have h14 := G.h (j := 0) (d := 14) rfl (by decide) d0; have h16 := G.h (j := 2) (d := 16) rfl (by decide) d2; refine step_open rfl ?_; clear G; go_simp; exact ⟨_, rfl, (show IsWord5 _ _ from ⟨q0, rfl, b0⟩), Below.refl _ _⟩
    | 4 => intro ho hd; obtain rfl := (Option.some.inj ho).symm; obtain ⟨q3, d3, b3⟩ : IsWord5 (vs 3) w' := hd ⟨3, .data⟩ (by simp) rfl; clear hd ho; have h17 := G.h (j := 3) (d := 17) rfl (by decide) d3; refine step_open rfl ?_; clear G; have y5 := cell_at b3 5; unfold wordsC at y5; simp at y5; exact step_run (v := (.string ⟨#[114, 101, 109, 111, 118, 101]⟩)) (by go_simp) rfl
    | 5 => intro ho hd; obtain rfl := (Option.some.inj ho).symm; have d4 : vs 4 = (.string ⟨#[114, 101, 109, 111, 118, 101]⟩) := hd ⟨4, .data⟩ (by simp) rfl; clear hd ho; have h18 := G.h (j := 4) (d := 18) rfl (by decide) d4; refine step_open rfl ?_; clear G; go_simp; exact ⟨_, rfl, (show IsOneB _ _ _ _ _ from ⟨_, hsz, rfl, heap_alloc_new _ _⟩), by go_grown⟩
    | 6 => intro ho hd; obtain rfl := (Option.some.inj ho).symm; obtain ⟨q5, u5, d5, b5⟩ : IsOneB w.heap.size 9 #[.string ⟨#[114, 101, 109, 111, 118, 101]⟩] (vs 5) w' := hd ⟨5, .data⟩ (by simp) rfl; clear hd ho; have h19 := G.h (j := 5) (d := 19) rfl (by decide) d5; refine step_open rfl ?_; clear G; go_simp; exact ⟨_, rfl, (show IsOneB _ _ _ _ _ from ⟨q5, u5, rfl, b5⟩), Below.refl _ _⟩
    | n + 7 => intro ho hd; simp at ho
  · intro vs w' hb hR
    obtain ⟨q6, u6, d6, b6⟩ : IsOneB w.heap.size 9 #[.string ⟨#[114, 101, 109, 111, 118, 101]⟩] (vs 6) w' := hR 6 (by decide)
    simp only [putAll, Act.put, List.setIfInBounds_toArray, List.set_cons_succ, List.set_cons_zero]
    rw [d6]
    have HA3 := Lib.hid (keep hb HA.out)
    have HB3 := Lib.hid (((Below.refl _ w).alloc (Nat.le_refl _) (.cells #[.int .i64 5, .int .u64 4294967298, .int .i64 7, .slice none 0 0] 34)).trans (hb.mono (by simp)))
    have HQ6 := Lib.hid b6
    clear hb hR d6 b6
    have x0 := cell_at HA3.out 0
    simp at x0
    go_wp2_with fail
    clear x0
    refine wp_region_tail 10 (by kernel_rfl) (by kernel_rfl) (by kernel_rfl) (by decide) (by kernel_rfl) (byList (line_list5 w.heap.size q6)) (lasts_list (line_list5_lasts w.heap.size q6)) ?_ ?_
    · intro vs w' iq o A hi F hb ho hd
      have m1 : A.tmps[1]?.getD undef = (.pointer (some ⟨w.heap.size, 0, none⟩)) := F.m (by kernel_rfl) rfl
      have m3 : A.tmps[3]?.getD undef = (.slice (some ⟨q6, 0, none⟩) 1 1) := F.m (by kernel_rfl) rfl
      have G := F.light (n := 62) (by kernel_rfl)
      clear F
      have ha' := keep hb HA3.out
      have x1 := cell_at ha' 1
      simp at x1
      clear ha' hb
      revert hi ho hd
      match iq with
      | 0 => intro _ ho hd; obtain rfl := (Option.some.inj ho).symm; clear hd ho; refine step_open rfl ?_; clear G; exact step_run (v := (.slice (some ⟨q6, 0, none⟩) 1 1)) (by go_simp) rfl
      | 1 => intro _ ho hd; obtain rfl := (Option.some.inj ho).symm; clear hd ho; refine step_open rfl ?_; clear G; exact step_run (v := (.pointer (some ⟨w.heap.size, 1, none⟩))) (by go_simp) rfl
      | 2 => intro _ ho hd; obtain rfl := (Option.some.inj ho).symm; have d1 : vs 1 = (.pointer (some ⟨w.heap.size, 1, none⟩)) := hd ⟨1, .data⟩ (by simp) rfl; clear hd ho; have h24 := G.h (j := 1) (d := 24) rfl (by decide) d1; refine step_open rfl ?_; clear G; exact step_run (v := (.int .u64 4294967298)) (by go_simp) rfl
      | 3 => intro _ ho hd; obtain rfl := (Option.some.inj ho).symm; have d2 : vs 2 = (.int .u64 4294967298) := hd ⟨2, .data⟩ (by simp) rfl; clear hd ho; have h25 := G.h (j := 2) (d := 25) rfl (by decide) d2; refine step_open rfl ?_; clear G; go_simp; refine (entId_any 4294967298 _ (by omega) (by omega)).mono ?_; rintro e w2 ⟨rfl, rfl⟩; exact ⟨_, rfl, rfl, Below.refl _ _⟩
      | 4 => intro _ ho hd; obtain rfl := (Option.some.inj ho).symm; have d3 : vs 3 = (.int .i64 2) := hd ⟨3, .data⟩ (by simp) rfl; clear hd ho; have h26 := G.h (j := 3) (d := 26) rfl (by decide) d3; refine step_open rfl ?_; clear G; go_simp; refine (Tryz.strconv_Itoa_small 2 (by omega) _).mono ?_; rintro e w2 ⟨rfl, rfl⟩; exact ⟨_, rfl, rfl, Below.refl _ _⟩
      | 5 => intro _ ho hd; obtain rfl := (Option.some.inj ho).symm; clear hd ho; refine step_open rfl ?_; clear G; exact step_run (v := (.pointer (some ⟨w.heap.size, 1, none⟩))) (by go_simp) rfl
      | 6 => intro _ ho hd; obtain rfl := (Option.some.inj ho).symm; have d5 : vs 5 = (.pointer (some ⟨w.heap.size, 1, none⟩)) := hd ⟨5, .data⟩ (by simp) rfl; clear hd ho; have h28 := G.h (j := 5) (d := 28) rfl (by decide) d5; refine step_open rfl ?_; clear G; exact step_run (v := (.int .u64 4294967298)) (by go_simp) rfl
      | 7 => intro _ ho hd; obtain rfl := (Option.some.inj ho).symm; have d6 : vs 6 = (.int .u64 4294967298) := hd ⟨6, .data⟩ (by simp) rfl; clear hd ho; have h29 := G.h (j := 6) (d := 29) rfl (by decide) d6; refine step_open rfl ?_; clear G; go_simp; refine (entGen_any 4294967298 _ (by omega) (by omega)).mono ?_; rintro e w2 ⟨rfl, rfl⟩; exact ⟨_, rfl, rfl, Below.refl _ _⟩
      | 8 => intro _ ho hd; obtain rfl := (Option.some.inj ho).symm; have d7 : vs 7 = (.int .i64 1) := hd ⟨7, .data⟩ (by simp) rfl; clear hd ho; have h30 := G.h (j := 7) (d := 30) rfl (by decide) d7; refine step_open rfl ?_; clear G; go_simp; refine (Tryz.strconv_Itoa_small 1 (by omega) _).mono ?_; rintro e w2 ⟨rfl, rfl⟩; exact ⟨_, rfl, rfl, Below.refl _ _⟩
      | 9 => intro _ ho hd; obtain rfl := (Option.some.inj ho).symm; have d4 : vs 4 = (.string ⟨(Lib.decDigits 2).toArray⟩) := hd ⟨4, .data⟩ (by simp) rfl; have d8 : vs 8 = (.string ⟨(Lib.decDigits 1).toArray⟩) := hd ⟨8, .data⟩ (by simp) rfl; clear hd ho; have h27 := G.h (j := 4) (d := 27) rfl (by decide) d4; have h31 := G.h (j := 8) (d := 31) rfl (by decide) d8; refine step_open rfl ?_; clear G; go_simp; exact ⟨_, rfl, (show IsTwoS _ _ from ⟨_, rfl, heap_alloc_new _ _⟩), by go_grown⟩
      | n + 10 =>
        intro hi
        exfalso
        omega
    · intro vs w6 A hA F hb hR
      obtain ⟨q9, d9, b9⟩ : IsTwoS (vs 9) w6 := hR 9 (by decide)
      have d0 : vs 0 = (.slice (some ⟨q6, 0, none⟩) 1 1) := hR 0 (by decide)
      have G := F.light (n := 62) (by kernel_rfl)
      have h23 := G.h (j := 0) (d := 23) rfl (by decide) d0
      have h32 := G.h (j := 9) (d := 32) rfl (by decide) d9
      have HB6 := Lib.hid (HB3.out.trans (hb.mono HB3.out.size))
      have HA6 := Lib.hid (keep hb HA3.out)
      have hown : w6.ownsRow w.heap.size 9 1 (.slice (some ⟨q6, 0, none⟩) 1 1) 1 [.string ⟨#[114, 101, 109, 111, 118, 101]⟩] := ⟨rfl, .inr ⟨q6, 1, _, rfl, u6, keep hb HQ6.out, by decide, by decide, by decide, rfl⟩⟩
      clear G F hR d0 d9 hb
      simp only [List.drop_succ_cons, List.drop_zero, wpTail]
      refine wp_append_src (.tmp 23) (.tmp 32) 79 rfl w.heap.size 9 i0 (.string ByteArray.empty) 1 16 Tryz.underlying79 hi hz0 hz1 hz2 rfl (by decide) _ 1 _ (eval_of h23) hown (some ⟨q9, 0, none⟩) 2 2 _ (eval_of h32) (src_two b9 rfl) (by unfold maxLen; omega) (by omega) HB6.out.size ?_
      intro v' w7 hown7 hg7
      obtain ⟨va, vc, hv⟩ := ownsRow_slice hown7
      rw [hv] at hown7 ⊢
      clear hv
      have HB7 := Lib.hid (HB6.out.trans ((below_own hown hg7 HB6.out.size).mono (Nat.le_refl _)))
      have HO7 := Lib.hid hown7
      have HA7 := Lib.hid (keepG hg7 HA6.out (fun e => by
        have e : q6 = w.heap.size := by simpa [Value.ownBlock] using e.symm
        have h1 := HQ6.out
        have h2 := HA3.out
        rw [e, h2] at h1
        cases h1))
      subst hA
      clear hown hown7 hg7 h23 h32 b9
      refine wp_runC (v := .slice va 3 vc) (by simp only [putAll, Act.put, List.setIfInBounds_toArray, List.set_cons_succ, List.set_cons_zero]; go_simp) ?_
      simp only [putAll, Act.put, List.setIfInBounds_toArray, List.set_cons_succ, List.set_cons_zero]
      have y0 := cell_at HA7.out 0
      have y2 := cell_at HA7.out 2
      simp at y0 y2
      clear HA HA3 HB3 HQ6 HA6 HB6
      go_wp2_with fail
      refine (Tryz.strconv_Itoa_small 7 (by omega) _).mono ?_
      rintro e w8 ⟨rfl, rfl⟩
      have hown8 := HO7.out.alloc (.cells #[.string ⟨(Lib.decDigits 7).toArray⟩] 9)
      have hnews : ∀ j u, ([.string ⟨(Lib.decDigits 7).toArray⟩] : List Value)[j]? = some u → (w8.alloc (.cells #[.string ⟨(Lib.decDigits 7).toArray⟩] 9)).cell? ((⟨w8.heap.size, 0, none⟩ : Addr).add j) = some u :=
        World.news_of_block (w := w8.alloc (.cells #[.string ⟨(Lib.decDigits 7).toArray⟩] 9)) (cs := #[.string ⟨(Lib.decDigits 7).toArray⟩]) (t := 9) (fr := (0, 0)) (heap_alloc_new w8 _)
      have hsz := HB7.out.size
      have HO8 := Lib.hid hown8
      have HN8 := Lib.hid hnews
      clear hown8 hnews y0 y2 HA7 HO7
      go_wp2_with (at_builtin; refine wpList_append_own _ rfl (.tmp 37) (.tmp 41) 79 rfl w.heap.size 9 i0 (.string ByteArray.empty) 1 16 Tryz.underlying79 hi hz0 hz1 hz2 rfl (by decide) (.slice va 3 vc) 3 _ rfl HO8.out ⟨w8.heap.size, 0, none⟩ 1 1 _ rfl rfl HN8.out (fun u hu => by simp at hu; subst hu; rfl) (by unfold maxLen; omega) (by omega) (by simp; omega) ?_)
      intro v' w9 hown9 hg9 hnil
      obtain ⟨vb, vd, hv⟩ := ownsRow_slice hown9
      rw [hv] at hown9 hnil ⊢
      clear hv
      have HB9 := Lib.hid (HB7.out.trans (((Below.refl _ w8).alloc (Nat.le_refl _) (.cells #[.string ⟨(Lib.decDigits 7).toArray⟩] 9)).mono hsz |>.trans (below_own HO8.out hg9 (by simp; omega))))
      obtain ⟨q, hq, _, hql, hqc⟩ := row_block hown9 (by omega)
      obtain ⟨_, _, _, _, _, hcap⟩ := ownsRow_set (r := 0) (.string ⟨#[]⟩) hown9 (by omega)
      have hJ := Tryz.strings_Join q 0 vd [⟨#[114, 101, 109, 111, 118, 101]⟩, ⟨(Lib.decDigits 2).toArray⟩, ⟨(Lib.decDigits 1).toArray⟩, ⟨(Lib.decDigits 7).toArray⟩] ⟨#[32]⟩ w9 (fun j x hx => by
        rw [Nat.zero_add]
        refine hqc j _ ?_
        match j, hx with
        | 0, hx => cases hx; rfl
        | 1, hx => cases hx; rfl
        | 2, hx => cases hx; rfl
        | 3, hx => cases hx; rfl
        | n + 4, hx => simp at hx) hql (by simp) hcap (Nat.le_trans (Nat.le_of_eq join4) (by omega))
      have HJ := Lib.hid hJ
      rw [hq]
      clear hown9 hg9 hnil hq hql hqc hcap hJ HO8 HN8
      go_wp2_with fail
      refine HJ.out.mono ?_
      rintro e w10 ⟨rfl, hb10⟩
      have HF := Lib.hid (HB9.out.trans (hb10.mono HB9.out.size))
      have HE : Hid ((⟨(Lib.join (([⟨#[114, 101, 109, 111, 118, 101]⟩, ⟨(Lib.decDigits 2).toArray⟩, ⟨(Lib.decDigits 1).toArray⟩, ⟨(Lib.decDigits 7).toArray⟩] : List ByteArray).map (·.data.toList)) (ByteArray.mk #[32]).data.toList).toArray⟩ : ByteArray) = ⟨#[114, 101, 109, 111, 118, 101, 32, 50, 32, 49, 32, 55]⟩) := Lib.hid (by kernel_rfl)
      rw [HE.out]
      clear hb10 HJ HB9 HE
      go_wp2_with fail
      go_returns
      exact ⟨rfl, HF.out⟩
end Go.Proofs.YtnhlnnehpmjeiaaGreatDoor
namespace Go.Proofs.YtnhlnnehpmjeiaaGreatDoor
open Go.RowKit
set_option linter.unusedVariables false
def compC : Array Value := #[.int .i64 1, .string ⟨#[97]⟩, .slice none 0 0]
def schC (q : Nat) : Array Value := #[.int .i64 1, .slice (some ⟨q, 0, none⟩) 1 1]
/-- The schema in memory, and what lay before is as it was. -/
structure AwC (w0 w : World) : Prop where
  hq : w.heap[w0.heap.size]? = some (.cells compC 51 (0, 0))
  hs : w.heap[w0.heap.size + 1]? = some (.cells (schC w0.heap.size) 43 (0, 0))
  bel : Below w0.heap.size w0 w
theorem AwC.below {w0 w w' : World} (h : AwC w0 w) (hb : Below w.heap.size w w') : AwC w0 w' := ⟨keep hb h.hq, keep hb h.hs, h.bel.trans (hb.mono h.bel.size)⟩
theorem AwC.out {w0 w w' : World} {F : Nat → Prop} (h : AwC w0 w) (ho : Out F w w') (hF : ∀ z, F z → w0.heap.size ≤ z ∧ ∀ cs ty fr, w.heap[z]? = some (.cells cs ty fr) → ty ≠ 51 ∧ ty ≠ 43) : AwC w0 w' :=
  ⟨ho.keep h.hq (fun hf => ((hF _ hf).2 _ _ _ h.hq).1 rfl), ho.keep h.hs (fun hf => ((hF _ hf).2 _ _ _ h.hs).2 rfl), below_out h.bel ho h.bel.size (fun z hz => (hF z hz).1)⟩
theorem AwC.comps {w0 w : World} (h : AwC w0 w) : CompsAt w.heap.size w (some ⟨w0.heap.size, 0, none⟩) 1 cs21 := comps21 h.hq (lt_some h.hq)
theorem foot_ty {w : World} {b : Nat} {most nx : Int} {fa : Option Addr} {fc : Nat} {its : List IT} (h : QMem w (bufQ b most nx fa fc its)) {z : Nat} (hz : (bufQ b most nx fa fc its).foot z) {cs : Array Value} {ty : TypeId} {fr : Nat × Nat} (hc : w.heap[z]? = some (.cells cs ty fr)) : ty = 62 ∨ ty = 67 := by
  rcases hz with hz | hz
  · rw [show z = b from hz, bufQ_blk h] at hc
    cases hc
    exact .inl rfl
  · obtain ⟨cur, h1⟩ := row_type h.row hz
    rw [h1] at hc
    cases hc
    exact .inr rfl
/-- The buffer too. -/
def AwQ (w0 : World) (b : Nat) (P : List IT) (w : World) : Prop := ∃ fa fc its, QMem w (bufQ b 2 (P.length : Int) fa fc its) ∧ its.Perm P ∧ HeapI its its.length ∧ (∀ z, (bufQ b 2 (P.length : Int) fa fc its).foot z → w0.heap.size ≤ z)
theorem AwQ.below {w0 w w' : World} {b : Nat} {P : List IT} (h : AwQ w0 b P w) (hb : Below w.heap.size w w') : AwQ w0 b P w' := by
  obtain ⟨fa, fc, its, h1, h2⟩ := h
  exact ⟨fa, fc, its, h1.below hb, h2⟩
theorem aw_push {w0 w : World} {b : Nat} {P : List IT} (hc : AwC w0 w) (h : AwQ w0 b P w) (hP : ∀ z ∈ P, z.wf) (hl : P.length < 2) (k : KY) (hk : k.wf) (kind ent comp : Int) :
    Calls Tryz.prog 7 #[.pointer (some ⟨b, 0, none⟩), k.v, .agg #[.int .i64 kind, .int .u64 ent, .int .i64 comp, .slice none 0 0]] w fun e w' => e = .returned (.int .i64 0) ∧ AwC w0 w' ∧ AwQ w0 b (⟨k, (P.length : Int), kind, ent, comp⟩ :: P) w' := by
  obtain ⟨fa, fc, its, h1, h2, h3, h4⟩ := h
  have hll := h2.length_eq
  refine (bufPush_any w h1 k kind ent comp (by omega) (by decide) (by omega) (by omega) (fun z hz => hP z (h2.mem_iff.1 hz)) hk h3).mono ?_
  rintro e w' ⟨rfl, fa', fc', l, hst, hp, hh⟩
  refine ⟨rfl, hc.out hst.out (fun z hz => ⟨h4 z hz, fun cs ty fr hcs => ?_⟩), fa', fc', l, ?_, hp.trans (h2.cons _), hh, fun z hz => ?_⟩
  · rcases foot_ty h1 hz hcs with rfl | rfl <;> exact ⟨by decide, by decide⟩
  · rw [show (((⟨k, (P.length : Int), kind, ent, comp⟩ :: P : List IT).length : Nat) : Int) = (P.length : Int) + 1 by simp]
    exact hst.mem
  · rw [show (((⟨k, (P.length : Int), kind, ent, comp⟩ :: P : List IT).length : Nat) : Int) = (P.length : Int) + 1 by simp] at hz
    rcases hst.foot z hz with hz | hz
    · exact h4 z hz
    · exact Nat.le_trans hc.bel.size hz
theorem aw_full {w0 w : World} {b : Nat} {P : List IT} (hc : AwC w0 w) (h : AwQ w0 b P w) (hl : P.length = 2) (k c : Value) (hk : ∃ ks, k = .agg ks) (hcc : ∃ cs, c = .agg cs) :
    Calls Tryz.prog 7 #[.pointer (some ⟨b, 0, none⟩), k, c] w fun e w' => e = .returned (.int .i64 5) ∧ AwC w0 w' ∧ AwQ w0 b P w' := by
  obtain ⟨fa, fc, its, h1, h2, h3, h4⟩ := id h
  have hll := h2.length_eq
  refine (bufFull_any w h1 k c (by omega) (by decide) hk hcc).mono ?_
  rintro e w' ⟨rfl, hb⟩
  exact ⟨rfl, hc.below hb, h.below hb⟩
/-- The list of the two. -/
def AwL (la : Option Addr) (lc : Nat) (w : World) : Prop := w.ownsRow 0 34 4 (.slice la 2 lc) 2 ([itS, itD].flatMap IT.d)
theorem aw_list {w0 w : World} {b : Nat} (hc : AwC w0 w) (h : AwQ w0 b [itS, itD] w) :
    Calls Tryz.prog 8 #[.pointer (some ⟨b, 0, none⟩)] w fun e w' => ∃ la lc, e = .returned (.slice la 2 lc) ∧ AwL la lc w' ∧ AwC w0 w' ∧ AwQ w0 b [itS, itD] w' := by
  obtain ⟨fa, fc, its, h1, h2, h3, h4⟩ := id h
  have hll := h2.length_eq
  simp at hll
  have hwf : ∀ z ∈ its, z.wf := fun z hz => by
    have := h2.mem_iff.1 hz
    simp only [List.mem_cons, List.not_mem_nil, or_false] at this
    rcases this with rfl | rfl
    · exact itS_wf
    · exact itD_wf
  refine (bufList_any w h1 hwf h3 (by omega)).mono ?_
  rintro e w' ⟨out, va, vc, rfl, hown, hp, hs, hb⟩
  obtain rfl := two_sorted h2 hp hs
  exact ⟨va, vc, rfl, own_low hown (Nat.zero_le _), hc.below hb, h.below hb⟩
/-- The world. -/
def AwN (w0 : World) (wb : Nat) (w : World) : Prop := ∃ d, WIn w d 0 ∧ d.S = C0 ∧ d.wb = wb ∧ ∀ z, d.foot z → w0.heap.size ≤ z
theorem aw_new {w0 w : World} {b : Nat} {la : Option Addr} {lc : Nat} (hc : AwC w0 w) (h : AwQ w0 b [itS, itD] w) (hl : AwL la lc w) :
    Calls Tryz.prog 15 #[.agg #[.int .i64 1, .slice (some ⟨w0.heap.size, 0, none⟩) 1 1], .agg #[.int .i64 1, .int .i64 1, .int .i64 1, .int .i64 0, .int .i64 0, .int .i64 1]] w fun e w' => ∃ wb, e = .returned (.pointer (some ⟨wb, 0, none⟩)) ∧ AwN w0 wb w' ∧ AwC w0 w' ∧ AwQ w0 b [itS, itD] w' ∧ AwL la lc w' := by
  refine (wNew_any caps21 caps21_ok 1 cs21 _ 1 1 1 rfl w hc.comps cs21_wf (by decide) cs21_f (fun h => by cases h) schema21).mono ?_
  rintro e w' ⟨d, rfl, hW, hS, hF, hb⟩
  exact ⟨d.wb, rfl, ⟨d, hW, hS, rfl, fun z hz => Nat.le_trans hc.bel.size (hF z hz)⟩, hc.below hb, h.below hb, ownsRow_below hl hb⟩
def AwR (ra : Option Addr) (rc : Nat) (w : World) : Prop := w.ownsRow 0 28 1 (.slice ra 2 rc) 2 [.int .i64 0, .int .i64 11]
theorem aw_flush {w0 w : World} {b wb : Nat} {la : Option Addr} {lc : Nat} (hc : AwC w0 w) (h : AwQ w0 b [itS, itD] w) (hl : AwL la lc w) (hn : AwN w0 wb w) :
    Calls Tryz.prog 16 #[.pointer (some ⟨b, 0, none⟩), .pointer (some ⟨wb, 0, none⟩)] w fun e w' => ∃ ra rc, e = .returned (.slice ra 2 rc) ∧ AwR ra rc w' ∧ AwC w0 w' ∧ AwL la lc w' ∧ QMem w' (bufQ b 2 2 none 0 []) := by
  obtain ⟨fa, fc, its, h1, h2, h3, h4⟩ := h
  obtain ⟨d, n1, n2, rfl, n4⟩ := hn
  have hwf : ∀ z ∈ its, z.wf := fun z hz => by
    have := h2.mem_iff.1 hz
    simp only [List.mem_cons, List.not_mem_nil, or_false] at this
    rcases this with rfl | rfl
    · exact itS_wf
    · exact itD_wf
  refine (bufFlush_two w h1 hwf h3 h2 n1 n2).mono ?_
  rintro e w' ⟨ra, rc, rfl, hown, hm, ho⟩
  refine ⟨ra, rc, rfl, own_low hown (Nat.zero_le _), hc.out ho (fun z hz => ?_), ownsRow_out hl ho (fun z hz hf => ?_), hm⟩
  · rcases hz with hz | hz
    · refine ⟨n4 z hz, fun cs ty fr hcs => ?_⟩
      refine ⟨fun e => ?_, fun e => ?_⟩
      · subst e; exact n1.raw.not_foot hcs (by decide) hz
      · subst e; exact n1.raw.not_foot hcs (by decide) hz
    · refine ⟨h4 z hz, fun cs ty fr hcs => ?_⟩
      rcases foot_ty h1 hz hcs with rfl | rfl <;> exact ⟨by decide, by decide⟩
  · rcases hf with hf | hf
    · exact n1.row_no hl (by decide) hz hf
    · obtain ⟨cur, h5⟩ := row_type hl hz
      rcases foot_ty h1 hf h5 with e | e <;> exact absurd e (by decide)
theorem aw_line (w : World) : Calls Tryz.prog 14 #[.agg #[.int .i64 5, .int .u64 4294967298, .int .i64 7, .slice none 0 0]] w fun e w' => e = .returned (.string ⟨#[114, 101, 109, 111, 118, 101, 32, 50, 32, 49, 32, 55]⟩) ∧ Below w.heap.size w w' := lineRemove_any w
theorem aw_check {w0 w : World} (hc : AwC w0 w) : Calls Tryz.prog 13 #[.agg (schC w0.heap.size), .agg #[.int .i64 3, .int .u64 0, .int .i64 0, .slice none 0 0]] w fun e w' => e = .returned (.int .i64 4) ∧ Below w.heap.size w w' := checkForm_any 1 cs21 _ 1 1 w hc.comps cs21_wf schema21
end Go.Proofs.YtnhlnnehpmjeiaaGreatDoor
namespace Go.Proofs.YtnhlnnehpmjeiaaGreatDoor
open Go.RowKit
set_option linter.unusedVariables false
set_option maxRecDepth 100000 in
set_option maxHeartbeats 4000000 in
theorem awake21_any (w : World) : Calls Tryz.prog 5 #[] w fun e w' => e = .returned (.bool true) ∧ Below w.heap.size w w' := by
  have hq0 := keepA (.cells (schC w.heap.size) 43) (heap_alloc_new w (.cells compC 51))
  have hs0 := heap_alloc_new (w.alloc (.cells compC 51)) (.cells (schC w.heap.size) 43)
  rw [World.size_alloc] at hs0
  have HC0 : Hid (AwC w ((w.alloc (.cells compC 51)).alloc (.cells (schC w.heap.size) 43))) := Lib.hid ⟨hq0, hs0, by go_grown⟩
  clear hq0 hs0
  unfold compC schC at HC0
  go_enter Tryz.func5, Tryz.ntmps5
  go_wp2_with fail
  generalize (w.alloc (.cells #[.int .i64 1, .string ⟨#[97]⟩, .slice none 0 0] 51)).alloc (.cells #[.int .i64 1, .slice (some ⟨w.heap.size, 0, none⟩) 1 1] 43) = w1 at HC0 ⊢
  obtain ⟨qc, hqc⟩ : ∃ qc, w.heap.size = qc := ⟨_, rfl⟩
  rw [hqc]
  have HQC := Lib.hid hqc
  clear hqc
  refine (cmdNew_any 2 w1 (by omega) (by omega)).mono ?_
  rintro e w2 ⟨rfl, hm2, hb2⟩
  have HQ2 : Hid (AwQ w w1.heap.size [] w2) := Lib.hid ⟨none, 0, [], hm2, List.Perm.refl _, (fun i _ hi => absurd hi (Nat.not_lt_zero i)), fun z hz => by
    rcases hz with hz | hz
    · rw [show z = w1.heap.size from hz]; exact HC0.out.bel.size
    · simp [QD.v, bufQ, Value.ownBlock] at hz⟩
  have HC2 := Lib.hid (HC0.out.below hb2)
  clear hm2 hb2 HC0
  obtain ⟨bb, hbb⟩ : ∃ bb, w1.heap.size = bb := ⟨_, rfl⟩
  rw [hbb] at HQ2 ⊢
  clear hbb
  go_wp2_with fail
  have hP := aw_push HC2.out HQ2.out (fun z hz => by cases hz) (by decide) ⟨1, 0, 2, 0⟩ itD_wf.k 2 9 0
  dsimp only [KY.v] at hP
  refine hP.mono ?_
  clear hP
  rintro e w3 ⟨rfl, hc3, hq3⟩
  have HC3 := Lib.hid hc3
  have HQ3 : Hid (AwQ w bb [itD] w3) := Lib.hid hq3
  clear hc3 hq3 HC2 HQ2
  go_wp2_with fail
  have hP := aw_push HC3.out HQ3.out (fun z hz => by simp at hz; subst hz; exact itD_wf) (by decide) ⟨1, 0, 1, 5⟩ itS_wf.k 1 0 0
  dsimp only [KY.v] at hP
  refine hP.mono ?_
  clear hP
  rintro e w4 ⟨rfl, hc4, hq4⟩
  have HC4 := Lib.hid hc4
  have HQ4 : Hid (AwQ w bb [itS, itD] w4) := Lib.hid hq4
  clear hc4 hq4 HC3 HQ3
  go_wp2_with fail
  refine (aw_full HC4.out HQ4.out rfl _ _ ⟨_, rfl⟩ ⟨_, rfl⟩).mono ?_
  rintro e w5 ⟨rfl, hc5, hq5⟩
  have HC5 := Lib.hid hc5
  have HQ5 := Lib.hid hq5
  clear hc5 hq5 HC4 HQ4
  go_wp2_with fail
  refine (aw_list HC5.out HQ5.out).mono ?_
  rintro e w6 ⟨la, lc, rfl, hl6, hc6, hq6⟩
  have s6 := hc6.hs
  rw [HQC.out] at s6
  have y0 := cell_at s6 0
  have y1 := cell_at s6 1
  simp [schC] at y0 y1
  have HC6 := Lib.hid hc6
  have HQ6 := Lib.hid hq6
  have HL6 := Lib.hid hl6
  clear hc6 hq6 hl6 s6 HC5 HQ5
  go_wp2_with fail
  have hN := aw_new HC6.out HQ6.out HL6.out
  rw [HQC.out] at hN
  refine hN.mono ?_
  rintro e w7 ⟨wb, rfl, hn7, hc7, hq7, hl7⟩
  have HN7 := Lib.hid hn7
  have HC7 := Lib.hid hc7
  have HQ7 := Lib.hid hq7
  have HL7 := Lib.hid hl7
  clear hn7 hc7 hq7 hl7 hN HC6 HQ6 HL6 y0 y1
  go_wp2_with fail
  refine (aw_flush HC7.out HQ7.out HL7.out HN7.out).mono ?_
  rintro e w8 ⟨ra, rc, rfl, hr8, hc8, hl8, hm8⟩
  obtain ⟨lx, hlx, _, hll, hlc⟩ := row_block hl8 (by decide)
  obtain ⟨rx, hrx, _, hrl, hrc⟩ := row_block hr8 (by decide)
  subst hlx
  subst hrx
  have HLX : Hid (lx < w8.heap.size ∧ w8.cell? ⟨lx, 0, none⟩ = some (.int .i64 1) ∧ w8.cell? ⟨lx, 5, none⟩ = some (.int .u64 9)) := Lib.hid ⟨hll, hlc 0 _ rfl, hlc 5 _ rfl⟩
  have HRX : Hid (rx < w8.heap.size ∧ w8.cell? ⟨rx, 0, none⟩ = some (.int .i64 0) ∧ w8.cell? ⟨rx, 1, none⟩ = some (.int .i64 11)) := Lib.hid ⟨hrl, hrc 0 _ rfl, hrc 1 _ rfl⟩
  have HC9 := Lib.hid hc8
  have HQ9 := Lib.hid hm8
  have x0 := HLX.out.2.1
  have x5 := HLX.out.2.2
  have r0 := HRX.out.2.1
  have r1 := HRX.out.2.2
  clear hr8 hc8 hl8 hm8 hll hlc hrl hrc HC7 HQ7 HL7 HN7
  go_wp2_with fail
  refine (bufLen_any _ HQ9.out).mono ?_
  rintro e w9 ⟨rfl, rfl⟩
  go_wp2_with fail
  refine (aw_line _).mono ?_
  rintro e w10 ⟨rfl, hb10⟩
  have hc10 := HC9.out.below hb10
  have hs9 := hc10.hs
  rw [HQC.out] at hs9
  have y0 := cell_at hs9 0
  have y1 := cell_at hs9 1
  simp [schC] at y0 y1
  have HC10 := Lib.hid hc10
  have HCK := aw_check hc10
  rw [HQC.out] at HCK
  unfold schC at HCK
  have HCK := Lib.hid HCK
  clear hb10 hc10 hs9 x0 x5 r0 r1
  go_wp2_with fail
  refine HCK.out.mono ?_
  rintro e w11 ⟨rfl, hb11⟩
  have HF := Lib.hid (HC10.out.below hb11).bel
  clear hb11 y0 y1
  go_wp2_with fail
  go_returns
  exact ⟨rfl, HF.out⟩
end Go.Proofs.YtnhlnnehpmjeiaaGreatDoor
namespace Go.Proofs
open Go.Shelf
def Tryz.lays129_ren : Go.Shelf.Ren := ⟨fun | 129 => 93 | n => n, fun | 53 => 30 | 3 => 3 | 4 => 4 | 46 => 111 | 5 => 5 | 9 => 9 | n => n, fun | n => n⟩
theorem Tryz.lays129 : Go.Proofs.Lays.n129 Tryz.prog Tryz.lays129_ren := {
  mixed := by kernel_rfl
  f129 := Tryz.func93.trans (congrArg some (by kernel_rfl))
  t3 := Tryz.underlying3
  a3 := Tryz.isAgg3
  z3 := Tryz.sizeOf3
  v3 := Tryz.zeroValue3
  t4 := Tryz.underlying4
  a4 := Tryz.isAgg4
  z4 := Tryz.sizeOf4
  v4 := Tryz.zeroValue4
  t5 := Tryz.underlying5
  a5 := Tryz.isAgg5
  z5 := Tryz.sizeOf5
  v5 := Tryz.zeroValue5
  t9 := Tryz.underlying9
  a9 := Tryz.isAgg9
  z9 := Tryz.sizeOf9
  v9 := Tryz.zeroValue9
  t46 := Tryz.underlying111
  a46 := Tryz.isAgg111
  z46 := Tryz.sizeOf111
  v46 := Tryz.zeroValue111
  t53 := Tryz.underlying30
  a53 := Tryz.isAgg30
  z53 := Tryz.sizeOf30
  v53 := Tryz.zeroValue30 }
theorem Tryz.bits_Len64 (x : Int) (w : World) (h0 : 0 ≤ x) (h1 : x ≤ 18446744073709551615) :
    Calls Tryz.prog 93 #[.int .u64 x] w fun e w' => e = .returned (.int .i64 (Lib.bitLen x.toNat)) ∧ w' = w := Any.bits_Len64 Tryz.lays129 x w h0 h1
def Tryz.laysM171_ren : Go.Shelf.Ren := ⟨fun | 171 => 30 | 243 => 52 | 246 => 67 | 283 => 77 | 284 => 78 | 285 => 79 | 286 => 80 | 129 => 93 | 317 => 92 | 318 => 94 | 319 => 95 | 320 => 96 | 337 => 105 | 338 => 106 | n => n, fun | 3 => 3 | 9 => 9 | 2 => 2 | 4 => 4 | 171 => 166 | 0 => 0 | 53 => 30 | 37 => 113 | 5 => 5 | 173 => 169 | 212 => 187 | 51 => 188 | 20 => 20 | 213 => 189 | 46 => 111 | 232 => 203 | 233 => 204 | n => n, fun | 17 => 0 | 18 => 4 | 19 => 5 | n => n⟩
theorem Tryz.laysM171 : Go.Proofs.LaysM.n171 Tryz.prog Tryz.laysM171_ren := {
  mixed := by kernel_rfl
  f129 := Tryz.func93.trans (congrArg some (by kernel_rfl))
  f171 := Tryz.func30.trans (congrArg some (by kernel_rfl))
  f243 := Tryz.func52.trans (congrArg some (by kernel_rfl))
  f246 := Tryz.func67.trans (congrArg some (by kernel_rfl))
  f283 := Tryz.func77.trans (congrArg some (by kernel_rfl))
  f284 := Tryz.func78.trans (congrArg some (by kernel_rfl))
  f285 := Tryz.func79.trans (congrArg some (by kernel_rfl))
  f286 := Tryz.func80.trans (congrArg some (by kernel_rfl))
  f317 := Tryz.func92.trans (congrArg some (by kernel_rfl))
  f318 := Tryz.func94.trans (congrArg some (by kernel_rfl))
  f319 := Tryz.func95.trans (congrArg some (by kernel_rfl))
  f320 := Tryz.func96.trans (congrArg some (by kernel_rfl))
  f337 := Tryz.func105.trans (congrArg some (by kernel_rfl))
  f338 := Tryz.func106.trans (congrArg some (by kernel_rfl))
  t0 := Tryz.underlying0
  a0 := Tryz.isAgg0
  z0 := Tryz.sizeOf0
  v0 := Tryz.zeroValue0
  t2 := Tryz.underlying2
  a2 := Tryz.isAgg2
  z2 := Tryz.sizeOf2
  v2 := Tryz.zeroValue2
  t3 := Tryz.underlying3
  a3 := Tryz.isAgg3
  z3 := Tryz.sizeOf3
  v3 := Tryz.zeroValue3
  t4 := Tryz.underlying4
  a4 := Tryz.isAgg4
  z4 := Tryz.sizeOf4
  v4 := Tryz.zeroValue4
  t5 := Tryz.underlying5
  a5 := Tryz.isAgg5
  z5 := Tryz.sizeOf5
  v5 := Tryz.zeroValue5
  t9 := Tryz.underlying9
  a9 := Tryz.isAgg9
  z9 := Tryz.sizeOf9
  v9 := Tryz.zeroValue9
  t20 := Tryz.underlying20
  a20 := Tryz.isAgg20
  z20 := Tryz.sizeOf20
  v20 := Tryz.zeroValue20
  t37 := Tryz.underlying113
  a37 := Tryz.isAgg113
  z37 := Tryz.sizeOf113
  v37 := Tryz.zeroValue113
  t46 := Tryz.underlying111
  a46 := Tryz.isAgg111
  z46 := Tryz.sizeOf111
  v46 := Tryz.zeroValue111
  t51 := Tryz.underlying188
  a51 := Tryz.isAgg188
  z51 := Tryz.sizeOf188
  v51 := Tryz.zeroValue188
  t53 := Tryz.underlying30
  a53 := Tryz.isAgg30
  z53 := Tryz.sizeOf30
  v53 := Tryz.zeroValue30
  t171 := Tryz.underlying166
  a171 := Tryz.isAgg166
  z171 := Tryz.sizeOf166
  v171 := Tryz.zeroValue166
  t173 := Tryz.underlying169
  a173 := Tryz.isAgg169
  z173 := Tryz.sizeOf169
  v173 := Tryz.zeroValue169
  t212 := Tryz.underlying187
  a212 := Tryz.isAgg187
  z212 := Tryz.sizeOf187
  v212 := Tryz.zeroValue187
  t213 := Tryz.underlying189
  a213 := Tryz.isAgg189
  z213 := Tryz.sizeOf189
  t232 := Tryz.underlying203
  a232 := Tryz.isAgg203
  z232 := Tryz.sizeOf203
  v232 := Tryz.zeroValue203
  t233 := Tryz.underlying204
  a233 := Tryz.isAgg204
  z233 := Tryz.sizeOf204
  v233 := Tryz.zeroValue204
  g17 := by kernel_rfl
  g18 := by kernel_rfl
  g19 := by kernel_rfl
  i0 := by kernel_rfl
  i2 := by kernel_rfl
  i3 := by kernel_rfl
  i4 := by kernel_rfl
  i5 := by kernel_rfl
  i9 := by kernel_rfl
  i20 := by kernel_rfl
  i37 := by kernel_rfl
  i46 := by kernel_rfl
  i51 := by kernel_rfl
  i53 := by kernel_rfl
  i171 := by kernel_rfl
  i173 := by kernel_rfl
  i212 := by kernel_rfl
  i232 := by kernel_rfl
  i233 := by kernel_rfl
  m17 := by kernel_rfl
  m18 := by kernel_rfl
  m19 := by kernel_rfl }
open Go.RowKit Go.Sort Go.Lib in
theorem Tryz.strconv_Itoa (n : Int) (h0 : -9223372036854775808 ≤ n) (h1 : n ≤ 9223372036854775807) (w : World) (htab : Lib.TabIs Tryz.prog w "internal/strconv.uint64pow10" .u64 Lib.pow10Tab) :
    Calls Tryz.prog 30 #[.int .i64 n] w fun e w' => e = .returned (.string ⟨(Lib.itoa n).toArray⟩) ∧ ∃ k os, w' = grow (w.drewN k) os := Any.strconv_Itoa Tryz.laysM171 n h0 h1 w htab
end Go.Proofs
