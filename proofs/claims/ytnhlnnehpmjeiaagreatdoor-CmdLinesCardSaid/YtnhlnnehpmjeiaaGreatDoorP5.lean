/- item.compare. Printed by mkN6.py. · Less of two that wait. Printed by mkN6c.py. -/
import Derived.Test.YtnhlnnehpmjeiaaGreatDoorP4
namespace Go.Proofs.YtnhlnnehpmjeiaaGreatDoor
open Go.RowKit
set_option linter.unusedVariables false
def cmpL (a b : IT) : List Int := [signF a.k.st b.k.st, signF a.k.sy b.k.sy, signF a.k.id b.k.id, signF a.k.sq b.k.sq, signF a.at_ b.at_]
theorem sign_lt {a b : Int} : signF a b < 0 ↔ a < b := by
  unfold signF
  by_cases h : a = b
  · rw [if_pos h]; omega
  · rw [if_neg h]
    by_cases h2 : a < b
    · rw [if_pos h2]; omega
    · rw [if_neg h2]; omega
theorem sign_nil {a b : Int} : signF a b = 0 ↔ a = b := by
  unfold signF
  by_cases h : a = b
  · rw [if_pos h]; simp [h]
  · rw [if_neg h]
    by_cases h2 : a < b
    · rw [if_pos h2]; omega
    · rw [if_neg h2]; omega
theorem orF_lt (x : Int) (l : List Int) : orF (x :: l) < 0 ↔ x < 0 ∨ (x = 0 ∧ orF l < 0) := by
  show (if x = 0 then orF l else x) < 0 ↔ _
  by_cases h : x = 0
  · rw [if_pos h]; subst h; simp
  · rw [if_neg h]; simp [h]
theorem cmpL_lt {a b : IT} (ha : a.wf) (hb : b.wf) : orF (cmpL a b) < 0 ↔ a.r < b.r := by
  unfold IT.r
  rw [up_lt ha.at_ hb.at_]
  have e : (a.k.r = b.k.r) ↔ (a.k.st = b.k.st ∧ a.k.sy = b.k.sy ∧ a.k.id = b.k.id ∧ a.k.sq = b.k.sq) := by
    constructor
    · intro h
      have := KY.r_inj ha.k hb.k h
      rw [this]; simp
    · rintro ⟨h1, h2, h3, h4⟩
      unfold KY.r
      rw [h1, h2, h3, h4]
  rw [KY.r_lt ha.k hb.k, e]
  unfold cmpL
  rw [orF_lt, orF_lt, orF_lt, orF_lt, orF_lt, sign_lt, sign_lt, sign_lt, sign_lt, sign_lt, sign_nil, sign_nil, sign_nil, sign_nil, sign_nil]
  simp only [orF]
  omega
def IsFive (l : List Int) (v : Value) (w : World) : Prop := ∃ q, v = .slice (some ⟨q, 0, none⟩) 5 5 ∧ w.heap[q]? = some (.cells #[.int .i64 (l.getD 0 0), .int .i64 (l.getD 1 0), .int .i64 (l.getD 2 0), .int .i64 (l.getD 3 0), .int .i64 (l.getD 4 0)] 3 (0, 0))
theorem lasts_five (l : List Int) : Lasts (IsFive l) := fun _ _ _ ⟨q, h1, h2⟩ hb => ⟨q, h1, keep hb h2⟩
theorem five_at {l : List Int} {q : Nat} {w : World} (h : w.heap[q]? = some (.cells #[.int .i64 (l.getD 0 0), .int .i64 (l.getD 1 0), .int .i64 (l.getD 2 0), .int .i64 (l.getD 3 0), .int .i64 (l.getD 4 0)] 3 (0, 0))) : ∀ j < 5, w.cell? ⟨q, j, none⟩ = some (.int .i64 (l.getD j 0)) := by
  intro j hj
  rw [cell_at h]
  rcases (by omega : j = 0 ∨ j = 1 ∨ j = 2 ∨ j = 3 ∨ j = 4) with rfl | rfl | rfl | rfl | rfl <;> rfl
def compare_list (U : Nat) (a b : IT) : List (Value → World → Prop) :=
  [IsV (.pointer (some ⟨U, 0, none⟩)),
   IsV (.pointer (some ⟨U, 0, none⟩)),
   IsV (.int .i64 a.k.st),
   IsV (.pointer (some ⟨U + 1, 0, none⟩)),
   IsV (.pointer (some ⟨U + 1, 0, none⟩)),
   IsV (.int .i64 b.k.st),
   IsV (.int .i64 (signF a.k.st b.k.st)),
   IsV (.pointer (some ⟨U, 0, none⟩)),
   IsV (.pointer (some ⟨U, 1, none⟩)),
   IsV (.int .i64 a.k.sy),
   IsV (.pointer (some ⟨U + 1, 0, none⟩)),
   IsV (.pointer (some ⟨U + 1, 1, none⟩)),
   IsV (.int .i64 b.k.sy),
   IsV (.int .i64 (signF a.k.sy b.k.sy)),
   IsV (.pointer (some ⟨U, 0, none⟩)),
   IsV (.pointer (some ⟨U, 2, none⟩)),
   IsV (.int .i64 a.k.id),
   IsV (.pointer (some ⟨U + 1, 0, none⟩)),
   IsV (.pointer (some ⟨U + 1, 2, none⟩)),
   IsV (.int .i64 b.k.id),
   IsV (.int .i64 (signF a.k.id b.k.id)),
   IsV (.pointer (some ⟨U, 0, none⟩)),
   IsV (.pointer (some ⟨U, 3, none⟩)),
   IsV (.int .i64 a.k.sq),
   IsV (.pointer (some ⟨U + 1, 0, none⟩)),
   IsV (.pointer (some ⟨U + 1, 3, none⟩)),
   IsV (.int .i64 b.k.sq),
   IsV (.int .i64 (signF a.k.sq b.k.sq)),
   IsV (.pointer (some ⟨U, 4, none⟩)),
   IsV (.int .i64 a.at_),
   IsV (.pointer (some ⟨U + 1, 4, none⟩)),
   IsV (.int .i64 b.at_),
   IsV (.int .i64 (signF a.at_ b.at_)),
   IsFive (cmpL a b),
   IsV (.int .i64 (orF (cmpL a b))),
   IsV (.int .i64 (orF (cmpL a b)))]
theorem compare_list_lasts (U : Nat) (a b : IT) : ∀ p ∈ compare_list U  a b , Lasts p := by
  simp only [compare_list, List.mem_cons, List.not_mem_nil, or_false]
  rintro p hp
  repeat (rcases hp with rfl | hp; first | exact lasts_v _ | exact lasts_five _)
set_option maxRecDepth 100000 in
set_option maxHeartbeats 4000000 in
theorem itCompare_any (a b : IT) (w : World) : Calls Tryz.prog 216 #[a.v, b.v] w fun e w' => e = .returned (.int .i64 (orF (cmpL a b))) ∧ Below w.heap.size w w' := by
  have HA : Hid (((w.alloc (.cells #[.int .i64 a.k.st, .int .i64 a.k.sy, .int .i64 a.k.id, .int .i64 a.k.sq, .int .i64 a.at_, .int .i64 a.kind, .int .u64 a.ent, .int .i64 a.comp, .slice none 0 0] 67)).alloc (.cells #[.int .i64 b.k.st, .int .i64 b.k.sy, .int .i64 b.k.id, .int .i64 b.k.sq, .int .i64 b.at_, .int .i64 b.kind, .int .u64 b.ent, .int .i64 b.comp, .slice none 0 0] 67)).heap[w.heap.size]? = some (.cells #[.int .i64 a.k.st, .int .i64 a.k.sy, .int .i64 a.k.id, .int .i64 a.k.sq, .int .i64 a.at_, .int .i64 a.kind, .int .u64 a.ent, .int .i64 a.comp, .slice none 0 0] 67 (0, 0))) := Lib.hid (keepA _ (heap_alloc_new _ _))
  have HB : Hid (((w.alloc (.cells #[.int .i64 a.k.st, .int .i64 a.k.sy, .int .i64 a.k.id, .int .i64 a.k.sq, .int .i64 a.at_, .int .i64 a.kind, .int .u64 a.ent, .int .i64 a.comp, .slice none 0 0] 67)).alloc (.cells #[.int .i64 b.k.st, .int .i64 b.k.sy, .int .i64 b.k.id, .int .i64 b.k.sq, .int .i64 b.at_, .int .i64 b.kind, .int .u64 b.ent, .int .i64 b.comp, .slice none 0 0] 67)).heap[w.heap.size + 1]? = some (.cells #[.int .i64 b.k.st, .int .i64 b.k.sy, .int .i64 b.k.id, .int .i64 b.k.sq, .int .i64 b.at_, .int .i64 b.kind, .int .u64 b.ent, .int .i64 b.comp, .slice none 0 0] 67 (0, 0))) := Lib.hid (by
    have := heap_alloc_new (w.alloc (.cells #[.int .i64 a.k.st, .int .i64 a.k.sy, .int .i64 a.k.id, .int .i64 a.k.sq, .int .i64 a.at_, .int .i64 a.kind, .int .u64 a.ent, .int .i64 a.comp, .slice none 0 0] 67)) (.cells #[.int .i64 b.k.st, .int .i64 b.k.sy, .int .i64 b.k.id, .int .i64 b.k.sq, .int .i64 b.at_, .int .i64 b.kind, .int .u64 b.ent, .int .i64 b.comp, .slice none 0 0] 67)
    simpa using this)
  have HBB : Hid (Below w.heap.size w ((w.alloc (.cells #[.int .i64 a.k.st, .int .i64 a.k.sy, .int .i64 a.k.id, .int .i64 a.k.sq, .int .i64 a.at_, .int .i64 a.kind, .int .u64 a.ent, .int .i64 a.comp, .slice none 0 0] 67)).alloc (.cells #[.int .i64 b.k.st, .int .i64 b.k.sy, .int .i64 b.k.id, .int .i64 b.k.sq, .int .i64 b.at_, .int .i64 b.kind, .int .u64 b.ent, .int .i64 b.comp, .slice none 0 0] 67))) := Lib.hid (by go_grown)
  unfold IT.v
  go_enter Tryz.func216, Tryz.ntmps216
  go_wp2_with fail
  refine wp_region_frame (by kernel_rfl) (by kernel_rfl) (by kernel_rfl) (byList (compare_list w.heap.size a b)) (lasts_list (compare_list_lasts w.heap.size a b)) ?_ ?_
  · intro vs w' iq o A F hb ho hd
    have m2 : A.tmps[2]?.getD undef = (.pointer (some ⟨w.heap.size, 0, none⟩)) := F.m (by kernel_rfl) rfl
    have m3 : A.tmps[3]?.getD undef = (.pointer (some ⟨w.heap.size + 1, 0, none⟩)) := F.m (by kernel_rfl) rfl
    have G := F.light (n := 40) (by kernel_rfl)
    clear F
    have ha' := keep hb HA.out
    have hb' := keep hb HB.out
    have x0 := cell_at ha' 0
    have x1 := cell_at ha' 1
    have x2 := cell_at ha' 2
    have x3 := cell_at ha' 3
    have x4 := cell_at ha' 4
    have y0 := cell_at hb' 0
    have y1 := cell_at hb' 1
    have y2 := cell_at hb' 2
    have y3 := cell_at hb' 3
    have y4 := cell_at hb' 4
    simp at x0 x1 x2 x3 x4 y0 y1 y2 y3 y4
    clear ha' hb' hb
    revert ho hd
    match iq with
    | 0 => intro ho hd; obtain rfl := (Option.some.inj ho).symm; clear hd ho; refine step_open rfl ?_; clear G; exact step_run (v := (.pointer (some ⟨w.heap.size, 0, none⟩))) (by go_simp) rfl
    | 1 => intro ho hd; obtain rfl := (Option.some.inj ho).symm; have d0 : vs 0 = (.pointer (some ⟨w.heap.size, 0, none⟩)) := hd ⟨0, .data⟩ (by simp) rfl; clear hd ho; have h5 := G.h (j := 0) (d := 5) rfl (by decide) d0; refine step_open rfl ?_; clear G; exact step_run (v := (.pointer (some ⟨w.heap.size, 0, none⟩))) (by go_simp) rfl
    | 2 => intro ho hd; obtain rfl := (Option.some.inj ho).symm; have d1 : vs 1 = (.pointer (some ⟨w.heap.size, 0, none⟩)) := hd ⟨1, .data⟩ (by simp) rfl; clear hd ho; have h6 := G.h (j := 1) (d := 6) rfl (by decide) d1; refine step_open rfl ?_; clear G; exact step_run (v := (.int .i64 a.k.st)) (by go_simp) rfl
    | 3 => intro ho hd; obtain rfl := (Option.some.inj ho).symm; clear hd ho; refine step_open rfl ?_; clear G; exact step_run (v := (.pointer (some ⟨w.heap.size + 1, 0, none⟩))) (by go_simp) rfl
    | 4 => intro ho hd; obtain rfl := (Option.some.inj ho).symm; have d3 : vs 3 = (.pointer (some ⟨w.heap.size + 1, 0, none⟩)) := hd ⟨3, .data⟩ (by simp) rfl; clear hd ho; have h8 := G.h (j := 3) (d := 8) rfl (by decide) d3; refine step_open rfl ?_; clear G; exact step_run (v := (.pointer (some ⟨w.heap.size + 1, 0, none⟩))) (by go_simp) rfl
    | 5 => intro ho hd; obtain rfl := (Option.some.inj ho).symm; have d4 : vs 4 = (.pointer (some ⟨w.heap.size + 1, 0, none⟩)) := hd ⟨4, .data⟩ (by simp) rfl; clear hd ho; have h9 := G.h (j := 4) (d := 9) rfl (by decide) d4; refine step_open rfl ?_; clear G; exact step_run (v := (.int .i64 b.k.st)) (by go_simp) rfl
    | 6 => intro ho hd; obtain rfl := (Option.some.inj ho).symm; have d2 : vs 2 = (.int .i64 a.k.st) := hd ⟨2, .data⟩ (by simp) rfl; have d5 : vs 5 = (.int .i64 b.k.st) := hd ⟨5, .data⟩ (by simp) rfl; clear hd ho; have h7 := G.h (j := 2) (d := 7) rfl (by decide) d2; have h10 := G.h (j := 5) (d := 10) rfl (by decide) d5; refine step_open rfl ?_; clear G; go_simp; refine (cmpCompare_any _ _ _).mono ?_; rintro e w2 ⟨rfl, rfl⟩; exact ⟨_, rfl, rfl, Below.refl _ _⟩
    | 7 => intro ho hd; obtain rfl := (Option.some.inj ho).symm; clear hd ho; refine step_open rfl ?_; clear G; exact step_run (v := (.pointer (some ⟨w.heap.size, 0, none⟩))) (by go_simp) rfl
    | 8 => intro ho hd; obtain rfl := (Option.some.inj ho).symm; have d7 : vs 7 = (.pointer (some ⟨w.heap.size, 0, none⟩)) := hd ⟨7, .data⟩ (by simp) rfl; clear hd ho; have h12 := G.h (j := 7) (d := 12) rfl (by decide) d7; refine step_open rfl ?_; clear G; exact step_run (v := (.pointer (some ⟨w.heap.size, 1, none⟩))) (by go_simp) rfl
    | 9 => intro ho hd; obtain rfl := (Option.some.inj ho).symm; have d8 : vs 8 = (.pointer (some ⟨w.heap.size, 1, none⟩)) := hd ⟨8, .data⟩ (by simp) rfl; clear hd ho; have h13 := G.h (j := 8) (d := 13) rfl (by decide) d8; refine step_open rfl ?_; clear G; exact step_run (v := (.int .i64 a.k.sy)) (by go_simp) rfl
    | 10 => intro ho hd; obtain rfl := (Option.some.inj ho).symm; clear hd ho; refine step_open rfl ?_; clear G; exact step_run (v := (.pointer (some ⟨w.heap.size + 1, 0, none⟩))) (by go_simp) rfl
    | 11 => intro ho hd; obtain rfl := (Option.some.inj ho).symm; have d10 : vs 10 = (.pointer (some ⟨w.heap.size + 1, 0, none⟩)) := hd ⟨10, .data⟩ (by simp) rfl; clear hd ho; have h15 := G.h (j := 10) (d := 15) rfl (by decide) d10; refine step_open rfl ?_; clear G; exact step_run (v := (.pointer (some ⟨w.heap.size + 1, 1, none⟩))) (by go_simp) rfl
    | 12 => intro ho hd; obtain rfl := (Option.some.inj ho).symm; have d11 : vs 11 = (.pointer (some ⟨w.heap.size + 1, 1, none⟩)) := hd ⟨11, .data⟩ (by simp) rfl; clear hd ho; have h16 := G.h (j := 11) (d := 16) rfl (by decide) d11; refine step_open rfl ?_; clear G; exact step_run (v := (.int .i64 b.k.sy)) (by go_simp) rfl
    | 13 => intro ho hd; obtain rfl := (Option.some.inj ho).symm; have d9 : vs 9 = (.int .i64 a.k.sy) := hd ⟨9, .data⟩ (by simp) rfl; have d12 : vs 12 = (.int .i64 b.k.sy) := hd ⟨12, .data⟩ (by simp) rfl; clear hd ho; have h14 := G.h (j := 9) (d := 14) rfl (by decide) d9; have h17 := G.h (j := 12) (d := 17) rfl (by decide) d12; refine step_open rfl ?_; clear G; go_simp; refine (cmpCompare_any _ _ _).mono ?_; rintro e w2 ⟨rfl, rfl⟩; exact ⟨_, rfl, rfl, Below.refl _ _⟩
    | 14 => intro ho hd; obtain rfl := (Option.some.inj ho).symm; clear hd ho; refine step_open rfl ?_; clear G; exact step_run (v := (.pointer (some ⟨w.heap.size, 0, none⟩))) (by go_simp) rfl
    | 15 => intro ho hd; obtain rfl := (Option.some.inj ho).symm; have d14 : vs 14 = (.pointer (some ⟨w.heap.size, 0, none⟩)) := hd ⟨14, .data⟩ (by simp) rfl; clear hd ho; have h19 := G.h (j := 14) (d := 19) rfl (by decide) d14; refine step_open rfl ?_; clear G; exact step_run (v := (.pointer (some ⟨w.heap.size, 2, none⟩))) (by go_simp) rfl
    | 16 => intro ho hd; obtain rfl := (Option.some.inj ho).symm; have d15 : vs 15 = (.pointer (some ⟨w.heap.size, 2, none⟩)) := hd ⟨15, .data⟩ (by simp) rfl; clear hd ho; have h20 := G.h (j := 15) (d := 20) rfl (by decide) d15; refine step_open rfl ?_; clear G; exact step_run (v := (.int .i64 a.k.id)) (by go_simp) rfl
    | 17 => intro ho hd; obtain rfl := (Option.some.inj ho).symm; clear hd ho; refine step_open rfl ?_; clear G; exact step_run (v := (.pointer (some ⟨w.heap.size + 1, 0, none⟩))) (by go_simp) rfl
    | 18 => intro ho hd; obtain rfl := (Option.some.inj ho).symm; have d17 : vs 17 = (.pointer (some ⟨w.heap.size + 1, 0, none⟩)) := hd ⟨17, .data⟩ (by simp) rfl; clear hd ho; have h22 := G.h (j := 17) (d := 22) rfl (by decide) d17; refine step_open rfl ?_; clear G; exact step_run (v := (.pointer (some ⟨w.heap.size + 1, 2, none⟩))) (by go_simp) rfl
    | 19 => intro ho hd; obtain rfl := (Option.some.inj ho).symm; have d18 : vs 18 = (.pointer (some ⟨w.heap.size + 1, 2, none⟩)) := hd ⟨18, .data⟩ (by simp) rfl; clear hd ho; have h23 := G.h (j := 18) (d := 23) rfl (by decide) d18; refine step_open rfl ?_; clear G; exact step_run (v := (.int .i64 b.k.id)) (by go_simp) rfl
    | 20 => intro ho hd; obtain rfl := (Option.some.inj ho).symm; have d16 : vs 16 = (.int .i64 a.k.id) := hd ⟨16, .data⟩ (by simp) rfl; have d19 : vs 19 = (.int .i64 b.k.id) := hd ⟨19, .data⟩ (by simp) rfl; clear hd ho; have h21 := G.h (j := 16) (d := 21) rfl (by decide) d16; have h24 := G.h (j := 19) (d := 24) rfl (by decide) d19; refine step_open rfl ?_; clear G; go_simp; refine (cmpCompare_any _ _ _).mono ?_; rintro e w2 ⟨rfl, rfl⟩; exact ⟨_, rfl, rfl, Below.refl _ _⟩
    | 21 => intro ho hd; obtain rfl := (Option.some.inj ho).symm; clear hd ho; refine step_open rfl ?_; clear G; exact step_run (v := (.pointer (some ⟨w.heap.size, 0, none⟩))) (by go_simp) rfl
    | 22 => intro ho hd; obtain rfl := (Option.some.inj ho).symm; have d21 : vs 21 = (.pointer (some ⟨w.heap.size, 0, none⟩)) := hd ⟨21, .data⟩ (by simp) rfl; clear hd ho; have h26 := G.h (j := 21) (d := 26) rfl (by decide) d21; refine step_open rfl ?_; clear G; exact step_run (v := (.pointer (some ⟨w.heap.size, 3, none⟩))) (by go_simp) rfl
    | 23 => intro ho hd; obtain rfl := (Option.some.inj ho).symm; have d22 : vs 22 = (.pointer (some ⟨w.heap.size, 3, none⟩)) := hd ⟨22, .data⟩ (by simp) rfl; clear hd ho; have h27 := G.h (j := 22) (d := 27) rfl (by decide) d22; refine step_open rfl ?_; clear G; exact step_run (v := (.int .i64 a.k.sq)) (by go_simp) rfl
    | 24 => intro ho hd; obtain rfl := (Option.some.inj ho).symm; clear hd ho; refine step_open rfl ?_; clear G; exact step_run (v := (.pointer (some ⟨w.heap.size + 1, 0, none⟩))) (by go_simp) rfl
    | 25 => intro ho hd; obtain rfl := (Option.some.inj ho).symm; have d24 : vs 24 = (.pointer (some ⟨w.heap.size + 1, 0, none⟩)) := hd ⟨24, .data⟩ (by simp) rfl; clear hd ho; have h29 := G.h (j := 24) (d := 29) rfl (by decide) d24; refine step_open rfl ?_; clear G; exact step_run (v := (.pointer (some ⟨w.heap.size + 1, 3, none⟩))) (by go_simp) rfl
    | 26 => intro ho hd; obtain rfl := (Option.some.inj ho).symm; have d25 : vs 25 = (.pointer (some ⟨w.heap.size + 1, 3, none⟩)) := hd ⟨25, .data⟩ (by simp) rfl; clear hd ho; have h30 := G.h (j := 25) (d := 30) rfl (by decide) d25; refine step_open rfl ?_; clear G; exact step_run (v := (.int .i64 b.k.sq)) (by go_simp) rfl
    | 27 => intro ho hd; obtain rfl := (Option.some.inj ho).symm; have d23 : vs 23 = (.int .i64 a.k.sq) := hd ⟨23, .data⟩ (by simp) rfl; have d26 : vs 26 = (.int .i64 b.k.sq) := hd ⟨26, .data⟩ (by simp) rfl; clear hd ho; have h28 := G.h (j := 23) (d := 28) rfl (by decide) d23; have h31 := G.h (j := 26) (d := 31) rfl (by decide) d26; refine step_open rfl ?_; clear G; go_simp; refine (cmpCompare_any _ _ _).mono ?_; rintro e w2 ⟨rfl, rfl⟩; exact ⟨_, rfl, rfl, Below.refl _ _⟩
    | 28 => intro ho hd; obtain rfl := (Option.some.inj ho).symm; clear hd ho; refine step_open rfl ?_; clear G; exact step_run (v := (.pointer (some ⟨w.heap.size, 4, none⟩))) (by go_simp) rfl
    | 29 => intro ho hd; obtain rfl := (Option.some.inj ho).symm; have d28 : vs 28 = (.pointer (some ⟨w.heap.size, 4, none⟩)) := hd ⟨28, .data⟩ (by simp) rfl; clear hd ho; have h33 := G.h (j := 28) (d := 33) rfl (by decide) d28; refine step_open rfl ?_; clear G; exact step_run (v := (.int .i64 a.at_)) (by go_simp) rfl
    | 30 => intro ho hd; obtain rfl := (Option.some.inj ho).symm; clear hd ho; refine step_open rfl ?_; clear G; exact step_run (v := (.pointer (some ⟨w.heap.size + 1, 4, none⟩))) (by go_simp) rfl
    | 31 => intro ho hd; obtain rfl := (Option.some.inj ho).symm; have d30 : vs 30 = (.pointer (some ⟨w.heap.size + 1, 4, none⟩)) := hd ⟨30, .data⟩ (by simp) rfl; clear hd ho; have h35 := G.h (j := 30) (d := 35) rfl (by decide) d30; refine step_open rfl ?_; clear G; exact step_run (v := (.int .i64 b.at_)) (by go_simp) rfl
    | 32 => intro ho hd; obtain rfl := (Option.some.inj ho).symm; have d29 : vs 29 = (.int .i64 a.at_) := hd ⟨29, .data⟩ (by simp) rfl; have d31 : vs 31 = (.int .i64 b.at_) := hd ⟨31, .data⟩ (by simp) rfl; clear hd ho; have h34 := G.h (j := 29) (d := 34) rfl (by decide) d29; have h36 := G.h (j := 31) (d := 36) rfl (by decide) d31; refine step_open rfl ?_; clear G; go_simp; refine (cmpCompare_any _ _ _).mono ?_; rintro e w2 ⟨rfl, rfl⟩; exact ⟨_, rfl, rfl, Below.refl _ _⟩
    | 33 => intro ho hd; obtain rfl := (Option.some.inj ho).symm; have d6 : vs 6 = (.int .i64 (signF a.k.st b.k.st)) := hd ⟨6, .data⟩ (by simp) rfl; have d13 : vs 13 = (.int .i64 (signF a.k.sy b.k.sy)) := hd ⟨13, .data⟩ (by simp) rfl; have d20 : vs 20 = (.int .i64 (signF a.k.id b.k.id)) := hd ⟨20, .data⟩ (by simp) rfl; have d27 : vs 27 = (.int .i64 (signF a.k.sq b.k.sq)) := hd ⟨27, .data⟩ (by simp) rfl; have d32 : vs 32 = (.int .i64 (signF a.at_ b.at_)) := hd ⟨32, .data⟩ (by simp) rfl; clear hd ho; have h11 := G.h (j := 6) (d := 11) rfl (by decide) d6; have h18 := G.h (j := 13) (d := 18) rfl (by decide) d13; have h25 := G.h (j := 20) (d := 25) rfl (by decide) d20; have h32 := G.h (j := 27) (d := 32) rfl (by decide) d27; have h37 := G.h (j := 32) (d := 37) rfl (by decide) d32; refine step_open rfl ?_; clear G; go_simp; exact ⟨_, rfl, (show IsFive _ _ _ from ⟨_, rfl, heap_alloc_new _ _⟩), by go_grown⟩
    | 34 => intro ho hd; obtain rfl := (Option.some.inj ho).symm; obtain ⟨q33, d33, b33⟩ : IsFive (cmpL a b) (vs 33) w' := hd ⟨33, .data⟩ (by simp) rfl; clear hd ho; have h38 := G.h (j := 33) (d := 38) rfl (by decide) d33; refine step_open rfl ?_; clear G; go_simp; refine (cmpOr_any q33 (cmpL a b) 5 rfl (by omega) _ (five_at b33)).mono ?_; rintro e w2 ⟨rfl, rfl⟩; exact ⟨_, rfl, rfl, Below.refl _ _⟩
    | 35 => intro ho hd; obtain rfl := (Option.some.inj ho).symm; have d34 : vs 34 = (.int .i64 (orF (cmpL a b))) := hd ⟨34, .data⟩ (by simp) rfl; clear hd ho; have h39 := G.h (j := 34) (d := 39) rfl (by decide) d34; refine step_open rfl ?_; clear G; exact step_run (v := (.int .i64 (orF (cmpL a b)))) (by go_simp) rfl
    | n + 36 => intro ho hd; simp at ho
  · intro vs w' hb hR
    have hv : vs 35 = (.int .i64 (orF (cmpL a b))) := hR 35 (by simp)
    have HB1 := Lib.hid (HBB.out.trans (hb.mono HBB.out.size))
    simp only [putAll, Act.put, List.setIfInBounds_toArray, List.set_cons_succ, List.set_cons_zero]
    rw [hv]
    clear hR hb hv
    go_wp2_with fail
    go_returns
    exact ⟨rfl, HB1.out⟩
end Go.Proofs.YtnhlnnehpmjeiaaGreatDoor
namespace Go.Proofs.YtnhlnnehpmjeiaaGreatDoor
open Go.RowKit
set_option linter.unusedVariables false
def less_list (q n fc i j : Nat) (a b : IT) : List (Value → World → Prop) :=
  [IsV (.slice (some ⟨q, 0, none⟩) n fc),
   IsV (.int .i64 (i : Int)),
   IsV (.pointer (some ⟨q, i * 9, none⟩)),
   IsV (.agg #[.int .i64 a.k.st, .int .i64 a.k.sy, .int .i64 a.k.id, .int .i64 a.k.sq, .int .i64 a.at_, .int .i64 a.kind, .int .u64 a.ent, .int .i64 a.comp, .slice none 0 0]),
   IsV (.slice (some ⟨q, 0, none⟩) n fc),
   IsV (.int .i64 (j : Int)),
   IsV (.pointer (some ⟨q, j * 9, none⟩)),
   IsV (.agg #[.int .i64 b.k.st, .int .i64 b.k.sy, .int .i64 b.k.id, .int .i64 b.k.sq, .int .i64 b.at_, .int .i64 b.kind, .int .u64 b.ent, .int .i64 b.comp, .slice none 0 0]),
   IsV (.int .i64 (orF (cmpL a b))),
   IsV (.bool (decide (orF (cmpL a b) < 0))),
   IsV (.bool (decide (orF (cmpL a b) < 0)))]
theorem less_list_lasts (q n fc i j : Nat) (a b : IT) : ∀ p ∈ less_list q n fc i j  a b , Lasts p := by
  simp only [less_list, List.mem_cons, List.not_mem_nil, or_false]
  rintro p hp
  repeat (rcases hp with rfl | hp; first | exact lasts_v _)
set_option maxRecDepth 100000 in
set_option maxHeartbeats 4000000 in
theorem cqLess_any (x : QD) (w : World) (h : QMem w x) (i j : Nat) (hi : i < x.its.length) (hj : j < x.its.length) (hwf : ∀ y ∈ x.its, y.wf) : Calls Tryz.prog 214 #[.slice x.fa x.its.length x.fc, .int .i64 i, .int .i64 j] w fun e w' => e = .returned (.bool (decide (atR x.its i < atR x.its j))) ∧ Below w.heap.size w w' := by
  obtain ⟨q, a, hq, hql, ha, hca, _, hcap, _⟩ := h.item hi
  obtain ⟨q', b, hq', _, hb0, hcb, _, _, _⟩ := h.item hj
  have : q' = q := by rw [hq] at hq'; cases hq'; rfl
  subst this
  have hwa : a.wf := hwf a (List.mem_of_getElem? ha)
  have hwb : b.wf := hwf b (List.mem_of_getElem? hb0)
  rw [hq, atR_some ha, atR_some hb0]
  have i0 : (0 : Int) ≤ (i : Int) := by omega
  have i1 : (i : Int) < (x.its.length : Int) := by omega
  have j0 : (0 : Int) ≤ (j : Int) := by omega
  have j1 : (j : Int) < (x.its.length : Int) := by omega
  have HR : Hid (decide (orF (cmpL a b) < 0) = decide (a.r < b.r)) := Lib.hid (decide_eq_decide.2 (cmpL_lt hwa hwb))
  have HI := Lib.hid hca
  have HJ := Lib.hid hcb
  have HQ := Lib.hid hql
  obtain ⟨n, hn⟩ : ∃ n, x.its.length = n := ⟨_, rfl⟩
  obtain ⟨fc, hfc⟩ : ∃ fc, x.fc = fc := ⟨_, rfl⟩
  rw [hn] at i1 j1 ⊢
  rw [hfc]
  generalize q' = q at *
  clear h hq hq' hi hj hwa hwb ha hb0 hca hcb hql hcap hwf hfc
  clear hn
  go_enter Tryz.func214, Tryz.ntmps214
  go_wp2_with fail
  refine wp_region_frame (by kernel_rfl) (by kernel_rfl) (by kernel_rfl) (byList (less_list q n fc i j a b)) (lasts_list (less_list_lasts q n fc i j a b)) ?_ ?_
  · intro vs w' iq o A F hb ho hd
    have m0 : A.tmps[0]?.getD undef = (.slice (some ⟨q, 0, none⟩) n fc) := F.m (by kernel_rfl) rfl
    have m1 : A.tmps[1]?.getD undef = (.int .i64 (i : Int)) := F.m (by kernel_rfl) rfl
    have m2 : A.tmps[2]?.getD undef = (.int .i64 (j : Int)) := F.m (by kernel_rfl) rfl
    have G := F.light (n := 17) (by kernel_rfl)
    clear F
    have x0 := (hb.cell (p := ⟨q, i * 9, none⟩) HQ.out).trans (HI.out 0 _ rfl)
    have x1 := (hb.cell (p := ⟨q, i * 9 + 1, none⟩) HQ.out).trans (HI.out 1 _ rfl)
    have x2 := (hb.cell (p := ⟨q, i * 9 + 2, none⟩) HQ.out).trans (HI.out 2 _ rfl)
    have x3 := (hb.cell (p := ⟨q, i * 9 + 3, none⟩) HQ.out).trans (HI.out 3 _ rfl)
    have x4 := (hb.cell (p := ⟨q, i * 9 + 4, none⟩) HQ.out).trans (HI.out 4 _ rfl)
    have x5 := (hb.cell (p := ⟨q, i * 9 + 5, none⟩) HQ.out).trans (HI.out 5 _ rfl)
    have x6 := (hb.cell (p := ⟨q, i * 9 + 6, none⟩) HQ.out).trans (HI.out 6 _ rfl)
    have x7 := (hb.cell (p := ⟨q, i * 9 + 7, none⟩) HQ.out).trans (HI.out 7 _ rfl)
    have x8 := (hb.cell (p := ⟨q, i * 9 + 8, none⟩) HQ.out).trans (HI.out 8 _ rfl)
    have y0 := (hb.cell (p := ⟨q, j * 9, none⟩) HQ.out).trans (HJ.out 0 _ rfl)
    have y1 := (hb.cell (p := ⟨q, j * 9 + 1, none⟩) HQ.out).trans (HJ.out 1 _ rfl)
    have y2 := (hb.cell (p := ⟨q, j * 9 + 2, none⟩) HQ.out).trans (HJ.out 2 _ rfl)
    have y3 := (hb.cell (p := ⟨q, j * 9 + 3, none⟩) HQ.out).trans (HJ.out 3 _ rfl)
    have y4 := (hb.cell (p := ⟨q, j * 9 + 4, none⟩) HQ.out).trans (HJ.out 4 _ rfl)
    have y5 := (hb.cell (p := ⟨q, j * 9 + 5, none⟩) HQ.out).trans (HJ.out 5 _ rfl)
    have y6 := (hb.cell (p := ⟨q, j * 9 + 6, none⟩) HQ.out).trans (HJ.out 6 _ rfl)
    have y7 := (hb.cell (p := ⟨q, j * 9 + 7, none⟩) HQ.out).trans (HJ.out 7 _ rfl)
    have y8 := (hb.cell (p := ⟨q, j * 9 + 8, none⟩) HQ.out).trans (HJ.out 8 _ rfl)
    clear hb
    revert ho hd
    match iq with
    | 0 => intro ho hd; obtain rfl := (Option.some.inj ho).symm; clear hd ho; refine step_open rfl ?_; clear G; exact step_run (v := (.slice (some ⟨q, 0, none⟩) n fc)) (by go_simp) rfl
    | 1 => intro ho hd; obtain rfl := (Option.some.inj ho).symm; clear hd ho; refine step_open rfl ?_; clear G; exact step_run (v := (.int .i64 (i : Int))) (by go_simp) rfl
    | 2 => intro ho hd; obtain rfl := (Option.some.inj ho).symm; have d0 : vs 0 = (.slice (some ⟨q, 0, none⟩) n fc) := hd ⟨0, .data⟩ (by simp) rfl; have d1 : vs 1 = (.int .i64 (i : Int)) := hd ⟨1, .data⟩ (by simp) rfl; clear hd ho; have h7 := G.h (j := 0) (d := 7) rfl (by decide) d0; have h8 := G.h (j := 1) (d := 8) rfl (by decide) d1; refine step_open rfl ?_; clear G; exact step_run (v := (.pointer (some ⟨q, i * 9, none⟩))) (by go_simp) rfl
    | 3 => intro ho hd; obtain rfl := (Option.some.inj ho).symm; have d2 : vs 2 = (.pointer (some ⟨q, i * 9, none⟩)) := hd ⟨2, .data⟩ (by simp) rfl; clear hd ho; have h9 := G.h (j := 2) (d := 9) rfl (by decide) d2; refine step_open rfl ?_; clear G; exact step_run (v := (.agg #[.int .i64 a.k.st, .int .i64 a.k.sy, .int .i64 a.k.id, .int .i64 a.k.sq, .int .i64 a.at_, .int .i64 a.kind, .int .u64 a.ent, .int .i64 a.comp, .slice none 0 0])) (by go_simp) rfl
    | 4 => intro ho hd; obtain rfl := (Option.some.inj ho).symm; clear hd ho; refine step_open rfl ?_; clear G; exact step_run (v := (.slice (some ⟨q, 0, none⟩) n fc)) (by go_simp) rfl
    | 5 => intro ho hd; obtain rfl := (Option.some.inj ho).symm; clear hd ho; refine step_open rfl ?_; clear G; exact step_run (v := (.int .i64 (j : Int))) (by go_simp) rfl
    | 6 => intro ho hd; obtain rfl := (Option.some.inj ho).symm; have d4 : vs 4 = (.slice (some ⟨q, 0, none⟩) n fc) := hd ⟨4, .data⟩ (by simp) rfl; have d5 : vs 5 = (.int .i64 (j : Int)) := hd ⟨5, .data⟩ (by simp) rfl; clear hd ho; have h11 := G.h (j := 4) (d := 11) rfl (by decide) d4; have h12 := G.h (j := 5) (d := 12) rfl (by decide) d5; refine step_open rfl ?_; clear G; exact step_run (v := (.pointer (some ⟨q, j * 9, none⟩))) (by go_simp) rfl
    | 7 => intro ho hd; obtain rfl := (Option.some.inj ho).symm; have d6 : vs 6 = (.pointer (some ⟨q, j * 9, none⟩)) := hd ⟨6, .data⟩ (by simp) rfl; clear hd ho; have h13 := G.h (j := 6) (d := 13) rfl (by decide) d6; refine step_open rfl ?_; clear G; exact step_run (v := (.agg #[.int .i64 b.k.st, .int .i64 b.k.sy, .int .i64 b.k.id, .int .i64 b.k.sq, .int .i64 b.at_, .int .i64 b.kind, .int .u64 b.ent, .int .i64 b.comp, .slice none 0 0])) (by go_simp) rfl
    | 8 => intro ho hd; obtain rfl := (Option.some.inj ho).symm; have d3 : vs 3 = (.agg #[.int .i64 a.k.st, .int .i64 a.k.sy, .int .i64 a.k.id, .int .i64 a.k.sq, .int .i64 a.at_, .int .i64 a.kind, .int .u64 a.ent, .int .i64 a.comp, .slice none 0 0]) := hd ⟨3, .data⟩ (by simp) rfl; have d7 : vs 7 = (.agg #[.int .i64 b.k.st, .int .i64 b.k.sy, .int .i64 b.k.id, .int .i64 b.k.sq, .int .i64 b.at_, .int .i64 b.kind, .int .u64 b.ent, .int .i64 b.comp, .slice none 0 0]) := hd ⟨7, .data⟩ (by simp) rfl; clear hd ho; have h10 := G.h (j := 3) (d := 10) rfl (by decide) d3; have h14 := G.h (j := 7) (d := 14) rfl (by decide) d7; refine step_open rfl ?_; clear G; go_simp; refine (itCompare_any a b _).mono ?_; rintro e w2 ⟨rfl, hb2⟩; exact ⟨_, rfl, rfl, hb2⟩
    | 9 => intro ho hd; obtain rfl := (Option.some.inj ho).symm; have d8 : vs 8 = (.int .i64 (orF (cmpL a b))) := hd ⟨8, .data⟩ (by simp) rfl; clear hd ho; have h15 := G.h (j := 8) (d := 15) rfl (by decide) d8; refine step_open rfl ?_; clear G; exact step_run (v := (.bool (decide (orF (cmpL a b) < 0)))) (by go_simp) rfl
    | 10 => intro ho hd; obtain rfl := (Option.some.inj ho).symm; have d9 : vs 9 = (.bool (decide (orF (cmpL a b) < 0))) := hd ⟨9, .data⟩ (by simp) rfl; clear hd ho; have h16 := G.h (j := 9) (d := 16) rfl (by decide) d9; refine step_open rfl ?_; clear G; exact step_run (v := (.bool (decide (orF (cmpL a b) < 0)))) (by go_simp) rfl
    | n + 11 => intro ho hd; simp at ho
  · intro vs w' hb hR
    have hv : vs 10 = (.bool (decide (orF (cmpL a b) < 0))) := hR 10 (by simp)
    have HB1 := Lib.hid hb
    simp only [putAll, Act.put, List.setIfInBounds_toArray, List.set_cons_succ, List.set_cons_zero]
    rw [hv]
    clear hR hb hv
    go_wp2_with fail
    go_returns
    exact ⟨ret_bool HR.out, HB1.out⟩
end Go.Proofs.YtnhlnnehpmjeiaaGreatDoor
