/- CmdOrder: the walk of the law. Printed by mkNS.py. -/
import Derived.Test.YtnhlnnehpmjeiaaGreatDoorQ35
import Derived.Test.YtnhlnnehpmjeiaaGreatDoorQ36
import Derived.Test.YtnhlnnehpmjeiaaGreatDoorQ4
namespace Go.Proofs.YtnhlnnehpmjeiaaGreatDoor
open Go.RowKit
set_option linter.unusedVariables false
def mskA : List Bool := [false, false, true, false, false, true, true, false, false, false, false, false, false, false, false, false, false, false, false, false, true, true, true, true, true, true, true, true, true, true, true, true, true, true, true, true, true, true, true, true, true, true, true, true, true, true, true, true, true, true, true, false, false, false, false, false, false, false, false, false, false, false, false, false, false, false, false, false, false, false, false, false, false, false, false, false, false, false, false, false, false, false, false, false, false, false, false, false, false, false, false, false, false, false, false, false, false, false, false, false, false, false, false, false, false, false, false, false, false, false, false, false, false, false, false, false, false, false, false, false, false, false, false, false, false, false, false, false, false, false, false, false, false, false, false, false, false, false, false, false, false, false, false, false, false, false]
def mskB : List Bool := [false, false, true, false, false, false, true, false, false, false, false, false, false, false, false, false, false, false, false, false, false, false, false, false, false, false, true, true, true, true, true, true, true, true, true, true, true, true, true, true, false, false, false, false, false, false, false, false, false, false, false, false, false, false, false, false, false, false, false, false, false, false, false, false, false, false, false, false, false, false, false, false, false, false, false, false, false, false, false, false, false, false, false, false, false, false, false, false, false, false, false, false, false, false, false, false, false, false, false, false, false, false, false, false, false, false, false, false, false, false, false, false, false, false, false, false, false, false, false, false, false, false, false, false, false, false, false, false, false, false, false, false, false, false, false, false, false, false, false, false, false, false, false, false, false, false]
def mskC : List Bool := [false, false, true, false, false, false, false, true, false, false, false, false, false, false, false, false, false, false, false, false, false, false, false, false, false, false, false, false, false, false, false, false, false, false, false, false, false, false, false, false, false, false, false, false, false, false, false, false, false, false, false, false, false, false, true, true, true, true, true, true, true, true, true, true, true, true, true, true, true, false, false, false, false, false, false, false, false, false, false, false, false, false, false, false, false, false, false, false, false, false, false, false, false, false, false, false, false, false, false, false, false, false, false, false, false, false, false, false, false, false, false, false, false, false, false, false, false, false, false, false, false, false, false, false, false, false, false, false, false, false, false, false, false, false, false, false, false, false, false, false, false, false, false, false, false, false]
def mskD : List Bool := [false, false, true, false, false, false, false, false, false, false, false, true, true, false, false, false, false, false, false, false, false, false, false, false, false, false, false, false, false, false, false, false, false, false, false, false, false, false, false, false, false, false, false, false, false, false, false, false, false, false, false, false, false, false, false, false, false, false, false, false, false, false, false, false, false, false, false, false, false, false, false, false, false, false, false, false, false, false, false, false, false, false, false, false, false, false, true, true, true, true, true, true, true, true, true, true, true, true, true, true, true, true, true, true, true, true, true, true, true, true, true, true, true, true, true, true, true, true, true, true, true, true, true, true, true, true, true, true, true, true, true, true, true, true, true, true, true, true, true, true, true, true, true, true, true, true]
def msk26 : List Bool := [false, false, false, false, false, false, false, false, false, false, true, false, false, false, false, false, false, false, false, false, false, false, false, false, false, false, false, false, false, false, false, false, false, false, false, false, false, false, false, false, false, false, false, false, false, false, false, false, false, false, false, false, false, false, false, false, false, false, false, false, false, false, false, false, false, false, false, false, false, false, false, false, false, false, false, false, false, false, false, false, false, false, false, false, false, true, false, false, false, false, false, false, false, false, false, false, false, false, false, false, false, false, false, false, false, false, false, false, false, false, false, false, false, false, false, false, false, false, false, false, false, false, false, false, false, false, false, false, false, false, false, false, false, false, false, false, false, false, false, false, false, false, false, false, false, false]
def ko_list13 (kb ko ln kc i k : Nat) (x y : KY) : List (Value → World → Prop) :=
  [IsV (.slice (some ⟨kb, ko, none⟩) ln kc),
   IsV (.int .i64 (i : Int)),
   IsV (.pointer (some ⟨kb, ko + i * 4, none⟩)),
   IsV (.agg #[.int .i64 x.st, .int .i64 x.sy, .int .i64 x.id, .int .i64 x.sq]),
   IsV (.slice (some ⟨kb, ko, none⟩) ln kc),
   IsV (.int .i64 (k : Int)),
   IsV (.pointer (some ⟨kb, ko + k * 4, none⟩)),
   IsV (.agg #[.int .i64 y.st, .int .i64 y.sy, .int .i64 y.id, .int .i64 y.sq]),
   IsV (.bool (decide (x = y)))]
theorem ko_list13_lasts (kb ko ln kc i k : Nat) (x y : KY) : ∀ p ∈ ko_list13 kb ko ln kc i k  x y , Lasts p := by
  simp only [ko_list13, List.mem_cons, List.not_mem_nil, or_false]
  rintro p hp
  repeat (rcases hp with rfl | hp; exact lasts_v _)
def ko_list31 (kb ko ln kc i j xq xc yq yc SB : Nat) : List (Value → World → Prop) :=
  [IsV (.slice (some ⟨xq, 0, none⟩) ln xc),
   IsV (.int .i64 (i : Int)),
   IsV (.pointer (some ⟨xq, i * 4, none⟩)),
   IsV (.agg #[.int .i64 2, .int .u64 ((j : Int) + 1), .int .i64 0, .slice none 0 0]),
   IsV (.slice (some ⟨yq, 0, none⟩) ln yc),
   IsV (.int .i64 (i : Int)),
   IsV (.pointer (some ⟨yq, i * 4, none⟩)),
   IsV (.agg #[.int .i64 2, .int .u64 ((j : Int) + 1), .int .i64 0, .slice none 0 0]),
   IsV (.bool true),
   IsV (.bool false),
   IsV (.bool false),
   IsV (.int .i64 ((j : Int) + 1)),
   IsV (.bool false),
   IsV (.bool false),
   IsV (.bool false),
   IsV (.int .i64 ((j : Int) + 1)),
   IsV (.slice (some ⟨kb, ko, none⟩) ln kc),
   IsV (.int .i64 (ln : Int)),
   IsV (.bool false),
   IsV (.bool false),
   IsV (.bool false),
   IsV (.int .i64 ((j : Int) + 1)),
   IsV (.pointer (some ⟨SB, j + 1, none⟩)),
   IsV (.bool false),
   IsV (.bool false)]
theorem ko_list31_lasts (kb ko ln kc i j xq xc yq yc SB : Nat) : ∀ p ∈ ko_list31 kb ko ln kc i j xq xc yq yc SB , Lasts p := by
  simp only [ko_list31, List.mem_cons, List.not_mem_nil, or_false]
  rintro p hp
  repeat (rcases hp with rfl | hp; exact lasts_v _)
def ko_list34a  : List (Value → World → Prop) :=
  [IsV (.int .i64 0),
   IsV (.bool false),
   IsV (.bool false),
   IsV undef,
   IsV undef,
   IsV undef,
   IsV undef,
   IsV undef,
   IsV undef,
   IsV undef,
   IsV undef,
   IsV undef,
   IsV undef,
   IsV undef,
   IsV undef,
   IsV undef,
   IsV undef,
   IsV undef,
   IsV undef,
   IsV undef,
   IsV (.bool false)]
theorem ko_list34a_lasts  : ∀ p ∈ ko_list34a , Lasts p := by
  simp only [ko_list34a, List.mem_cons, List.not_mem_nil, or_false]
  rintro p hp
  repeat (rcases hp with rfl | hp; exact lasts_v _)
def ko_list34b (kb ko ln kc m j0 j xq xc : Nat) (x kx : KY) : List (Value → World → Prop) :=
  [IsV (.int .i64 ((m : Int) + 1)),
   IsV (.bool true),
   IsV (.bool true),
   IsV (.slice (some ⟨kb, ko, none⟩) ln kc),
   IsV (.slice (some ⟨xq, 0, none⟩) ln xc),
   IsV (.int .i64 ((m : Int) + 1)),
   IsV (.int .i64 (m : Int)),
   IsV (.pointer (some ⟨xq, m * 4, none⟩)),
   IsV (.pointer (some ⟨xq, m * 4 + 1, none⟩)),
   IsV (.int .u64 ((j0 : Int) + 1)),
   IsV (.int .u64 (j0 : Int)),
   IsV (.pointer (some ⟨kb, ko + j0 * 4, none⟩)),
   IsV (.agg #[.int .i64 x.st, .int .i64 x.sy, .int .i64 x.id, .int .i64 x.sq]),
   IsV (.slice (some ⟨kb, ko, none⟩) ln kc),
   IsV (.int .i64 ((j : Int) + 1)),
   IsV (.int .i64 (j : Int)),
   IsV (.pointer (some ⟨kb, ko + j * 4, none⟩)),
   IsV (.agg #[.int .i64 kx.st, .int .i64 kx.sy, .int .i64 kx.id, .int .i64 kx.sq]),
   IsV (.bool true),
   IsV (.bool false),
   IsV (.bool false)]
theorem ko_list34b_lasts (kb ko ln kc m j0 j xq xc : Nat) (x kx : KY) : ∀ p ∈ ko_list34b kb ko ln kc m j0 j xq xc  x kx , Lasts p := by
  simp only [ko_list34b, List.mem_cons, List.not_mem_nil, or_false]
  rintro p hp
  repeat (rcases hp with rfl | hp; exact lasts_v _)
theorem keys_at {B : Nat} {w : World} {kb ko ln : Nat} {L : List KY} (h : KeysAt B w (some ⟨kb, ko, none⟩) ln L) (h0 : 0 < ln) {i : Nat} {x : KY} (hi : L[i]? = some x) :
    w.cell? ⟨kb, ko + i * 4, none⟩ = some (.int .i64 x.st) ∧ w.cell? ⟨kb, ko + i * 4 + 1, none⟩ = some (.int .i64 x.sy) ∧ w.cell? ⟨kb, ko + i * 4 + 2, none⟩ = some (.int .i64 x.id) ∧ w.cell? ⟨kb, ko + i * 4 + 3, none⟩ = some (.int .i64 x.sq) := by
  rcases h.2.2.2 with h1 | ⟨b, off, ha, _, hc⟩
  · omega
  · cases ha
    exact hc i x hi
set_option maxRecDepth 100000 in
set_option maxHeartbeats 8000000 in
theorem order_walk (L : List KY) (ka : Option Addr) (ln kc : Nat) (w : World) (hk : KeysAt w.heap.size w ka ln L) :
    Calls Tryz.prog 3 #[.slice ka ln kc] w fun e w' => e = .returned (.bool true) ∧ Below w.heap.size w w' := by
  have hm : ln ≤ maxLen := hk.2.1
  unfold maxLen at hm
  have HK := Lib.hid hk
  have HLEN : Hid (L.length = ln) := Lib.hid hk.1
  clear hk
  go_enter Tryz.func3, Tryz.ntmps3
  go_wp2_with fail
  refine (awake21_any w).mono ?_
  rintro e w1 ⟨rfl, hb1⟩
  have HB1 := Lib.hid hb1
  clear hb1
  by_cases h60 : 60 < ln
  · go_wp2_with fail
    go_returns
    exact ⟨rfl, HB1.out⟩
  go_wp2_with fail
  refine (cmdNew_any 64 w1 (by omega) (by omega)).mono ?_
  rintro e w2 ⟨rfl, hm2, hb2⟩
  have HM2 := Lib.hid hm2
  have HB2 := Lib.hid (HB1.out.trans (hb2.mono HB1.out.size))
  have HAB : Hid (w.heap.size ≤ w1.heap.size ∧ w1.heap.size < w2.heap.size) := Lib.hid ⟨HB1.out.size, lt_some (bufQ_blk hm2)⟩
  clear hm2 hb2 HB1
  obtain ⟨AB, hAB⟩ : ∃ AB, w1.heap.size = AB := ⟨_, rfl⟩
  rw [hAB] at HM2 HAB ⊢
  clear hAB
  go_wp2_with fail
  refine (cmdNew_any 64 w2 (by omega) (by omega)).mono ?_
  rintro e w3 ⟨rfl, hm3, hb3⟩
  have HMB := Lib.hid hm3
  have HA3 : Hid (BufS w3 AB 0 [] w3) := Lib.hid (BufS.start (HM2.out.below hb3))
  have HB3 := Lib.hid (HB2.out.trans (hb3.mono HB2.out.size))
  have HBB : Hid (w.heap.size ≤ w2.heap.size ∧ AB ≠ w2.heap.size ∧ w2.heap.size < w3.heap.size) := Lib.hid ⟨HB2.out.size, by have := HAB.out.2; omega, lt_some (bufQ_blk hm3)⟩
  clear hm3 hb3 HB2 HM2
  obtain ⟨BB, hBB⟩ : ∃ BB, w2.heap.size = BB := ⟨_, rfl⟩
  rw [hBB] at HMB HBB ⊢
  clear hBB
  go_wp2_with fail
  refine wp_loop_f mskA (fun n f wr => ∃ i : Nat, n + i = ln ∧ f 5 = .int .i64 (i : Int) ∧ (L.take i).Nodup ∧ BufS w3 AB i ((numbered L).take i) wr) ln ⟨0, rfl, rfl, by simp, HA3.out⟩ (by kernel_rfl) ?_
  intro n f wr hrel J K1 hJ hK
  dsimp only [mixF, mskA]
  generalize f 5 = f5 at hrel ⊢
  obtain ⟨i, hni, rfl, hnd, hbs⟩ := hrel
  have hbr : Below w.heap.size w wr := below_out HB3.out hbs.o HB3.out.size (fun q hq => by subst hq; exact HAB.out.1)
  have HNI := Lib.hid hni
  have HND := Lib.hid hnd
  have HBS := Lib.hid hbs
  have HBR := Lib.hid hbr
  clear hni hnd hbs hbr HA3
  by_cases hil : i < ln
  · obtain ⟨kb, ko, x, rfl, _, hxi, hxw, _⟩ := HK.out.get hil
    have i1 : (0 : Int) ≤ (i : Int) := by omega
    have i2 : (i : Int) < (ln : Int) := by omega
    have hpos : 0 < ln := by omega
    have HXI := Lib.hid hxi
    have HXW := Lib.hid hxw
    clear hxi hxw
    go_wp2_with fail
    refine wp_loop_f mskB (fun n f wq => ∃ k : Nat, n + k = i ∧ f 6 = .int .i64 (k : Int) ∧ (∀ j < k, L[j]? ≠ some x) ∧ Below wr.heap.size wr wq) i ⟨0, rfl, rfl, (fun j hj => by omega), Below.refl _ _⟩ (by kernel_rfl) ?_
    as_aux_lemma =>
      intro n2 f wq hrel2 J2 K2 hJ2 hK2
      dsimp only [mixF, mskB]
      generalize f 6 = f6 at hrel2 ⊢
      obtain ⟨k, hnk, rfl, hno, hbq⟩ := hrel2
      have HNK := Lib.hid hnk
      have HNO := Lib.hid hno
      have HBQ := Lib.hid hbq
      have HBWQ := Lib.hid (HBR.out.trans (hbq.mono HBR.out.size))
      clear hnk hno hbq
      by_cases hki : k < i
      · have k1 : (0 : Int) ≤ (k : Int) := by omega
        have k2 : (k : Int) < (i : Int) := by omega
        have k3 : (k : Int) < (ln : Int) := by omega
        obtain ⟨y, hyi⟩ : ∃ y, L[k]? = some y := ⟨_, List.getElem?_eq_getElem (by rw [HLEN.out]; omega)⟩
        have hxi := HXI.out
        have HKC : Hid (∀ w' : World, Below wq.heap.size wq w' → ∀ (i : Nat) (x : KY), L[i]? = some x → w'.cell? ⟨kb, ko + i * 4, none⟩ = some (.int .i64 x.st) ∧ w'.cell? ⟨kb, ko + i * 4 + 1, none⟩ = some (.int .i64 x.sy) ∧ w'.cell? ⟨kb, ko + i * 4 + 2, none⟩ = some (.int .i64 x.id) ∧ w'.cell? ⟨kb, ko + i * 4 + 3, none⟩ = some (.int .i64 x.sq)) := Lib.hid (fun w' hb i x hx => keys_at (HK.out.below (HBWQ.out.trans (hb.mono HBWQ.out.size))) hpos hx)
        go_wp2_with fail
        refine wp_region_frame (by kernel_rfl) (by kernel_rfl) (by kernel_rfl) (byList (ko_list13 kb ko ln kc i k x y)) (lasts_list (ko_list13_lasts kb ko ln kc i k x y)) ?_ ?_
        · as_aux_lemma =>
            intro vs w' iq o A F hb ho hd
            have m0 : A.tmps[0]?.getD undef = (.slice (some ⟨kb, ko, none⟩) ln kc) := F.m (by kernel_rfl) rfl
            have m5 : A.tmps[5]?.getD undef = (.int .i64 (i : Int)) := F.m (by kernel_rfl) rfl
            have m6 : A.tmps[6]?.getD undef = (.int .i64 (k : Int)) := F.m (by kernel_rfl) rfl
            have G := F.light (n := 146) (by kernel_rfl)
            clear F
            have hkx := HKC.out w' hb i x hxi
            have hky := HKC.out w' hb k y hyi
            obtain ⟨x0, x1, x2, x3⟩ := hkx
            obtain ⟨y0, y1, y2, y3⟩ := hky
            clear hb
            revert ho hd
            match iq with
            | 0 => intro ho hd; obtain rfl := (Option.some.inj ho).symm; clear hd ho; refine step_open rfl ?_; clear G; exact step_run (v := (.slice (some ⟨kb, ko, none⟩) ln kc)) (by go_simp) rfl
            | 1 => intro ho hd; obtain rfl := (Option.some.inj ho).symm; clear hd ho; refine step_open rfl ?_; clear G; exact step_run (v := (.int .i64 (i : Int))) (by go_simp) rfl
            | 2 => intro ho hd; obtain rfl := (Option.some.inj ho).symm; have d0 : vs 0 = (.slice (some ⟨kb, ko, none⟩) ln kc) := hd ⟨0, .data⟩ (by simp) rfl; have d1 : vs 1 = (.int .i64 (i : Int)) := hd ⟨1, .data⟩ (by simp) rfl; clear hd ho; have h31 := G.h (j := 0) (d := 31) rfl (by decide) d0; have h32 := G.h (j := 1) (d := 32) rfl (by decide) d1; refine step_open rfl ?_; clear G; exact step_run (v := (.pointer (some ⟨kb, ko + i * 4, none⟩))) (by go_simp) rfl
            | 3 => intro ho hd; obtain rfl := (Option.some.inj ho).symm; have d2 : vs 2 = (.pointer (some ⟨kb, ko + i * 4, none⟩)) := hd ⟨2, .data⟩ (by simp) rfl; clear hd ho; have h33 := G.h (j := 2) (d := 33) rfl (by decide) d2; refine step_open rfl ?_; clear G; exact step_run (v := (.agg #[.int .i64 x.st, .int .i64 x.sy, .int .i64 x.id, .int .i64 x.sq])) (by go_simp) rfl
            | 4 => intro ho hd; obtain rfl := (Option.some.inj ho).symm; clear hd ho; refine step_open rfl ?_; clear G; exact step_run (v := (.slice (some ⟨kb, ko, none⟩) ln kc)) (by go_simp) rfl
            | 5 => intro ho hd; obtain rfl := (Option.some.inj ho).symm; clear hd ho; refine step_open rfl ?_; clear G; exact step_run (v := (.int .i64 (k : Int))) (by go_simp) rfl
            | 6 => intro ho hd; obtain rfl := (Option.some.inj ho).symm; have d4 : vs 4 = (.slice (some ⟨kb, ko, none⟩) ln kc) := hd ⟨4, .data⟩ (by simp) rfl; have d5 : vs 5 = (.int .i64 (k : Int)) := hd ⟨5, .data⟩ (by simp) rfl; clear hd ho; have h35 := G.h (j := 4) (d := 35) rfl (by decide) d4; have h36 := G.h (j := 5) (d := 36) rfl (by decide) d5; refine step_open rfl ?_; clear G; exact step_run (v := (.pointer (some ⟨kb, ko + k * 4, none⟩))) (by go_simp) rfl
            | 7 => intro ho hd; obtain rfl := (Option.some.inj ho).symm; have d6 : vs 6 = (.pointer (some ⟨kb, ko + k * 4, none⟩)) := hd ⟨6, .data⟩ (by simp) rfl; clear hd ho; have h37 := G.h (j := 6) (d := 37) rfl (by decide) d6; refine step_open rfl ?_; clear G; exact step_run (v := (.agg #[.int .i64 y.st, .int .i64 y.sy, .int .i64 y.id, .int .i64 y.sq])) (by go_simp) rfl
            | 8 => intro ho hd; obtain rfl := (Option.some.inj ho).symm; have d3 : vs 3 = (.agg #[.int .i64 x.st, .int .i64 x.sy, .int .i64 x.id, .int .i64 x.sq]) := hd ⟨3, .data⟩ (by simp) rfl; have d7 : vs 7 = (.agg #[.int .i64 y.st, .int .i64 y.sy, .int .i64 y.id, .int .i64 y.sq]) := hd ⟨7, .data⟩ (by simp) rfl; clear hd ho; have h34 := G.h (j := 3) (d := 34) rfl (by decide) d3; have h38 := G.h (j := 7) (d := 38) rfl (by decide) d7; refine step_open rfl ?_; clear G; exact step_run (v := .bool (decide (x = y))) (key_eql x y _ _ _ _ _ _ _ _ _ (eval_of h34) (eval_of h38)) rfl
            | n + 9 => intro ho hd; simp at ho
        · intro vs w' hb hR
          have hv : vs 8 = .bool (decide (x = y)) := hR 8 (by simp)
          simp only [putAll, Act.put, List.setIfInBounds_toArray, List.set_cons_succ, List.set_cons_zero]
          rw [hv]
          have HBN := Lib.hid hb
          clear hR hb hv
          by_cases hxy : x = y
          · have g : decide (x = y) = true := decide_eq_true hxy
            rw [g]
            clear g
            go_wp2_with fail
            go_returns
            exact ⟨rfl, HBWQ.out.trans (HBN.out.mono HBWQ.out.size)⟩
          · have g : decide (x = y) = false := decide_eq_false hxy
            rw [g]
            clear g
            go_wp2_with fail
            refine Handed.intro (n2 - 1) (by have := HNK.out; omega) (hJ2 _ _ _ ?_ (by kernel_rfl))
            refine ⟨k + 1, by have := HNK.out; omega, by go_num, fun j hj => ?_, HBQ.out.trans (HBN.out.mono HBQ.out.size)⟩
            rcases Nat.lt_or_ge j k with hjk | hjk
            · exact HNO.out j hjk
            · obtain rfl : j = k := by omega
              rw [hyi]
              intro e
              cases e
              exact hxy rfl
      · obtain rfl : k = i := by have := HNK.out; omega
        have hxi := HXI.out
        have HPU := Lib.hid (buf_push (HBS.out.below HBQ.out) (by rw [List.length_take, numbered_len, HLEN.out]; omega) (by omega) x HXW.out ((k : Int) + 1))
        have hKC := keys_at (HK.out.below HBWQ.out) hpos hxi
        obtain ⟨x0, x1, x2, x3⟩ := hKC
        go_wp2_with fail
        refine HPU.out.mono ?_
        rintro e w5 ⟨rfl, hbs5⟩
        have HBS5 := Lib.hid hbs5
        have HND5 := Lib.hid (nodup_snoc hxi HND.out HNO.out)
        have HXI5 := Lib.hid hxi
        clear hbs5 hxi x0 x1 x2 x3 HPU
        go_wp2_with fail
        refine Handed.intro (n - 1) (by have := HNI.out; omega) (hJ _ _ _ ?_ (by kernel_rfl))
        exact ⟨k + 1, by have := HNI.out; omega, by go_num, HND5.out, by rw [numbered_take HXI5.out]; exact HBS5.out⟩
  · obtain rfl : ln = i := by have := HNI.out; omega
    have HND : Hid (L.Nodup) := Lib.hid (by have := HND.out; rw [← HLEN.out, List.take_length] at this; exact this)
    have HBS : Hid (BufS w3 AB ln (numbered L) wr) := Lib.hid (by have := HBS.out; rw [← HLEN.out, ← numbered_len L, List.take_length] at this; rw [numbered_len L, HLEN.out] at this; exact this)
    have hQB : QMem wr (bufQ BB 64 0 none 0 []) := HMB.out.out HBS.out.o (fun q hq hf => by
      rcases hq with hq | hq
      · exact HBB.out.2.1 (hf.symm.trans hq)
      · simp [QD.v, bufQ, Value.ownBlock] at hq)
    have HBT0 : Hid (BufS wr BB 0 [] wr) := Lib.hid (BufS.start hQB)
    have HBQB := Lib.hid (bufQ_blk hQB)
    clear hQB HMB
    go_wp2_with fail
    refine wp_loop_f mskC (fun n f wq => ∃ t : Int, f 7 = .int .i64 t ∧ ((∃ j : Nat, t = (j : Int) ∧ n = j + 1 ∧ j < ln ∧ BufS wr BB (ln - (j + 1)) ((numbered L).drop (j + 1)) wq) ∨ (t = -1 ∧ BufS wr BB ln (numbered L) wq))) ln ?_ (by kernel_rfl) ?_
    · rcases Nat.eq_zero_or_pos ln with h0 | h0
      · subst h0
        refine ⟨-1, by go_num, .inr ⟨rfl, ?_⟩⟩
        rw [List.eq_nil_of_length_eq_zero HLEN.out]
        exact HBT0.out
      · refine ⟨(ln : Int) - 1, by go_num, .inl ⟨ln - 1, by omega, by omega, by omega, ?_⟩⟩
        rw [show ln - (ln - 1 + 1) = 0 by omega, show ln - 1 + 1 = ln by omega, List.drop_eq_nil_of_le (by rw [numbered_len, HLEN.out]; exact Nat.le_refl _)]
        exact HBT0.out
    as_aux_lemma =>
      intro n2 f wq hrel2 J2 K2 hJ2 hK2
      dsimp only [mixF, mskC]
      generalize f 7 = f7 at hrel2 ⊢
      obtain ⟨t, rfl, hor⟩ := hrel2
      rcases hor with ⟨j, rfl, hn, hji, hbs⟩ | ⟨rfl, hbs⟩
      · as_aux_lemma =>
          have HBWQ : Hid (Below w.heap.size w wq) := Lib.hid (below_out HBR.out hbs.o HBR.out.size (fun q hq => by subst hq; exact HBB.out.1))
          obtain ⟨kb, ko, x, rfl, _, hxi, hxw, x0, x1, x2, x3⟩ := (HK.out.below HBWQ.out).get hji
          have i1 : (0 : Int) ≤ (j : Int) := by omega
          have i2 : (j : Int) < (ln : Int) := by omega
          have hll : ((numbered L).drop (j + 1)).length = ln - (j + 1) := by rw [List.length_drop, numbered_len, HLEN.out]
          have HPU := Lib.hid (buf_push hbs hll (by omega) x hxw ((j : Int) + 1))
          have HXI := Lib.hid hxi
          clear hbs hxi hxw hll
          go_wp2_with fail
          refine HPU.out.mono ?_
          rintro e w5 ⟨rfl, hbs5⟩
          have HBS5 : Hid (BufS wr BB (ln - j) ((numbered L).drop j) w5) := Lib.hid (by
            rw [show ln - (j + 1) + 1 = ln - j by omega] at hbs5
            refine hbs5.perm ?_
            rw [numbered_drop HXI.out]
            exact List.perm_append_singleton _ _)
          have HN2 := Lib.hid hn
          clear hbs5 x0 x1 x2 x3 HPU hn
          go_wp2_with fail
          refine Handed.intro (n2 - 1) (by have := HN2.out; omega) (hJ2 _ _ _ ?_ (by kernel_rfl))
          rcases Nat.eq_zero_or_pos j with h0 | h0
          · subst h0
            exact ⟨-1, by go_num, .inr ⟨rfl, HBS5.out⟩⟩
          · refine ⟨(j : Int) - 1, by go_num, .inl ⟨j - 1, by omega, by have := HN2.out; omega, by omega, ?_⟩⟩
            rw [show j - 1 + 1 = j by omega]
            exact HBS5.out
      · as_aux_lemma =>
          have HBWQ : Hid (Below w.heap.size w wq) := Lib.hid (below_out HBR.out hbs.o HBR.out.size (fun q hq => by subst hq; exact HBB.out.1))
          have hA : BufI AB L.length (numbered L) wq := by rw [HLEN.out]; exact HBS.out.i.apart hbs.o HBB.out.2.1 HBQB.out
          have hBi : BufI BB L.length (numbered L) wq := by rw [HLEN.out]; exact hbs.i
          have HLA := Lib.hid (buf_list hA HND.out (by rw [HLEN.out]; omega))
          have HBI := Lib.hid hBi
          clear hbs hA hBi
          go_wp2_with fail
          refine HLA.out.mono ?_
          rintro e w5 ⟨P, xa, xc, rfl, hrx, hor, hb5⟩
          have HRX5 := Lib.hid hrx
          have HOR := Lib.hid hor
          have HB5 := Lib.hid (HBWQ.out.trans (hb5.mono HBWQ.out.size))
          have HLB := Lib.hid (buf_list (HBI.out.below hb5) HND.out (by rw [HLEN.out]; omega))
          clear hrx hor hb5 HLA HBI
          go_wp2_with fail
          refine HLB.out.mono ?_
          rintro e w6 ⟨P', ya, yc, rfl, hry, hor', hb6⟩
          obtain rfl := HOR.out.one hor'
          rw [HLEN.out] at HRX5 hry ⊢
          have HRX6 := Lib.hid (HRX5.out.below hb6)
          have HRY6 := Lib.hid hry
          have HB6 := Lib.hid (HB5.out.trans (hb6.mono HB5.out.size))
          clear hry hor' hb6 HLB HRX5 HB5
          go_upto_region 26 with (fail)
          refine wp_cut_f msk26 (fun f wx => f 10 = .pointer (some ⟨w6.heap.size, 0, none⟩) ∧ w6.alloc (.cells (metC []) 37) = wx) ?_ ?_
          rotate_left
          · as_aux_lemma =>
              intro J2 K2 hJ2 hK2
              refine wp_region_lit ?_
              refine wpList_buildC rfl 37 #[] rfl (metC []) (by kernel_rfl) ?_
              refine wpList_plain rfl fun K3 hK3 => wp_runW (met_alloc _ _ _ _ _ _ _) (hK3 _ _ ?_)
              refine wpList_store_row rfl 37 (.tmp 10) (.tmp 85) rfl w6.heap.size (metC []) rfl rfl 37 (metC []) (heap_alloc_new _ _) (by kernel_rfl) rfl (by kernel_rfl) ?_
              rw [World.setRow_alloc_new]
              refine wpList_nil ?_
              simp only [Act.put, List.setIfInBounds_toArray, List.set_cons_succ, List.set_cons_zero]
              exact hK2 _ _ (Met.intro (hJ2 _ _ ⟨rfl, rfl⟩ (by kernel_rfl)))
          intro f wc hcut
          dsimp only [mixF, msk26]
          generalize f 10 = f10 at hcut ⊢
          obtain ⟨rfl, rfl⟩ := hcut
          have hb7 : Below w6.heap.size w6 (w6.alloc (.cells (metC []) 37)) := (Below.refl _ _).alloc (Nat.le_refl _) _
          have hs7 := heap_alloc_new w6 (.cells (metC []) 37)
          have hSB1 : w.heap.size ≤ w6.heap.size := HB6.out.size
          have HB7 := Lib.hid (HB6.out.trans (hb7.mono HB6.out.size))
          have HB67 := Lib.hid hb7
          have HS7 := Lib.hid hs7
          clear hb7 hs7
          generalize w6.alloc (.cells (metC []) 37) = w7 at *
          obtain ⟨SB, hSB⟩ : ∃ SB, w6.heap.size = SB := ⟨_, rfl⟩
          have HSB : Hid (w6.heap.size = SB) := Lib.hid hSB
          have HSW : Hid (w.heap.size ≤ SB) := Lib.hid (hSB ▸ hSB1)
          rw [hSB] at HS7 ⊢
          clear hSB hSB1 HB6
          go_wp2_with fail
          refine wp_loop_f mskD (fun n f wu => ∃ i : Nat, n + i = ln ∧ f 11 = .int .i64 (i : Int) ∧ wu.heap[SB]? = some (.cells (metC ((P.take i).map (·.2))) 37 (0, 0)) ∧ Out (fun q => q = SB) w7 wu) ln ⟨0, rfl, rfl, HS7.out, Out.refl _ _⟩ (by kernel_rfl) ?_
          as_aux_lemma =>
            intro n2 f wu hrel2 J2 K2 hJ2 hK2
            dsimp only [mixF, mskD]
            generalize f 11 = f11 at hrel2 ⊢
            obtain ⟨i, hni, rfl, hse, hou⟩ := hrel2
            have HNI2 := Lib.hid hni
            have HSE := Lib.hid hse
            have HOU := Lib.hid hou
            have HBWU : Hid (Below w.heap.size w wu) := Lib.hid (below_out HB7.out hou HB7.out.size (fun q hq => by subst hq; exact HSW.out))
            clear hni hse hou HS7 HNI
            by_cases hlt : i < ln
            · have hpos : 0 < ln := by omega
              obtain ⟨xq, rfl, hxs, hxr⟩ : ∃ q, xa = some ⟨q, 0, none⟩ ∧ q ≠ SB ∧ RowAt ln P q wu := by
                rcases HRX6.out with h | ⟨q, h1, h2⟩
                · omega
                · exact ⟨q, h1, (by have := h2.1; have := HSB.out; omega), (h2.below HB67.out).out HOU.out (fun e => by have := h2.1; have := HSB.out; omega)⟩
              obtain ⟨yq, rfl, hyr⟩ : ∃ q, ya = some ⟨q, 0, none⟩ ∧ RowAt ln P q wu := by
                rcases HRY6.out with h | ⟨q, h1, h2⟩
                · omega
                · exact ⟨q, h1, (h2.below HB67.out).out HOU.out (fun e => by have := h2.1; have := HSB.out; omega)⟩
              have HRX := Lib.hid hxr
              have HXS := Lib.hid hxs
              clear hxs
              have HRY := Lib.hid hyr
              clear hxr hyr HRX6 HRY6
              obtain ⟨kk, ee, hpi⟩ : ∃ kk ee, P[i]? = some (kk, ee) := by
                have hl : i < P.length := by rw [HOR.out.len, HLEN.out]; exact hlt
                exact ⟨_, _, List.getElem?_eq_getElem hl⟩
              obtain ⟨j, hyj, rfl, hjl⟩ := HOR.out.at_ hpi
              rw [HLEN.out] at hjl
              obtain ⟨kb, ko, kx, rfl, _, hkx, hkw, _⟩ := HK.out.get hjl
              obtain rfl : kx = kk := by rw [hyj] at hkx; cases hkx; rfl
              have HNM : Hid (decide (((j + 1 : Nat) : Int) ∈ (P.take i).map (·.2)) = false) := Lib.hid (decide_eq_false (fun hmem => by
                have hnd := HOR.out.nums
                obtain ⟨r, hr1, hr2⟩ := List.mem_map.1 hmem
                obtain ⟨z, hz⟩ := List.getElem?_of_mem hr1
                rw [List.getElem?_take] at hz
                split at hz
                · rename_i hzi
                  have h1 : (P.map (·.2))[z]? = some ((j : Int) + 1) := by rw [List.getElem?_map, hz]; simp [hr2]
                  have h2 : (P.map (·.2))[i]? = some ((j : Int) + 1) := by rw [List.getElem?_map, hpi]; rfl
                  obtain ⟨a1, a2⟩ := List.getElem?_eq_some_iff.1 h1
                  obtain ⟨b1, b2⟩ := List.getElem?_eq_some_iff.1 h2
                  have h3 := List.pairwise_iff_getElem.1 hnd z i a1 b1 hzi
                  exact h3 (a2.trans b2.symm)
                · cases hz))
              have i1 : (0 : Int) ≤ (i : Int) := by omega
              have i2 : (i : Int) < (ln : Int) := by omega
              obtain ⟨x0, x1, x2, x3⟩ := HRX.out.2 i kx _ hlt hpi
              have HKX := Lib.hid hkx
              have HKW := Lib.hid hkw
              have HYJ := Lib.hid hyj
              have HPI := Lib.hid hpi
              clear hkx hkw hyj hpi
              go_wp2_with fail
              clear x0 x1 x2 x3
              have hpi := HPI.out
              refine wp_region_frame (by kernel_rfl) (by kernel_rfl) (by kernel_rfl) (byList (ko_list31 kb ko ln kc i j xq xc yq yc SB)) (lasts_list (ko_list31_lasts kb ko ln kc i j xq xc yq yc SB)) ?_ ?_
              · as_aux_lemma =>
                  intro vs w' iq o A F hb ho hd
                  have m0 : A.tmps[0]?.getD undef = (.slice (some ⟨kb, ko, none⟩) ln kc) := F.m (by kernel_rfl) rfl
                  have m8 : A.tmps[8]?.getD undef = (.slice (some ⟨xq, 0, none⟩) ln xc) := F.m (by kernel_rfl) rfl
                  have m9 : A.tmps[9]?.getD undef = (.slice (some ⟨yq, 0, none⟩) ln yc) := F.m (by kernel_rfl) rfl
                  have m10 : A.tmps[10]?.getD undef = (.pointer (some ⟨SB, 0, none⟩)) := F.m (by kernel_rfl) rfl
                  have m11 : A.tmps[11]?.getD undef = (.int .i64 (i : Int)) := F.m (by kernel_rfl) rfl
                  have m12 : A.tmps[12]?.getD undef = (.int .i64 ((j : Int) + 1)) := F.m (by kernel_rfl) rfl
                  have G := F.light (n := 146) (by kernel_rfl)
                  clear F
                  obtain ⟨x0, x1, x2, x3⟩ := (HRX.out.below hb).2 i kx _ hlt hpi
                  obtain ⟨y0, y1, y2, y3⟩ := (HRY.out.below hb).2 i kx _ hlt hpi
                  have s9 := cell_at (keep hb HSE.out) (j + 1)
                  rw [metC_at (by omega), HNM.out] at s9
                  have e1 : (1 : Int) ≤ (j : Int) + 1 := by omega
                  have e2 : (j : Int) + 1 ≤ (ln : Int) := by omega
                  have e3 : (j : Int) + 1 < 64 := by omega
                  have e4 : (0 : Int) ≤ (j : Int) + 1 := by omega
                  clear hb
                  revert ho hd
                  match iq with
                  | 0 => intro ho hd; obtain rfl := (Option.some.inj ho).symm; clear hd ho; refine step_open rfl ?_; clear G; exact step_run (v := (.slice (some ⟨xq, 0, none⟩) ln xc)) (by go_simp) rfl
                  | 1 => intro ho hd; obtain rfl := (Option.some.inj ho).symm; clear hd ho; refine step_open rfl ?_; clear G; exact step_run (v := (.int .i64 (i : Int))) (by go_simp) rfl
                  | 2 => intro ho hd; obtain rfl := (Option.some.inj ho).symm; have d0 : vs 0 = (.slice (some ⟨xq, 0, none⟩) ln xc) := hd ⟨0, .data⟩ (by simp) rfl; have d1 : vs 1 = (.int .i64 (i : Int)) := hd ⟨1, .data⟩ (by simp) rfl; clear hd ho; have h98 := G.h (j := 0) (d := 98) rfl (by decide) d0; have h99 := G.h (j := 1) (d := 99) rfl (by decide) d1; refine step_open rfl ?_; clear G; exact step_run (v := (.pointer (some ⟨xq, i * 4, none⟩))) (by go_simp) rfl
                  | 3 => intro ho hd; obtain rfl := (Option.some.inj ho).symm; have d2 : vs 2 = (.pointer (some ⟨xq, i * 4, none⟩)) := hd ⟨2, .data⟩ (by simp) rfl; clear hd ho; have h100 := G.h (j := 2) (d := 100) rfl (by decide) d2; refine step_open rfl ?_; clear G; exact step_run (v := (.agg #[.int .i64 2, .int .u64 ((j : Int) + 1), .int .i64 0, .slice none 0 0])) (by go_simp) rfl
                  | 4 => intro ho hd; obtain rfl := (Option.some.inj ho).symm; clear hd ho; refine step_open rfl ?_; clear G; exact step_run (v := (.slice (some ⟨yq, 0, none⟩) ln yc)) (by go_simp) rfl
                  | 5 => intro ho hd; obtain rfl := (Option.some.inj ho).symm; clear hd ho; refine step_open rfl ?_; clear G; exact step_run (v := (.int .i64 (i : Int))) (by go_simp) rfl
                  | 6 => intro ho hd; obtain rfl := (Option.some.inj ho).symm; have d4 : vs 4 = (.slice (some ⟨yq, 0, none⟩) ln yc) := hd ⟨4, .data⟩ (by simp) rfl; have d5 : vs 5 = (.int .i64 (i : Int)) := hd ⟨5, .data⟩ (by simp) rfl; clear hd ho; have h102 := G.h (j := 4) (d := 102) rfl (by decide) d4; have h103 := G.h (j := 5) (d := 103) rfl (by decide) d5; refine step_open rfl ?_; clear G; exact step_run (v := (.pointer (some ⟨yq, i * 4, none⟩))) (by go_simp) rfl
                  | 7 => intro ho hd; obtain rfl := (Option.some.inj ho).symm; have d6 : vs 6 = (.pointer (some ⟨yq, i * 4, none⟩)) := hd ⟨6, .data⟩ (by simp) rfl; clear hd ho; have h104 := G.h (j := 6) (d := 104) rfl (by decide) d6; refine step_open rfl ?_; clear G; exact step_run (v := (.agg #[.int .i64 2, .int .u64 ((j : Int) + 1), .int .i64 0, .slice none 0 0])) (by go_simp) rfl
                  | 8 => intro ho hd; obtain rfl := (Option.some.inj ho).symm; have d3 : vs 3 = (.agg #[.int .i64 2, .int .u64 ((j : Int) + 1), .int .i64 0, .slice none 0 0]) := hd ⟨3, .data⟩ (by simp) rfl; have d7 : vs 7 = (.agg #[.int .i64 2, .int .u64 ((j : Int) + 1), .int .i64 0, .slice none 0 0]) := hd ⟨7, .data⟩ (by simp) rfl; clear hd ho; have h101 := G.h (j := 3) (d := 101) rfl (by decide) d3; have h105 := G.h (j := 7) (d := 105) rfl (by decide) d7; refine step_open rfl ?_; clear G; go_simp; refine (same_row _ _).mono ?_; rintro e w9 ⟨rfl, hb9⟩; exact ⟨_, rfl, rfl, hb9⟩
                  | 9 => intro ho hd; obtain rfl := (Option.some.inj ho).symm; have d8 : vs 8 = (.bool true) := hd ⟨8, .data⟩ (by simp) rfl; clear hd ho; have h106 := G.h (j := 8) (d := 106) rfl (by decide) d8; refine step_open rfl ?_; clear G; exact step_run (v := (.bool false)) (by go_simp) rfl
                  | 10 => intro ho hd; obtain rfl := (Option.some.inj ho).symm; have d9 : vs 9 = (.bool false) := hd ⟨9, .data⟩ (by simp) rfl; clear hd ho; have h107 := G.h (j := 9) (d := 107) rfl (by decide) d9; refine step_open rfl ?_; clear G; exact step_run (v := (.bool false)) (by go_simp) rfl
                  | 11 => intro ho hd; obtain rfl := (Option.some.inj ho).symm; have d10 : vs 10 = (.bool false) := hd ⟨10, .guard⟩ (by simp) rfl; clear hd ho; refine step_yes G rfl rfl (by decide) d10 ?_; clear G; exact step_run (v := (.int .i64 ((j : Int) + 1))) (by go_simp) rfl
                  | 12 => intro ho hd; obtain rfl := (Option.some.inj ho).symm; have d11 : vs 11 = (.int .i64 ((j : Int) + 1)) := hd ⟨11, .data⟩ (by simp) rfl; have d10 : vs 10 = (.bool false) := hd ⟨10, .guard⟩ (by simp) rfl; clear hd ho; have h109 := G.h (j := 11) (d := 109) rfl (by decide) d11; refine step_yes G rfl rfl (by decide) d10 ?_; clear G; exact step_run (v := (.bool false)) (by go_simp) rfl
                  | 13 => intro ho hd; obtain rfl := (Option.some.inj ho).symm; have d10 : vs 10 = (.bool false) := hd ⟨10, .data⟩ (by simp) rfl; have d12 : vs 12 = (.bool false) := hd ⟨12, .data⟩ (by simp) rfl; clear hd ho; have h108 := G.h (j := 10) (d := 108) rfl (by decide) d10; have h110 := G.h (j := 12) (d := 110) rfl (by decide) d12; refine step_open rfl ?_; clear G; exact step_run (v := (.bool false)) (by go_simp) rfl
                  | 14 => intro ho hd; obtain rfl := (Option.some.inj ho).symm; have d13 : vs 13 = (.bool false) := hd ⟨13, .data⟩ (by simp) rfl; clear hd ho; have h111 := G.h (j := 13) (d := 111) rfl (by decide) d13; refine step_open rfl ?_; clear G; exact step_run (v := (.bool false)) (by go_simp) rfl
                  | 15 => intro ho hd; obtain rfl := (Option.some.inj ho).symm; have d14 : vs 14 = (.bool false) := hd ⟨14, .guard⟩ (by simp) rfl; clear hd ho; refine step_yes G rfl rfl (by decide) d14 ?_; clear G; exact step_run (v := (.int .i64 ((j : Int) + 1))) (by go_simp) rfl
                  | 16 => intro ho hd; obtain rfl := (Option.some.inj ho).symm; have d14 : vs 14 = (.bool false) := hd ⟨14, .guard⟩ (by simp) rfl; clear hd ho; refine step_yes G rfl rfl (by decide) d14 ?_; clear G; exact step_run (v := (.slice (some ⟨kb, ko, none⟩) ln kc)) (by go_simp) rfl
                  | 17 => intro ho hd; obtain rfl := (Option.some.inj ho).symm; have d16 : vs 16 = (.slice (some ⟨kb, ko, none⟩) ln kc) := hd ⟨16, .data⟩ (by simp) rfl; have d14 : vs 14 = (.bool false) := hd ⟨14, .guard⟩ (by simp) rfl; clear hd ho; have h114 := G.h (j := 16) (d := 114) rfl (by decide) d16; refine step_yes G rfl rfl (by decide) d14 ?_; clear G; exact step_run (v := (.int .i64 (ln : Int))) (by go_simp) rfl
                  | 18 => intro ho hd; obtain rfl := (Option.some.inj ho).symm; have d15 : vs 15 = (.int .i64 ((j : Int) + 1)) := hd ⟨15, .data⟩ (by simp) rfl; have d17 : vs 17 = (.int .i64 (ln : Int)) := hd ⟨17, .data⟩ (by simp) rfl; have d14 : vs 14 = (.bool false) := hd ⟨14, .guard⟩ (by simp) rfl; clear hd ho; have h113 := G.h (j := 15) (d := 113) rfl (by decide) d15; have h115 := G.h (j := 17) (d := 115) rfl (by decide) d17; refine step_yes G rfl rfl (by decide) d14 ?_; clear G; exact step_run (v := (.bool false)) (by go_simp) rfl
                  | 19 => intro ho hd; obtain rfl := (Option.some.inj ho).symm; have d14 : vs 14 = (.bool false) := hd ⟨14, .data⟩ (by simp) rfl; have d18 : vs 18 = (.bool false) := hd ⟨18, .data⟩ (by simp) rfl; clear hd ho; have h112 := G.h (j := 14) (d := 112) rfl (by decide) d14; have h116 := G.h (j := 18) (d := 116) rfl (by decide) d18; refine step_open rfl ?_; clear G; exact step_run (v := (.bool false)) (by go_simp) rfl
                  | 20 => intro ho hd; obtain rfl := (Option.some.inj ho).symm; have d19 : vs 19 = (.bool false) := hd ⟨19, .data⟩ (by simp) rfl; clear hd ho; have h117 := G.h (j := 19) (d := 117) rfl (by decide) d19; refine step_open rfl ?_; clear G; exact step_run (v := (.bool false)) (by go_simp) rfl
                  | 21 => intro ho hd; obtain rfl := (Option.some.inj ho).symm; have d20 : vs 20 = (.bool false) := hd ⟨20, .guard⟩ (by simp) rfl; clear hd ho; refine step_yes G rfl rfl (by decide) d20 ?_; clear G; exact step_run (v := (.int .i64 ((j : Int) + 1))) (by go_simp) rfl
                  | 22 => intro ho hd; obtain rfl := (Option.some.inj ho).symm; have d21 : vs 21 = (.int .i64 ((j : Int) + 1)) := hd ⟨21, .data⟩ (by simp) rfl; have d20 : vs 20 = (.bool false) := hd ⟨20, .guard⟩ (by simp) rfl; clear hd ho; have h119 := G.h (j := 21) (d := 119) rfl (by decide) d21; refine step_yes G rfl rfl (by decide) d20 ?_; clear G; exact step_run (v := (.pointer (some ⟨SB, j + 1, none⟩))) (by go_simp) rfl
                  | 23 => intro ho hd; obtain rfl := (Option.some.inj ho).symm; have d22 : vs 22 = (.pointer (some ⟨SB, j + 1, none⟩)) := hd ⟨22, .data⟩ (by simp) rfl; have d20 : vs 20 = (.bool false) := hd ⟨20, .guard⟩ (by simp) rfl; clear hd ho; have h120 := G.h (j := 22) (d := 120) rfl (by decide) d22; refine step_yes G rfl rfl (by decide) d20 ?_; clear G; exact step_run (v := (.bool false)) (by go_simp) rfl
                  | 24 => intro ho hd; obtain rfl := (Option.some.inj ho).symm; have d20 : vs 20 = (.bool false) := hd ⟨20, .data⟩ (by simp) rfl; have d23 : vs 23 = (.bool false) := hd ⟨23, .data⟩ (by simp) rfl; clear hd ho; have h118 := G.h (j := 20) (d := 118) rfl (by decide) d20; have h121 := G.h (j := 23) (d := 121) rfl (by decide) d23; refine step_open rfl ?_; clear G; exact step_run (v := (.bool false)) (by go_simp) rfl
                  | n + 25 => intro ho hd; simp at ho
              · intro vs w' hb hR
                have hv : vs 24 = .bool false := hR 24 (by simp)
                simp only [putAll, Act.put, List.setIfInBounds_toArray, List.set_cons_succ, List.set_cons_zero]
                rw [hv]
                have hs1 := keep hb HSE.out
                have s2 := cell_at hs1 (j + 1)
                have s3 := free_at hs1 (j + 1)
                rw [metC_at (by omega)] at s2
                have HS1 := Lib.hid hs1
                have HBN := Lib.hid hb
                clear hR hb hv hs1
                go_wp2_with fail
                have hs4 : (w'.setCell ⟨SB, j + 1, none⟩ (.bool true)).heap[SB]? = some (.cells (metC ((P.take (i + 1)).map (·.2))) 37 (0, 0)) := by
                  have := hset w' SB (j + 1) (.bool true) _ _ _ HS1.out
                  rw [metC_set (by omega)] at this
                  rw [this, List.take_add_one, HPI.out, List.map_append]
                  rfl
                have ho4 : Out (fun q => q = SB) wu (w'.setCell ⟨SB, j + 1, none⟩ (.bool true)) := (Out.of HBN.out : Out (fun q => q = SB) wu w').trans (Out.only (Only.at w' SB (j + 1) _) rfl) (fun q hq => .inl hq.symm)
                have HS4 := Lib.hid hs4
                have HO4 := Lib.hid ho4
                clear hs4 ho4 s2 s3 HS1 HBN
                generalize w'.setCell ⟨SB, j + 1, none⟩ (.bool true) = w8 at *
                rcases Nat.eq_zero_or_pos i with h0 | h0
                · subst h0
                  refine wp_region_frame (by kernel_rfl) (by kernel_rfl) (by kernel_rfl) (byList (ko_list34a )) (lasts_list (ko_list34a_lasts )) ?_ ?_
                  · as_aux_lemma =>
                      intro vs w' iq o A F hb ho hd
                      have m11 : A.tmps[11]?.getD undef = (.int .i64 0) := F.m (by kernel_rfl) rfl
                      have G := F.light (n := 146) (by kernel_rfl)
                      clear F
                      clear hb
                      revert ho hd
                      match iq with
                      | 0 => intro ho hd; obtain rfl := (Option.some.inj ho).symm; clear hd ho; refine step_open rfl ?_; clear G; exact step_run (v := (.int .i64 0)) (by go_simp) rfl
                      | 1 => intro ho hd; obtain rfl := (Option.some.inj ho).symm; have d0 : vs 0 = (.int .i64 0) := hd ⟨0, .data⟩ (by simp) rfl; clear hd ho; have h125 := G.h (j := 0) (d := 125) rfl (by decide) d0; refine step_open rfl ?_; clear G; exact step_run (v := (.bool false)) (by go_simp) rfl
                      | 2 => intro ho hd; obtain rfl := (Option.some.inj ho).symm; have d1 : vs 1 = (.bool false) := hd ⟨1, .data⟩ (by simp) rfl; clear hd ho; have h126 := G.h (j := 1) (d := 126) rfl (by decide) d1; refine step_open rfl ?_; clear G; exact step_run (v := (.bool false)) (by go_simp) rfl
                      | 3 => intro ho hd; obtain rfl := (Option.some.inj ho).symm; have d2 : vs 2 = (.bool false) := hd ⟨2, .guard⟩ (by simp) rfl; clear hd ho; exact step_not G rfl rfl (by decide) d2 rfl
                      | 4 => intro ho hd; obtain rfl := (Option.some.inj ho).symm; have d2 : vs 2 = (.bool false) := hd ⟨2, .guard⟩ (by simp) rfl; clear hd ho; exact step_not G rfl rfl (by decide) d2 rfl
                      | 5 => intro ho hd; obtain rfl := (Option.some.inj ho).symm; have d2 : vs 2 = (.bool false) := hd ⟨2, .guard⟩ (by simp) rfl; clear hd ho; exact step_not G rfl rfl (by decide) d2 rfl
                      | 6 => intro ho hd; obtain rfl := (Option.some.inj ho).symm; have d2 : vs 2 = (.bool false) := hd ⟨2, .guard⟩ (by simp) rfl; clear hd ho; exact step_not G rfl rfl (by decide) d2 rfl
                      | 7 => intro ho hd; obtain rfl := (Option.some.inj ho).symm; have d2 : vs 2 = (.bool false) := hd ⟨2, .guard⟩ (by simp) rfl; clear hd ho; exact step_not G rfl rfl (by decide) d2 rfl
                      | 8 => intro ho hd; obtain rfl := (Option.some.inj ho).symm; have d2 : vs 2 = (.bool false) := hd ⟨2, .guard⟩ (by simp) rfl; clear hd ho; exact step_not G rfl rfl (by decide) d2 rfl
                      | 9 => intro ho hd; obtain rfl := (Option.some.inj ho).symm; have d2 : vs 2 = (.bool false) := hd ⟨2, .guard⟩ (by simp) rfl; clear hd ho; exact step_not G rfl rfl (by decide) d2 rfl
                      | 10 => intro ho hd; obtain rfl := (Option.some.inj ho).symm; have d2 : vs 2 = (.bool false) := hd ⟨2, .guard⟩ (by simp) rfl; clear hd ho; exact step_not G rfl rfl (by decide) d2 rfl
                      | 11 => intro ho hd; obtain rfl := (Option.some.inj ho).symm; have d2 : vs 2 = (.bool false) := hd ⟨2, .guard⟩ (by simp) rfl; clear hd ho; exact step_not G rfl rfl (by decide) d2 rfl
                      | 12 => intro ho hd; obtain rfl := (Option.some.inj ho).symm; have d2 : vs 2 = (.bool false) := hd ⟨2, .guard⟩ (by simp) rfl; clear hd ho; exact step_not G rfl rfl (by decide) d2 rfl
                      | 13 => intro ho hd; obtain rfl := (Option.some.inj ho).symm; have d2 : vs 2 = (.bool false) := hd ⟨2, .guard⟩ (by simp) rfl; clear hd ho; exact step_not G rfl rfl (by decide) d2 rfl
                      | 14 => intro ho hd; obtain rfl := (Option.some.inj ho).symm; have d2 : vs 2 = (.bool false) := hd ⟨2, .guard⟩ (by simp) rfl; clear hd ho; exact step_not G rfl rfl (by decide) d2 rfl
                      | 15 => intro ho hd; obtain rfl := (Option.some.inj ho).symm; have d2 : vs 2 = (.bool false) := hd ⟨2, .guard⟩ (by simp) rfl; clear hd ho; exact step_not G rfl rfl (by decide) d2 rfl
                      | 16 => intro ho hd; obtain rfl := (Option.some.inj ho).symm; have d2 : vs 2 = (.bool false) := hd ⟨2, .guard⟩ (by simp) rfl; clear hd ho; exact step_not G rfl rfl (by decide) d2 rfl
                      | 17 => intro ho hd; obtain rfl := (Option.some.inj ho).symm; have d2 : vs 2 = (.bool false) := hd ⟨2, .guard⟩ (by simp) rfl; clear hd ho; exact step_not G rfl rfl (by decide) d2 rfl
                      | 18 => intro ho hd; obtain rfl := (Option.some.inj ho).symm; have d2 : vs 2 = (.bool false) := hd ⟨2, .guard⟩ (by simp) rfl; clear hd ho; exact step_not G rfl rfl (by decide) d2 rfl
                      | 19 => intro ho hd; obtain rfl := (Option.some.inj ho).symm; have d2 : vs 2 = (.bool false) := hd ⟨2, .guard⟩ (by simp) rfl; clear hd ho; exact step_not G rfl rfl (by decide) d2 rfl
                      | 20 => intro ho hd; obtain rfl := (Option.some.inj ho).symm; have d2 : vs 2 = (.bool false) := hd ⟨2, .data⟩ (by simp) rfl; have d19 : vs 19 = undef := hd ⟨19, .data⟩ (by simp) rfl; clear hd ho; have h127 := G.h (j := 2) (d := 127) rfl (by decide) d2; have h144 := G.h (j := 19) (d := 144) rfl (by decide) d19; refine step_open rfl ?_; clear G; exact step_run (v := (.bool false)) (by go_simp) rfl
                      | n + 21 => intro ho hd; simp at ho
                  · intro vs w9 hb hR
                    have hv : vs 20 = .bool false := hR 20 (by simp)
                    simp only [putAll, Act.put, List.setIfInBounds_toArray, List.set_cons_succ, List.set_cons_zero]
                    rw [hv]
                    have HBN := Lib.hid hb
                    clear hR hb hv
                    go_wp2_with fail
                    refine Handed.intro (n2 - 1) (by have := HNI2.out; omega) (hJ2 _ _ _ ?_ (by kernel_rfl))
                    exact ⟨1, by have := HNI2.out; omega, by go_num, keep HBN.out HS4.out, (HOU.out.trans HO4.out (fun q hq => .inl hq)).trans (Out.of HBN.out : Out (fun q => q = SB) w8 w9) (fun q hq => .inl hq)⟩
                · obtain ⟨m, rfl⟩ : ∃ m, i = m + 1 := ⟨i - 1, by omega⟩
                  have hmlt : m < ln := by omega
                  obtain ⟨x, ex, hpm⟩ : ∃ x ex, P[m]? = some (x, ex) := by
                    have hl : m < P.length := by rw [HOR.out.len, HLEN.out]; exact hmlt
                    exact ⟨_, _, List.getElem?_eq_getElem hl⟩
                  obtain ⟨j0, hx0, rfl, hj0⟩ := HOR.out.at_ hpm
                  rw [HLEN.out] at hj0
                  have HAH : Hid (x.r < kx.r) := Lib.hid (HOR.out.ahead hpm HPI.out)
                  have HXW : Hid x.wf := Lib.hid (HK.out.2.2.1 x (List.mem_of_getElem? hx0))
                  have HYW : Hid kx.wf := HKW
                  have hyj := HYJ.out
                  have HRX8 : Hid (RowAt ln P xq w8) := Lib.hid (HRX.out.out HO4.out HXS.out)
                  have HBW8 : Hid (Below w.heap.size w w8) := Lib.hid (below_out HBWU.out HO4.out HBWU.out.size (fun q hq => by subst hq; exact HSW.out))
                  have HKC : Hid (∀ w' : World, Below w8.heap.size w8 w' → ∀ (i : Nat) (x : KY), L[i]? = some x → w'.cell? ⟨kb, ko + i * 4, none⟩ = some (.int .i64 x.st) ∧ w'.cell? ⟨kb, ko + i * 4 + 1, none⟩ = some (.int .i64 x.sy) ∧ w'.cell? ⟨kb, ko + i * 4 + 2, none⟩ = some (.int .i64 x.id) ∧ w'.cell? ⟨kb, ko + i * 4 + 3, none⟩ = some (.int .i64 x.sq)) := Lib.hid (fun w' hb i x hx => keys_at (HK.out.below (HBW8.out.trans (hb.mono HBW8.out.size))) hpos hx)
                  rw [show ((m + 1 : Nat) : Int) = (m : Int) + 1 by omega]
                  refine wp_region_frame (by kernel_rfl) (by kernel_rfl) (by kernel_rfl) (byList (ko_list34b kb ko ln kc m j0 j xq xc x kx)) (lasts_list (ko_list34b_lasts kb ko ln kc m j0 j xq xc x kx)) ?_ ?_
                  · as_aux_lemma =>
                      intro vs w' iq o A F hb ho hd
                      have m0 : A.tmps[0]?.getD undef = (.slice (some ⟨kb, ko, none⟩) ln kc) := F.m (by kernel_rfl) rfl
                      have m8 : A.tmps[8]?.getD undef = (.slice (some ⟨xq, 0, none⟩) ln xc) := F.m (by kernel_rfl) rfl
                      have m11 : A.tmps[11]?.getD undef = (.int .i64 ((m : Int) + 1)) := F.m (by kernel_rfl) rfl
                      have m12 : A.tmps[12]?.getD undef = (.int .i64 ((j : Int) + 1)) := F.m (by kernel_rfl) rfl
                      have G := F.light (n := 146) (by kernel_rfl)
                      clear F
                      obtain ⟨x0, x1, x2, x3⟩ := HKC.out w' hb j0 x hx0
                      obtain ⟨y0, y1, y2, y3⟩ := HKC.out w' hb j kx hyj
                      obtain ⟨_, z1, _, _⟩ := (HRX8.out.below hb).2 m x _ hmlt hpm
                      have f1 := (wrapI_small (n := (m : Int)) (by omega) (by omega))
                      have f2 : IntKind.u64.wrap (j0 : Int) = (j0 : Int) := (wrapU_small (n := (j0 : Int)) (by omega) (by omega))
                      have f3 := (wrapI_small (n := (j : Int)) (by omega) (by omega))
                      have e1 : (0 : Int) ≤ (m : Int) := by omega
                      have e2 : (m : Int) < 60 := by omega
                      have e3 : (m : Int) < (ln : Int) := by omega
                      have e4 : (0 : Int) ≤ (j0 : Int) := by omega
                      have e5 : (j0 : Int) < 60 := by omega
                      have e6 : (j0 : Int) < (ln : Int) := by omega
                      have e7 : (0 : Int) ≤ (j : Int) := by omega
                      have e8 : (j : Int) < 60 := by omega
                      have e9 : (j : Int) < (ln : Int) := by omega
                      clear hb
                      revert ho hd
                      match iq with
                      | 0 => intro ho hd; obtain rfl := (Option.some.inj ho).symm; clear hd ho; refine step_open rfl ?_; clear G; exact step_run (v := (.int .i64 ((m : Int) + 1))) (by go_simp) rfl
                      | 1 => intro ho hd; obtain rfl := (Option.some.inj ho).symm; have d0 : vs 0 = (.int .i64 ((m : Int) + 1)) := hd ⟨0, .data⟩ (by simp) rfl; clear hd ho; have h125 := G.h (j := 0) (d := 125) rfl (by decide) d0; refine step_open rfl ?_; clear G; exact step_run (v := (.bool true)) (by go_simp) rfl
                      | 2 => intro ho hd; obtain rfl := (Option.some.inj ho).symm; have d1 : vs 1 = (.bool true) := hd ⟨1, .data⟩ (by simp) rfl; clear hd ho; have h126 := G.h (j := 1) (d := 126) rfl (by decide) d1; refine step_open rfl ?_; clear G; exact step_run (v := (.bool true)) (by go_simp) rfl
                      | 3 => intro ho hd; obtain rfl := (Option.some.inj ho).symm; have d2 : vs 2 = (.bool true) := hd ⟨2, .guard⟩ (by simp) rfl; clear hd ho; refine step_yes G rfl rfl (by decide) d2 ?_; clear G; exact step_run (v := (.slice (some ⟨kb, ko, none⟩) ln kc)) (by go_simp) rfl
                      | 4 => intro ho hd; obtain rfl := (Option.some.inj ho).symm; have d2 : vs 2 = (.bool true) := hd ⟨2, .guard⟩ (by simp) rfl; clear hd ho; refine step_yes G rfl rfl (by decide) d2 ?_; clear G; exact step_run (v := (.slice (some ⟨xq, 0, none⟩) ln xc)) (by go_simp) rfl
                      | 5 => intro ho hd; obtain rfl := (Option.some.inj ho).symm; have d2 : vs 2 = (.bool true) := hd ⟨2, .guard⟩ (by simp) rfl; clear hd ho; refine step_yes G rfl rfl (by decide) d2 ?_; clear G; exact step_run (v := (.int .i64 ((m : Int) + 1))) (by go_simp) rfl
                      | 6 => intro ho hd; obtain rfl := (Option.some.inj ho).symm; have d5 : vs 5 = (.int .i64 ((m : Int) + 1)) := hd ⟨5, .data⟩ (by simp) rfl; have d2 : vs 2 = (.bool true) := hd ⟨2, .guard⟩ (by simp) rfl; clear hd ho; have h130 := G.h (j := 5) (d := 130) rfl (by decide) d5; refine step_yes G rfl rfl (by decide) d2 ?_; clear G; exact step_run (v := (.int .i64 (m : Int))) (by go_simp) rfl
                      | 7 => intro ho hd; obtain rfl := (Option.some.inj ho).symm; have d4 : vs 4 = (.slice (some ⟨xq, 0, none⟩) ln xc) := hd ⟨4, .data⟩ (by simp) rfl; have d6 : vs 6 = (.int .i64 (m : Int)) := hd ⟨6, .data⟩ (by simp) rfl; have d2 : vs 2 = (.bool true) := hd ⟨2, .guard⟩ (by simp) rfl; clear hd ho; have h129 := G.h (j := 4) (d := 129) rfl (by decide) d4; have h131 := G.h (j := 6) (d := 131) rfl (by decide) d6; refine step_yes G rfl rfl (by decide) d2 ?_; clear G; exact step_run (v := (.pointer (some ⟨xq, m * 4, none⟩))) (by go_simp) rfl
                      | 8 => intro ho hd; obtain rfl := (Option.some.inj ho).symm; have d7 : vs 7 = (.pointer (some ⟨xq, m * 4, none⟩)) := hd ⟨7, .data⟩ (by simp) rfl; have d2 : vs 2 = (.bool true) := hd ⟨2, .guard⟩ (by simp) rfl; clear hd ho; have h132 := G.h (j := 7) (d := 132) rfl (by decide) d7; refine step_yes G rfl rfl (by decide) d2 ?_; clear G; exact step_run (v := (.pointer (some ⟨xq, m * 4 + 1, none⟩))) (by go_simp) rfl
                      | 9 => intro ho hd; obtain rfl := (Option.some.inj ho).symm; have d8 : vs 8 = (.pointer (some ⟨xq, m * 4 + 1, none⟩)) := hd ⟨8, .data⟩ (by simp) rfl; have d2 : vs 2 = (.bool true) := hd ⟨2, .guard⟩ (by simp) rfl; clear hd ho; have h133 := G.h (j := 8) (d := 133) rfl (by decide) d8; refine step_yes G rfl rfl (by decide) d2 ?_; clear G; exact step_run (v := (.int .u64 ((j0 : Int) + 1))) (by go_simp) rfl
                      | 10 => intro ho hd; obtain rfl := (Option.some.inj ho).symm; have d9 : vs 9 = (.int .u64 ((j0 : Int) + 1)) := hd ⟨9, .data⟩ (by simp) rfl; have d2 : vs 2 = (.bool true) := hd ⟨2, .guard⟩ (by simp) rfl; clear hd ho; have h134 := G.h (j := 9) (d := 134) rfl (by decide) d9; refine step_yes G rfl rfl (by decide) d2 ?_; clear G; exact step_run (v := (.int .u64 (j0 : Int))) (by go_simp) rfl
                      | 11 => intro ho hd; obtain rfl := (Option.some.inj ho).symm; have d3 : vs 3 = (.slice (some ⟨kb, ko, none⟩) ln kc) := hd ⟨3, .data⟩ (by simp) rfl; have d10 : vs 10 = (.int .u64 (j0 : Int)) := hd ⟨10, .data⟩ (by simp) rfl; have d2 : vs 2 = (.bool true) := hd ⟨2, .guard⟩ (by simp) rfl; clear hd ho; have h128 := G.h (j := 3) (d := 128) rfl (by decide) d3; have h135 := G.h (j := 10) (d := 135) rfl (by decide) d10; refine step_yes G rfl rfl (by decide) d2 ?_; clear G; exact step_run (v := (.pointer (some ⟨kb, ko + j0 * 4, none⟩))) (by go_simp) rfl
                      | 12 => intro ho hd; obtain rfl := (Option.some.inj ho).symm; have d11 : vs 11 = (.pointer (some ⟨kb, ko + j0 * 4, none⟩)) := hd ⟨11, .data⟩ (by simp) rfl; have d2 : vs 2 = (.bool true) := hd ⟨2, .guard⟩ (by simp) rfl; clear hd ho; have h136 := G.h (j := 11) (d := 136) rfl (by decide) d11; refine step_yes G rfl rfl (by decide) d2 ?_; clear G; exact step_run (v := (.agg #[.int .i64 x.st, .int .i64 x.sy, .int .i64 x.id, .int .i64 x.sq])) (by go_simp) rfl
                      | 13 => intro ho hd; obtain rfl := (Option.some.inj ho).symm; have d2 : vs 2 = (.bool true) := hd ⟨2, .guard⟩ (by simp) rfl; clear hd ho; refine step_yes G rfl rfl (by decide) d2 ?_; clear G; exact step_run (v := (.slice (some ⟨kb, ko, none⟩) ln kc)) (by go_simp) rfl
                      | 14 => intro ho hd; obtain rfl := (Option.some.inj ho).symm; have d2 : vs 2 = (.bool true) := hd ⟨2, .guard⟩ (by simp) rfl; clear hd ho; refine step_yes G rfl rfl (by decide) d2 ?_; clear G; exact step_run (v := (.int .i64 ((j : Int) + 1))) (by go_simp) rfl
                      | 15 => intro ho hd; obtain rfl := (Option.some.inj ho).symm; have d14 : vs 14 = (.int .i64 ((j : Int) + 1)) := hd ⟨14, .data⟩ (by simp) rfl; have d2 : vs 2 = (.bool true) := hd ⟨2, .guard⟩ (by simp) rfl; clear hd ho; have h139 := G.h (j := 14) (d := 139) rfl (by decide) d14; refine step_yes G rfl rfl (by decide) d2 ?_; clear G; exact step_run (v := (.int .i64 (j : Int))) (by go_simp) rfl
                      | 16 => intro ho hd; obtain rfl := (Option.some.inj ho).symm; have d13 : vs 13 = (.slice (some ⟨kb, ko, none⟩) ln kc) := hd ⟨13, .data⟩ (by simp) rfl; have d15 : vs 15 = (.int .i64 (j : Int)) := hd ⟨15, .data⟩ (by simp) rfl; have d2 : vs 2 = (.bool true) := hd ⟨2, .guard⟩ (by simp) rfl; clear hd ho; have h138 := G.h (j := 13) (d := 138) rfl (by decide) d13; have h140 := G.h (j := 15) (d := 140) rfl (by decide) d15; refine step_yes G rfl rfl (by decide) d2 ?_; clear G; exact step_run (v := (.pointer (some ⟨kb, ko + j * 4, none⟩))) (by go_simp) rfl
                      | 17 => intro ho hd; obtain rfl := (Option.some.inj ho).symm; have d16 : vs 16 = (.pointer (some ⟨kb, ko + j * 4, none⟩)) := hd ⟨16, .data⟩ (by simp) rfl; have d2 : vs 2 = (.bool true) := hd ⟨2, .guard⟩ (by simp) rfl; clear hd ho; have h141 := G.h (j := 16) (d := 141) rfl (by decide) d16; refine step_yes G rfl rfl (by decide) d2 ?_; clear G; exact step_run (v := (.agg #[.int .i64 kx.st, .int .i64 kx.sy, .int .i64 kx.id, .int .i64 kx.sq])) (by go_simp) rfl
                      | 18 => intro ho hd; obtain rfl := (Option.some.inj ho).symm; have d12 : vs 12 = (.agg #[.int .i64 x.st, .int .i64 x.sy, .int .i64 x.id, .int .i64 x.sq]) := hd ⟨12, .data⟩ (by simp) rfl; have d17 : vs 17 = (.agg #[.int .i64 kx.st, .int .i64 kx.sy, .int .i64 kx.id, .int .i64 kx.sq]) := hd ⟨17, .data⟩ (by simp) rfl; have d2 : vs 2 = (.bool true) := hd ⟨2, .guard⟩ (by simp) rfl; clear hd ho; have h137 := G.h (j := 12) (d := 137) rfl (by decide) d12; have h142 := G.h (j := 17) (d := 142) rfl (by decide) d17; refine step_yes G rfl rfl (by decide) d2 ?_; clear G; go_simp; refine (ahead_row x kx _ HXW.out HYW.out HAH.out).mono ?_; rintro e w9 ⟨rfl, hb9⟩; exact ⟨_, rfl, rfl, hb9⟩
                      | 19 => intro ho hd; obtain rfl := (Option.some.inj ho).symm; have d18 : vs 18 = (.bool true) := hd ⟨18, .data⟩ (by simp) rfl; have d2 : vs 2 = (.bool true) := hd ⟨2, .guard⟩ (by simp) rfl; clear hd ho; have h143 := G.h (j := 18) (d := 143) rfl (by decide) d18; refine step_yes G rfl rfl (by decide) d2 ?_; clear G; exact step_run (v := (.bool false)) (by go_simp) rfl
                      | 20 => intro ho hd; obtain rfl := (Option.some.inj ho).symm; have d2 : vs 2 = (.bool true) := hd ⟨2, .data⟩ (by simp) rfl; have d19 : vs 19 = (.bool false) := hd ⟨19, .data⟩ (by simp) rfl; clear hd ho; have h127 := G.h (j := 2) (d := 127) rfl (by decide) d2; have h144 := G.h (j := 19) (d := 144) rfl (by decide) d19; refine step_open rfl ?_; clear G; exact step_run (v := (.bool false)) (by go_simp) rfl
                      | n + 21 => intro ho hd; simp at ho
                  · intro vs w9 hb hR
                    have hv : vs 20 = .bool false := hR 20 (by simp)
                    simp only [putAll, Act.put, List.setIfInBounds_toArray, List.set_cons_succ, List.set_cons_zero]
                    rw [hv]
                    have HBN := Lib.hid hb
                    clear hR hb hv
                    go_wp2_with fail
                    refine Handed.intro (n2 - 1) (by have := HNI2.out; omega) (hJ2 _ _ _ ?_ (by kernel_rfl))
                    exact ⟨m + 1 + 1, by have := HNI2.out; omega, by go_num, keep HBN.out HS4.out, (HOU.out.trans HO4.out (fun q hq => .inl hq)).trans (Out.of HBN.out : Out (fun q => q = SB) w8 w9) (fun q hq => .inl hq)⟩
            · obtain rfl : i = ln := by have := HNI2.out; omega
              go_wp2_with fail
              go_returns
              exact ⟨rfl, HBWU.out⟩
end Go.Proofs.YtnhlnnehpmjeiaaGreatDoor
