/- cmd.Line: a command's line. Printed by mkO6.py out of O6.in. -/
import Derived.Test.YtnhlnnehpmjeiaaGreatDoorP37
import Derived.Test.YtnhlnnehpmjeiaaGreatDoorP35
import Derived.Test.YtnhlnnehpmjeiaaGreatDoorP4
import Derived.Test.YtnhlnnehpmjeiaaGreatDoorP20
namespace Go.Proofs.YtnhlnnehpmjeiaaGreatDoor
open Go.RowKit
set_option linter.unusedVariables false
open Go.Lib (decDigits byteCells join)
def mskLn : List Bool := [false, false, false, true, false, false, false, false, false, false, false, false, false, false, false, false, false, false, false, false, false, false, true, true, true, true, true, true, true, true, true, true, true, true, false, false, false, false, false, false, false, false, false, false, false, false, false, false, false, false, false, false, false, false, false, false, false, false, false, false, false, false]
/-- The table of Go's library that its numerals are made with. -/
def Tab (w : World) : Prop := Lib.TabIs Tryz.prog w "internal/strconv.uint64pow10" .u64 Lib.pow10Tab
theorem Tab.below {w w' : World} (h : Tab w) (hb : Below w.heap.size w w') : Tab w' := by
  unfold Tab Lib.TabIs World.var? at *
  cases hg : Tryz.prog.globalNamed "internal/strconv.uint64pow10" with
  | none => rw [hg] at h; cases h
  | some g =>
    rw [hg] at h
    simp only [Option.bind_some] at h ⊢
    cases ho : w.heap[g]? with
    | none => rw [ho] at h; cases h
    | some o => rw [keep hb ho]; rw [ho] at h; exact h
theorem below_grow (w : World) (k : Nat) (os : Array Obj) : Below w.heap.size w (Sort.grow (w.drewN k) os) :=
  ⟨rfl, rfl, rfl, by simp [Sort.grow], fun i hi => by simp [Sort.grow, Array.getElem?_append, hi]⟩
theorem itoaU_any (n : Nat) (w : World) (hn : n < 9223372036854775808) (ht : Tab w) : Calls Tryz.prog 30 #[.int .i64 (n : Int)] w fun e w' => e = .returned (.string ⟨(decDigits n).toArray⟩) ∧ Below w.heap.size w w' := by
  refine (Tryz.strconv_Itoa n (by omega) (by omega) w ht).mono ?_
  rintro e w' ⟨rfl, k, os, rfl⟩
  exact ⟨by rw [Lib.itoa_nonneg], below_grow w k os⟩
def IsWordK (kn : Nat) (v : Value) (w : World) : Prop := ∃ q, v = .pointer (some ⟨q, kn, none⟩) ∧ w.heap[q]? = some (.cells wordsC 9 (0, 0))
theorem lasts_wordK (kn : Nat) : Lasts (IsWordK kn) := fun _ _ _ ⟨q, h1, h2⟩ hb => ⟨q, h1, keep hb h2⟩
def IsTwoB (a b : Nat) (v : Value) (w : World) : Prop := ∃ q, v = .slice (some ⟨q, 0, none⟩) 2 2 ∧ w.heap[q]? = some (.cells #[.string ⟨(decDigits a).toArray⟩, .string ⟨(decDigits b).toArray⟩] 9 (0, 0))
theorem lasts_twoS (a b : Nat) : Lasts (IsTwoB a b) := fun _ _ _ ⟨q, h1, h2⟩ hb => ⟨q, h1, keep hb h2⟩
def ln_list (U BX kn : Nat) (W : ByteArray) : List (Value → World → Prop) :=
  [IsWords,
   IsV (.pointer (some ⟨BX, 0, none⟩)),
   IsV (.int .i64 (kn : Int)),
   IsWordK kn,
   IsV (.string W),
   IsOneB U 9 #[.string W],
   IsOneB U 9 #[.string W]]
theorem ln_list_lasts (U BX kn : Nat) (W : ByteArray) : ∀ p ∈ ln_list U BX kn  W , Lasts p := by
  simp only [ln_list, List.mem_cons, List.not_mem_nil, or_false]
  rintro p hp
  repeat (rcases hp with rfl | hp; first | exact lasts_v _ | exact lasts_oneB _ _ _ | exact lasts_words | exact lasts_wordK _ | exact lasts_twoS _ _ | exact lasts_emp _ _ _ | exact lasts_rowO _ _ _ _ _ | exact lasts_with _ _ _ _ _ _ | exact lasts_oneW _ _ _ _ _ _ _ | exact lasts_one _ _)
def ln_list5 (BX q6 idn gnn : Nat) (ent : Int) : List (Value → World → Prop) :=
  [IsV (.slice (some ⟨q6, 0, none⟩) 1 1),
   IsV (.pointer (some ⟨BX, 1, none⟩)),
   IsV (.int .u64 ent),
   IsV (.int .i64 (idn : Int)),
   IsV (.string ⟨(decDigits idn).toArray⟩),
   IsV (.pointer (some ⟨BX, 1, none⟩)),
   IsV (.int .u64 ent),
   IsV (.int .i64 (gnn : Int)),
   IsV (.string ⟨(decDigits gnn).toArray⟩),
   IsTwoB idn gnn]
theorem ln_list5_lasts (BX q6 idn gnn : Nat) (ent : Int) : ∀ p ∈ ln_list5 BX q6 idn gnn  ent , Lasts p := by
  simp only [ln_list5, List.mem_cons, List.not_mem_nil, or_false]
  rintro p hp
  repeat (rcases hp with rfl | hp; first | exact lasts_v _ | exact lasts_oneB _ _ _ | exact lasts_words | exact lasts_wordK _ | exact lasts_twoS _ _ | exact lasts_emp _ _ _ | exact lasts_rowO _ _ _ _ _ | exact lasts_with _ _ _ _ _ _ | exact lasts_oneW _ _ _ _ _ _ _ | exact lasts_one _ _)
theorem words_at {kn : Nat} (h0 : 1 ≤ kn) (h1 : kn ≤ 5) : wordsC[kn]? = some (.string ⟨(wordF (kn : Int)).toArray⟩) := by
  have : kn = 1 ∨ kn = 2 ∨ kn = 3 ∨ kn = 4 ∨ kn = 5 := by omega
  rcases this with rfl | rfl | rfl | rfl | rfl <;> rfl
theorem word_len (k : Int) : (wordF k).length ≤ 7 := by
  unfold wordF
  repeat' split
  all_goals decide
/-- What a command without too much is, in memory. -/
structure CmdAt (B : Nat) (w : World) (kn : Nat) (ent comp : Int) (pa : Option Addr) (pl pc : Nat) (ps : List PW) : Prop where
  k0 : 1 ≤ kn
  k1 : kn ≤ 5
  e0 : 0 ≤ ent
  e1 : ent < 18446744073709551616
  c0 : 0 ≤ comp
  c1 : comp < 100
  parts : PartsAt B w pa pl pc ps
  few : pl ≤ 12
  ids : ∀ p ∈ ps, 0 ≤ p.comp ∧ p.comp < 100
  form : ∀ p ∈ ps, ∀ x ∈ p.val, x.form = true
  len : ∀ p ∈ ps, p.val.length ≤ 100
  p2 : kn = 2 → pl = 0
def pairs (ps : List PW) : List (Int × List WI) := ps.map fun p => (p.comp, p.val)
def cmOf (k ent comp : Int) (ps : List PW) : CM := ⟨k, ent, comp, pairs ps⟩
/-- The first words. -/
def headT (kn : Nat) (ent : Int) : List (List UInt8) := wordF (kn : Int) :: (if kn = 1 then [] else [decDigits (ent % 4294967296).toNat, decDigits (ent / 4294967296).toNat])
theorem line_len {m : Nat} {l : List (List UInt8)} (h : ∀ x ∈ l, x.length ≤ 5000) (hn : l.length ≤ 20) : (join l [32]).length ≤ 1000000 := by
  have h1 := join_len (s := 32) (m := 5000) h
  have : l.length * 5001 ≤ 20 * 5001 := Nat.mul_le_mul_right _ hn
  omega
theorem ptext_len {p : Int × List WI} (hc : p.1 < 100) (hv : ∀ x ∈ p.2, x.wf) (hl : p.2.length ≤ 100) : (ptext p).length ≤ 5000 := by
  have h1 := dd_len 1 p.1.toNat (by omega)
  have h2 := vtext_len hv hl
  unfold ptext
  rw [List.length_append, List.length_cons]
  omega
theorem headT_len {kn : Nat} {ent : Int} (h0 : 0 ≤ ent) (h1 : ent < 18446744073709551616) : (∀ x ∈ headT kn ent, x.length ≤ 5000) ∧ (headT kn ent).length ≤ 3 := by
  have a1 := dd_len 9 (ent % 4294967296).toNat (by omega)
  have a2 := dd_len 9 (ent / 4294967296).toNat (by omega)
  unfold headT
  constructor
  · intro x hx
    rcases List.mem_cons.1 hx with rfl | hx
    · have := word_len (kn : Int); omega
    · split at hx
      · cases hx
      · simp only [List.mem_cons, List.not_mem_nil, or_false] at hx
        rcases hx with rfl | rfl <;> omega
  · split <;> simp
set_option maxRecDepth 100000 in
set_option maxHeartbeats 8000000 in
theorem line_any (kn : Nat) (ent comp : Int) (pa : Option Addr) (pl pc : Nat) (ps : List PW) (w : World) (hc : CmdAt w.heap.size w kn ent comp pa pl pc ps) (ht : Tab w) :
    Calls Tryz.prog 14 #[.agg #[.int .i64 (kn : Int), .int .u64 ent, .int .i64 comp, .slice pa pl pc]] w fun e w' => e = .returned (.string ⟨(cmOf kn ent comp ps).line.toArray⟩) ∧ Below w.heap.size w w' := by
  obtain ⟨i0, hi, hz0, hz1, hz2⟩ := info_parts Tryz.infoS9
  have k0 := hc.k0
  have k1 := hc.k1
  have e0 := hc.e0
  have e1 := hc.e1
  have g1 : decide ((kn : Int) < 1) = false := by simp; omega
  have g2 : decide (5 < (kn : Int)) = false := by simp; omega
  have HW : Hid (wordsC[kn]? = some (.string ⟨(wordF (kn : Int)).toArray⟩)) := Lib.hid (words_at k0 k1)
  have hb1 : Below w.heap.size w (w.alloc (.cells #[.int .i64 (kn : Int), .int .u64 ent, .int .i64 comp, .slice pa pl pc] 34)) := by go_grown
  have hc1 := heap_alloc_new w (.cells #[.int .i64 (kn : Int), .int .u64 ent, .int .i64 comp, .slice pa pl pc] 34)
  have HB1 := Lib.hid hb1
  have HA := Lib.hid hc1
  have HC := Lib.hid hc
  have HTB := Lib.hid ht
  clear hb1 hc1 hc ht
  go_enter Tryz.func14, Tryz.ntmps14
  go_wp2_with fail
  generalize w.alloc (.cells #[.int .i64 (kn : Int), .int .u64 ent, .int .i64 comp, .slice pa pl pc] 34) = w1 at HB1 HA ⊢
  obtain ⟨BX, hBX⟩ : ∃ BX, w.heap.size = BX := ⟨_, rfl⟩
  have HBX := Lib.hid hBX
  rw [hBX] at HA ⊢
  clear hBX
  obtain ⟨W, hWW⟩ : ∃ W : ByteArray, (⟨(wordF (kn : Int)).toArray⟩ : ByteArray) = W := ⟨_, rfl⟩
  rw [hWW] at HW
  have HWW := Lib.hid hWW
  clear hWW
  refine wp_region_frame (by kernel_rfl) (by kernel_rfl) (by kernel_rfl) (byList (ln_list w1.heap.size BX kn W)) (lasts_list (ln_list_lasts w1.heap.size BX kn W)) ?_ ?_
  · intro vs w' iq o A F hb ho hd
    have m1 : A.tmps[1]?.getD undef = (.pointer (some ⟨BX, 0, none⟩)) := F.m (by kernel_rfl) rfl
    have G := F.light (n := 62) (by kernel_rfl)
    clear F
    have i6 : (kn : Int) < 6 := by omega
    have i0 : (0 : Int) ≤ (kn : Int) := by omega
    have hsz : w1.heap.size ≤ w'.heap.size := hb.size
    have x0 := cell_at (keep hb HA.out) 0
    simp at x0
    clear hb
    revert ho hd
    match iq with
    | 0 => intro ho hd; obtain rfl := (Option.some.inj ho).symm; clear hd ho; refine step_open rfl ?_; clear G; go_simp; refine (cmdWords_any _).mono ?_; rintro e w2 ⟨q, rfl, hq, hb2⟩; exact ⟨_, rfl, (show IsWords _ _ from ⟨q, rfl, hq⟩), hb2⟩
    | 1 => intro ho hd; obtain rfl := (Option.some.inj ho).symm; clear hd ho; refine step_open rfl ?_; clear G; exact step_run (v := (.pointer (some ⟨BX, 0, none⟩))) (by go_simp) rfl
    | 2 => intro ho hd; obtain rfl := (Option.some.inj ho).symm; have d1 : vs 1 = (.pointer (some ⟨BX, 0, none⟩)) := hd ⟨1, .data⟩ (by simp) rfl; clear hd ho; have h15 := G.h (j := 1) (d := 15) rfl (by decide) d1; refine step_open rfl ?_; clear G; exact step_run (v := (.int .i64 (kn : Int))) (by go_simp) rfl
    | 3 => intro ho hd; obtain rfl := (Option.some.inj ho).symm; obtain ⟨q0, d0, b0⟩ : IsWords (vs 0) w' := hd ⟨0, .data⟩ (by simp) rfl; have d2 : vs 2 = (.int .i64 (kn : Int)) := hd ⟨2, .data⟩ (by simp) rfl; clear hd ho; have h14 := G.h (j := 0) (d := 14) rfl (by decide) d0; have h16 := G.h (j := 2) (d := 16) rfl (by decide) d2; refine step_open rfl ?_; clear G; go_simp; exact ⟨_, rfl, (show IsWordK kn _ _ from ⟨q0, rfl, b0⟩), Below.refl _ _⟩
    | 4 => intro ho hd; obtain rfl := (Option.some.inj ho).symm; obtain ⟨q3, d3, b3⟩ : IsWordK kn (vs 3) w' := hd ⟨3, .data⟩ (by simp) rfl; clear hd ho; have h17 := G.h (j := 3) (d := 17) rfl (by decide) d3; refine step_open rfl ?_; clear G; have y5 := (cell_at b3 kn).trans HW.out; exact step_run (v := (.string W)) (by go_simp) rfl
    | 5 => intro ho hd; obtain rfl := (Option.some.inj ho).symm; have d4 : vs 4 = (.string W) := hd ⟨4, .data⟩ (by simp) rfl; clear hd ho; have h18 := G.h (j := 4) (d := 18) rfl (by decide) d4; refine step_open rfl ?_; clear G; go_simp; exact ⟨_, rfl, (show IsOneB _ _ _ _ _ from ⟨_, hsz, rfl, heap_alloc_new _ _⟩), by go_grown⟩
    | 6 => intro ho hd; obtain rfl := (Option.some.inj ho).symm; obtain ⟨q5, u5, d5, b5⟩ : IsOneB w1.heap.size 9 #[.string W] (vs 5) w' := hd ⟨5, .data⟩ (by simp) rfl; clear hd ho; have h19 := G.h (j := 5) (d := 19) rfl (by decide) d5; refine step_open rfl ?_; clear G; go_simp; exact ⟨_, rfl, (show IsOneB _ _ _ _ _ from ⟨q5, u5, rfl, b5⟩), Below.refl _ _⟩
    | n + 7 => intro ho hd; simp at ho
  · intro vs w' hb hR
    obtain ⟨q6, u6, d6, b6⟩ : IsOneB w1.heap.size 9 #[.string W] (vs 6) w' := hR 6 (by decide)
    simp only [putAll, Act.put, List.setIfInBounds_toArray, List.set_cons_succ, List.set_cons_zero]
    rw [d6]
    have hown3 : w'.ownsRow w1.heap.size 9 1 (.slice (some ⟨q6, 0, none⟩) 1 1) 1 [.string W] := ⟨rfl, .inr ⟨q6, 1, _, rfl, u6, b6, by decide, by decide, rfl, rfl⟩⟩
    have HA3 := Lib.hid (keep hb HA.out)
    have HB3 := Lib.hid hb
    have HTB3 := Lib.hid ((HTB.out.below HB1.out).below hb)
    have HO3 := Lib.hid hown3
    clear hb hR d6 b6 hown3
    have x0 := cell_at HA3.out 0
    simp at x0
    go_upto_if 22 with (fail)
    refine wp_cut_f mskLn (fun f wx => ∃ (oa : Option Addr) (n oc : Nat), f 3 = .slice oa n oc ∧ wx.ownsRow w1.heap.size 9 1 (.slice oa n oc) n (strV (headT kn ent)) ∧ (headT kn ent).length = n ∧ Below w1.heap.size w1 wx) ?_ ?_
    rotate_left
    · intro J2 K2 hJ2 hK2
      by_cases h1 : kn = 1
      · have t1 : ((kn : Int) != 1) = false := by simp; omega
        have HH : Hid (headT kn ent = [wordF (kn : Int)]) := Lib.hid (by unfold headT; rw [if_pos h1])
        clear h1
        go_wp2_with fail
        refine Met.intro (hJ2 _ _ ?_ (by kernel_rfl))
        exact ⟨_, 1, 1, rfl, by rw [HH.out]; have := HO3.out; rw [← HWW.out] at this; exact this, by rw [HH.out]; rfl, HB3.out⟩
      · have t1 : ((kn : Int) != 1) = true := by simp; omega
        obtain ⟨idn, hidn⟩ : ∃ idn : Nat, ent % 4294967296 = (idn : Int) := ⟨(ent % 4294967296).toNat, by omega⟩
        obtain ⟨gnn, hgnn⟩ : ∃ gnn : Nat, ent / 4294967296 = (gnn : Int) := ⟨(ent / 4294967296).toNat, by omega⟩
        have hid := fun W => entId_any ent W e0 e1
        have hgn := fun W => entGen_any ent W e0 e1
        simp only [hidn] at hid
        simp only [hgnn] at hgn
        have i1 : idn < 4294967296 := by omega
        have i2 : gnn < 4294967296 := by omega
        have HID := Lib.hid hid
        have HGN := Lib.hid hgn
        have HH : Hid (headT kn ent = [wordF (kn : Int), decDigits idn, decDigits gnn]) := Lib.hid (by unfold headT; rw [if_neg h1, hidn, hgnn]; rfl)
        clear hid hgn hidn hgnn h1
        go_wp2_with fail
        clear x0
        refine wp_region_tail 10 (by kernel_rfl) (by kernel_rfl) (by kernel_rfl) (by decide) (by kernel_rfl) (byList (ln_list5 BX q6 idn gnn ent)) (lasts_list (ln_list5_lasts BX q6 idn gnn ent)) ?_ ?_
        · intro vs w' iq o A hi F hb ho hd
          have m1 : A.tmps[1]?.getD undef = (.pointer (some ⟨BX, 0, none⟩)) := F.m (by kernel_rfl) rfl
          have m3 : A.tmps[3]?.getD undef = (.slice (some ⟨q6, 0, none⟩) 1 1) := F.m (by kernel_rfl) rfl
          have G := F.light (n := 62) (by kernel_rfl)
          clear F
          have x1 := cell_at (keep hb HA3.out) 1
          simp at x1
          have htb := (HTB3.out).below hb
          clear hb
          revert hi ho hd
          match iq with
          | 0 => intro _ ho hd; obtain rfl := (Option.some.inj ho).symm; clear hd ho; refine step_open rfl ?_; clear G; exact step_run (v := (.slice (some ⟨q6, 0, none⟩) 1 1)) (by go_simp) rfl
          | 1 => intro _ ho hd; obtain rfl := (Option.some.inj ho).symm; clear hd ho; refine step_open rfl ?_; clear G; exact step_run (v := (.pointer (some ⟨BX, 1, none⟩))) (by go_simp) rfl
          | 2 => intro _ ho hd; obtain rfl := (Option.some.inj ho).symm; have d1 : vs 1 = (.pointer (some ⟨BX, 1, none⟩)) := hd ⟨1, .data⟩ (by simp) rfl; clear hd ho; have h24 := G.h (j := 1) (d := 24) rfl (by decide) d1; refine step_open rfl ?_; clear G; exact step_run (v := (.int .u64 ent)) (by go_simp) rfl
          | 3 => intro _ ho hd; obtain rfl := (Option.some.inj ho).symm; have d2 : vs 2 = (.int .u64 ent) := hd ⟨2, .data⟩ (by simp) rfl; clear hd ho; have h25 := G.h (j := 2) (d := 25) rfl (by decide) d2; refine step_open rfl ?_; clear G; go_simp; refine (HID.out _).mono ?_; rintro e w2 ⟨rfl, rfl⟩; exact ⟨_, rfl, rfl, Below.refl _ _⟩
          | 4 => intro _ ho hd; obtain rfl := (Option.some.inj ho).symm; have d3 : vs 3 = (.int .i64 (idn : Int)) := hd ⟨3, .data⟩ (by simp) rfl; clear hd ho; have h26 := G.h (j := 3) (d := 26) rfl (by decide) d3; refine step_open rfl ?_; clear G; go_simp; refine (itoaU_any idn _ (by omega) htb).mono ?_; rintro e w2 ⟨rfl, hb9⟩; exact ⟨_, rfl, rfl, hb9⟩
          | 5 => intro _ ho hd; obtain rfl := (Option.some.inj ho).symm; clear hd ho; refine step_open rfl ?_; clear G; exact step_run (v := (.pointer (some ⟨BX, 1, none⟩))) (by go_simp) rfl
          | 6 => intro _ ho hd; obtain rfl := (Option.some.inj ho).symm; have d5 : vs 5 = (.pointer (some ⟨BX, 1, none⟩)) := hd ⟨5, .data⟩ (by simp) rfl; clear hd ho; have h28 := G.h (j := 5) (d := 28) rfl (by decide) d5; refine step_open rfl ?_; clear G; exact step_run (v := (.int .u64 ent)) (by go_simp) rfl
          | 7 => intro _ ho hd; obtain rfl := (Option.some.inj ho).symm; have d6 : vs 6 = (.int .u64 ent) := hd ⟨6, .data⟩ (by simp) rfl; clear hd ho; have h29 := G.h (j := 6) (d := 29) rfl (by decide) d6; refine step_open rfl ?_; clear G; go_simp; refine (HGN.out _).mono ?_; rintro e w2 ⟨rfl, rfl⟩; exact ⟨_, rfl, rfl, Below.refl _ _⟩
          | 8 => intro _ ho hd; obtain rfl := (Option.some.inj ho).symm; have d7 : vs 7 = (.int .i64 (gnn : Int)) := hd ⟨7, .data⟩ (by simp) rfl; clear hd ho; have h30 := G.h (j := 7) (d := 30) rfl (by decide) d7; refine step_open rfl ?_; clear G; go_simp; refine (itoaU_any gnn _ (by omega) htb).mono ?_; rintro e w2 ⟨rfl, hb9⟩; exact ⟨_, rfl, rfl, hb9⟩
          | 9 => intro _ ho hd; obtain rfl := (Option.some.inj ho).symm; have d4 : vs 4 = (.string ⟨(decDigits idn).toArray⟩) := hd ⟨4, .data⟩ (by simp) rfl; have d8 : vs 8 = (.string ⟨(decDigits gnn).toArray⟩) := hd ⟨8, .data⟩ (by simp) rfl; clear hd ho; have h27 := G.h (j := 4) (d := 27) rfl (by decide) d4; have h31 := G.h (j := 8) (d := 31) rfl (by decide) d8; refine step_open rfl ?_; clear G; go_simp; exact ⟨_, rfl, (show IsTwoB _ _ _ _ from ⟨_, rfl, heap_alloc_new _ _⟩), by go_grown⟩
          | n + 10 =>
            intro hi
            exfalso
            omega
        · intro vs w6 A hA F hb hR
          obtain ⟨q9, d9, b9⟩ : IsTwoB idn gnn (vs 9) w6 := hR 9 (by decide)
          have d0 : vs 0 = (.slice (some ⟨q6, 0, none⟩) 1 1) := hR 0 (by decide)
          have G := F.light (n := 62) (by kernel_rfl)
          have h23 := G.h (j := 0) (d := 23) rfl (by decide) d0
          have h32 := G.h (j := 9) (d := 32) rfl (by decide) d9
          have HB6 := Lib.hid (HB3.out.trans (hb.mono HB3.out.size))
          have hown6 := ownsRow_below HO3.out hb
          clear G F hR d0 d9 hb
          simp only [List.drop_succ_cons, List.drop_zero, wpTail]
          refine wp_append_src (.tmp 23) (.tmp 32) 79 rfl w1.heap.size 9 i0 (.string ByteArray.empty) 1 16 Tryz.underlying79 hi hz0 hz1 hz2 rfl (by decide) _ 1 _ (eval_of h23) hown6 (some ⟨q9, 0, none⟩) 2 2 _ (eval_of h32) (src_two b9 rfl) (by unfold maxLen; omega) (by omega) HB6.out.size ?_
          intro v' w7 hown7 hg7
          obtain ⟨va, vc, hv⟩ := ownsRow_slice hown7
          rw [hv] at hown7 ⊢
          clear hv
          have HB7 := Lib.hid (HB6.out.trans ((below_own hown6 hg7 HB6.out.size).mono (Nat.le_refl _)))
          have HO7 := Lib.hid hown7
          subst hA
          clear hown6 hown7 hg7 h23 h32 b9
          refine wp_runC (v := .slice va 3 vc) (by simp only [putAll, Act.put, List.setIfInBounds_toArray, List.set_cons_succ, List.set_cons_zero]; go_simp) ?_
          simp only [putAll, Act.put, List.setIfInBounds_toArray, List.set_cons_succ, List.set_cons_zero]
          go_wp2_with fail
          refine Met.intro (hJ2 _ _ ?_ (by kernel_rfl))
          exact ⟨va, 3, vc, rfl, by rw [HH.out]; have := HO7.out; rw [← HWW.out] at this; exact this, by rw [HH.out]; rfl, HB7.out⟩
    intro f wc hcut
    dsimp only [mixF, mskLn]
    generalize f 3 = f3 at hcut ⊢
    obtain ⟨oa, n, oc, rfl, hown, hln, hbc⟩ := hcut
    have hc4 := keep hbc HA.out
    have x2 := cell_at hc4 2
    have x3 := cell_at hc4 3
    clear x0
    have x0 := cell_at hc4 0
    simp at x0 x2 x3
    have hn3 : n ≤ 3 := by have := (headT_len (kn := kn) e0 e1).2; omega
    have hn1 : 1 ≤ n := by rw [← hln]; unfold headT; simp
    have HOWN := Lib.hid hown
    have HLN := Lib.hid hln
    have HBC := Lib.hid hbc
    have HTBC := Lib.hid (HTB.out.below HB1.out)
    clear hown hln hbc hc4 HA3 HB3 HTB3 HO3
    by_cases h5 : kn = 5
    · have e5 : ((kn : Int) == 5) = true := by simp; omega
      obtain ⟨cn, hcn⟩ : ∃ cn : Nat, comp = (cn : Int) := ⟨comp.toNat, by have := HC.out.c0; omega⟩
      have hcb : cn < 100 := by have := HC.out.c1; omega
      have HT : Hid ((cmOf kn ent comp ps).toks = headT kn ent ++ [decDigits cn]) := Lib.hid (by
        unfold cmOf CM.toks headT
        subst h5
        subst hcn
        simp)
      subst hcn
      clear h5
      go_wp2_with fail
      refine (Tryz.strconv_Itoa_small cn hcb _).mono ?_
      rintro e w8 ⟨rfl, rfl⟩
      have hown8 := HOWN.out.alloc (.cells #[.string ⟨(decDigits cn).toArray⟩] 9)
      have hnews : ∀ j u, ([.string ⟨(decDigits cn).toArray⟩] : List Value)[j]? = some u → (w8.alloc (.cells #[.string ⟨(decDigits cn).toArray⟩] 9)).cell? ((⟨w8.heap.size, 0, none⟩ : Addr).add j) = some u :=
        World.news_of_block (w := w8.alloc (.cells #[.string ⟨(decDigits cn).toArray⟩] 9)) (cs := #[.string ⟨(decDigits cn).toArray⟩]) (t := 9) (fr := (0, 0)) (heap_alloc_new w8 _)
      have hsz := HBC.out.size
      have HO8 := Lib.hid hown8
      have HN8 := Lib.hid hnews
      have HB8 := Lib.hid (HBC.out.alloc hsz (.cells #[.string ⟨(decDigits cn).toArray⟩] 9))
      clear hown8 hnews x0 x2 x3 HOWN
      go_wp2_with (at_builtin; refine wpList_append_own _ rfl (.tmp 37) (.tmp 41) 79 rfl w1.heap.size 9 i0 (.string ByteArray.empty) 1 16 Tryz.underlying79 hi hz0 hz1 hz2 rfl (by decide) (.slice oa n oc) n _ rfl HO8.out ⟨w8.heap.size, 0, none⟩ 1 1 _ rfl rfl HN8.out (fun u hu => by simp at hu; subst hu; rfl) (by unfold maxLen; omega) (by omega) (by simp; omega) ?_)
      intro v' w9 hown9 hg9 hnil
      obtain ⟨vb, vd, hv⟩ := ownsRow_slice hown9
      rw [hv] at hown9 hnil ⊢
      clear hv hnil
      have HB9 := Lib.hid (HB8.out.trans (below_own HO8.out hg9 HB8.out.size))
      have hown9 : w9.ownsRow w1.heap.size 9 1 (.slice vb (n + 1) vd) (n + 1) (strV (headT kn ent ++ [decDigits cn])) := by rw [strV_snoc]; exact hown9
      have hlb := line_len (l := headT kn ent ++ [decDigits cn]) (m := 0) (fun x hx => by
        rcases List.mem_append.1 hx with hx | hx
        · exact (headT_len e0 e1).1 x hx
        · obtain rfl := List.mem_singleton.1 hx
          have := dd_len 1 cn (by omega)
          omega) (by rw [List.length_append, HLN.out]; simp; omega)
      have HJ := Lib.hid (join_any (s := 32) hown9 (by rw [List.length_append, HLN.out]; rfl) (by omega) hlb (by omega))
      clear hown9 hg9 hlb
      go_wp2_with fail
      refine HJ.out.mono ?_
      rintro e w10 ⟨rfl, hb10⟩
      have HF := Lib.hid (HB1.out.trans ((HB9.out.trans (hb10.mono HB9.out.size)).mono HB1.out.size))
      clear hb10
      go_wp2_with fail
      go_returns
      exact ⟨by unfold CM.line; rw [HT.out]; rfl, HF.out⟩
    · have e5 : ((kn : Int) == 5) = false := by simp; omega
      have HT : Hid ((cmOf kn ent comp ps).toks = headT kn ent ++ (pairs ps).map ptext) := Lib.hid (by
        unfold cmOf CM.toks headT
        have n5 : (kn : Int) ≠ 5 := by omega
        by_cases h2 : kn = 2
        · have hp := HC.out.p2 h2
          have hp2 : ps = [] := List.eq_nil_of_length_eq_zero (by rw [HC.out.parts.1]; exact hp)
          subst h2
          subst hp2
          simp [pairs]
        · have n2 : (kn : Int) ≠ 2 := by omega
          by_cases h1 : kn = 1
          · subst h1; simp
          · have n1 : (kn : Int) ≠ 1 := by omega
            simp only [if_neg n5, if_neg n2, if_neg n1, if_neg h1]
            rfl)
      clear h5
      go_wp2_with fail
      go_loopw [3, 47] (fun o i wr => ∃ (k : Nat) (oa : Option Addr) (oc : Nat), o = .slice oa (n + k) oc ∧ i = .int .i64 (k : Int) ∧ k ≤ pl ∧ wr.ownsRow w1.heap.size 9 1 (.slice oa (n + k) oc) (n + k) (strV (headT kn ent ++ ((pairs ps).take k).map ptext)) ∧ Below w1.heap.size w1 wr) (fun _ i _ => pl - (intOf i).toNat)
      case atStart => exact ⟨0, oa, oc, rfl, rfl, Nat.zero_le _, by simpa using HOWN.out, HBC.out⟩
      case round =>
        obtain ⟨k, va, vc, rfl, rfl, hk, hown, hb⟩ := hrel
        clear x0 x2 x3
        have hpl := HC.out.few
        by_cases hlt : k < pl
        · have e2 : ((kn : Int) != 2) = true := by
            have : kn ≠ 2 := fun e => by have := HC.out.p2 e; omega
            simp; omega
          obtain ⟨b, off, p, rfl, _, hp, hints, y0, y1⟩ := HC.out.parts.get (HB1.out.trans (hb.mono HB1.out.size)) hlt
          have hpm := List.mem_of_getElem? hp
          obtain ⟨pn, hpn⟩ : ∃ pn : Nat, p.comp = (pn : Int) := ⟨p.comp.toNat, by have := (HC.out.ids p hpm).1; omega⟩
          have hpb : pn < 100 := by have := (HC.out.ids p hpm).2; omega
          rw [hpn] at y0
          have g3 : (0 : Int) ≤ (k : Int) := by omega
          have g4 : (k : Int) < (pl : Int) := by omega
          have x0 := cell_at (keepA (.cells #[.int .i64 (pn : Int), .slice p.va p.vl p.vc] 73) (keep hb HA.out)) 0
          simp at x0
          have hPA : ∀ W, Below wr.heap.size wr W → Calls Tryz.prog 34 #[.agg #[.int .i64 (pn : Int), .slice p.va p.vl p.vc]] W fun e w' => e = .returned (.string ⟨(ptext ((pn : Int), p.val)).toArray⟩) ∧ Below W.heap.size W w' := fun W hW =>
            dumpPart_any pn hpb p.val p.va p.vl p.vc W ((((hints.mono (show w.heap.size ≤ wr.heap.size by have := HB1.out.size; have := hb.size; omega)).below hW).mono hW.size)) (HC.out.form p hpm) (HC.out.len p hpm)
          have HPA := Lib.hid hPA
          have HB := Lib.hid hb
          have HOWN2 := Lib.hid hown
          have HTK : Hid (((pairs ps).take (k + 1)).map ptext = ((pairs ps).take k).map ptext ++ [ptext ((pn : Int), p.val)]) := Lib.hid (by
            rw [List.take_add_one, List.map_append]
            unfold pairs
            rw [List.getElem?_map, hp, ← hpn]
            rfl)
          have HBA : Hid (Below wr.heap.size wr (wr.alloc (.cells #[.int .i64 (pn : Int), .slice p.va p.vl p.vc] 73))) := Lib.hid (by go_grown)
          clear hp hpm hpn hints hPA hb hown
          go_wp2_with fail
          refine (HPA.out _ HBA.out).mono ?_
          rintro e w8 ⟨rfl, hb8⟩
          have hb8' := HBA.out.trans (hb8.mono HBA.out.size)
          have hown8 := ownsRow_below HOWN2.out hb8'
          have hb9 := HB.out.trans (hb8'.mono HB.out.size)
          have hownA := hown8.alloc (.cells #[.string ⟨(ptext ((pn : Int), p.val)).toArray⟩] 9)
          have hbA := hb9.alloc hb9.size (.cells #[.string ⟨(ptext ((pn : Int), p.val)).toArray⟩] 9)
          have hnews : ∀ j u, ([.string ⟨(ptext ((pn : Int), p.val)).toArray⟩] : List Value)[j]? = some u → (w8.alloc (.cells #[.string ⟨(ptext ((pn : Int), p.val)).toArray⟩] 9)).cell? ((⟨w8.heap.size, 0, none⟩ : Addr).add j) = some u :=
            World.news_of_block (w := w8.alloc (.cells #[.string ⟨(ptext ((pn : Int), p.val)).toArray⟩] 9)) (cs := #[.string ⟨(ptext ((pn : Int), p.val)).toArray⟩]) (t := 9) (fr := (0, 0)) (heap_alloc_new w8 _)
          have hsz := hb9.size
          have HOWNA := Lib.hid hownA
          have HBAA := Lib.hid hbA
          have HNEWS := Lib.hid hnews
          clear hb8 hb8' hown8 hb9 hownA hbA hnews x0 y0 y1 HOWN2 HB
          go_wp2_with (at_builtin; refine wpList_append_own _ rfl (.tmp 54) (.tmp 57) 79 rfl w1.heap.size 9 i0 (.string ByteArray.empty) 1 16 Tryz.underlying79 hi hz0 hz1 hz2 rfl (by decide) (.slice va (n + k) vc) (n + k) _ rfl HOWNA.out ⟨w8.heap.size, 0, none⟩ 1 1 _ rfl rfl HNEWS.out (fun u hu => by simp at hu; subst hu; rfl) (by unfold maxLen; omega) (by omega) (by simp; omega) ?_)
          intro v' w9 hown9 hg9 hnil
          obtain ⟨vb, vd, hv⟩ := ownsRow_slice hown9
          rw [hv] at hown9 hnil ⊢
          clear hv hnil
          have HB9 := Lib.hid (HBAA.out.trans (below_own HOWNA.out hg9 HBAA.out.size))
          have HOWN9 : Hid (w9.ownsRow w1.heap.size 9 1 (.slice vb (n + (k + 1)) vd) (n + (k + 1)) (strV (headT kn ent ++ ((pairs ps).take (k + 1)).map ptext))) := Lib.hid (by
            rw [HTK.out, ← List.append_assoc, strV_snoc, List.map_take]
            exact hown9)
          clear hown9 hg9 HOWNA HNEWS HBAA
          go_wp2_with fail
          go_roundw
          case rel =>
            refine ⟨_, _, _, _, _, _, _, _, _, _, _, _, _, _, _, ⟨k + 1, vb, vd, ?_, ?_, by omega, HOWN9.out, HB9.out⟩, rfl⟩
            · rfl
            · go_num
          case measure => simp [intOf]; omega
        · obtain rfl : k = pl := by omega
          have hpl2 : (pairs ps).length = k := by unfold pairs; rw [List.length_map]; exact HC.out.parts.1
          have hfull : (pairs ps).take k = pairs ps := by rw [← hpl2, List.take_length]
          rw [hfull] at hown
          have hlb := line_len (l := headT kn ent ++ (pairs ps).map ptext) (m := 0) (fun x hx => by
            rcases List.mem_append.1 hx with hx | hx
            · exact (headT_len e0 e1).1 x hx
            · obtain ⟨y, hy, rfl⟩ := List.mem_map.1 hx
              unfold pairs at hy
              obtain ⟨p, hp, rfl⟩ := List.mem_map.1 hy
              exact ptext_len (HC.out.ids p hp).2 ((HC.out.parts.2.2.2.1 p hp).2.2.2.1) (HC.out.len p hp)) (by rw [List.length_append, HLN.out, List.length_map, hpl2]; omega)
          have HJ := Lib.hid (join_any (s := 32) hown (by rw [List.length_append, HLN.out, List.length_map, hpl2]) (by omega) hlb (by omega))
          have HB := Lib.hid hb
          clear hown hb hlb hfull hpl2
          go_wp2_with fail
          refine HJ.out.mono ?_
          rintro e w10 ⟨rfl, hb10⟩
          have HF := Lib.hid (HB1.out.trans ((HB.out.trans (hb10.mono HB.out.size)).mono HB1.out.size))
          clear hb10
          go_wp2_with fail
          go_returns
          exact ⟨by unfold CM.line; rw [HT.out]; rfl, HF.out⟩
end Go.Proofs.YtnhlnnehpmjeiaaGreatDoor
