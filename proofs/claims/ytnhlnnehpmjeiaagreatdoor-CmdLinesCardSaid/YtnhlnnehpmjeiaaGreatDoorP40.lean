/- CmdLines: the walk of the law. Printed by mkO9.py out of O9.in. · The law's test of great schemas; deeds as they lie; what TableRoom's rounds keep. -/
import Derived.Test.YtnhlnnehpmjeiaaGreatDoorP35
import Derived.Test.YtnhlnnehpmjeiaaGreatDoorP28
import Derived.Test.YtnhlnnehpmjeiaaGreatDoorP4
import Derived.Test.YtnhlnnehpmjeiaaGreatDoorP39
import Derived.Test.YtnhlnnehpmjeiaaGreatDoorP26
namespace Go.Proofs.YtnhlnnehpmjeiaaGreatDoor
open Go.RowKit
set_option linter.unusedVariables false
open Go.Lib (decDigits byteCells join)
def cl_list (k1 e1 c1 : Int) (pa : Option Addr) (pl pc : Nat) (k2 e2 c2 : Int) (qa : Option Addr) (ql qc : Nat) (W1 W2 : ByteArray) (R : Bool) : List (Value → World → Prop) :=
  [IsV (.agg #[.int .i64 k1, .int .u64 e1, .int .i64 c1, .slice pa pl pc]),
   IsV (.string W1),
   IsV (.agg #[.int .i64 k2, .int .u64 e2, .int .i64 c2, .slice qa ql qc]),
   IsV (.string W2),
   IsV (.bool R),
   IsV (.agg #[.int .i64 k1, .int .u64 e1, .int .i64 c1, .slice pa pl pc]),
   IsV (.agg #[.int .i64 k2, .int .u64 e2, .int .i64 c2, .slice qa ql qc]),
   IsV (.bool R),
   IsV (.bool true),
   IsV (.bool true),
   IsV (.agg #[.int .i64 k1, .int .u64 e1, .int .i64 c1, .slice pa pl pc]),
   IsV (.string W1),
   IsV (.bool true),
   IsV (.bool true),
   IsV (.bool true),
   IsV (.agg #[.int .i64 k1, .int .u64 e1, .int .i64 c1, .slice pa pl pc]),
   IsV (.agg #[.int .i64 k2, .int .u64 e2, .int .i64 c2, .slice qa ql qc]),
   IsV (.bool R),
   IsV (.agg #[.int .i64 k2, .int .u64 e2, .int .i64 c2, .slice qa ql qc]),
   IsV (.agg #[.int .i64 k1, .int .u64 e1, .int .i64 c1, .slice pa pl pc]),
   IsV (.bool R),
   IsV (.bool true),
   IsV (.bool true),
   IsV (.bool true)]
theorem cl_list_lasts (k1 e1 c1 : Int) (pa : Option Addr) (pl pc : Nat) (k2 e2 c2 : Int) (qa : Option Addr) (ql qc : Nat) (W1 W2 : ByteArray) (R : Bool) : ∀ p ∈ cl_list k1 e1 c1  pa  pl pc  k2 e2 c2  qa  ql qc  W1 W2  R , Lasts p := by
  simp only [cl_list, List.mem_cons, List.not_mem_nil, or_false]
  rintro p hp
  repeat (rcases hp with rfl | hp; exact lasts_v _)
theorem fit_form : ∀ (fs : List Fld) (v : List WI), fitGo fs v = 0 → v.length = cnt fs → ∀ x ∈ v, x.form = true
  | [], v, _, hl => by
    intro x hx
    rw [List.eq_nil_of_length_eq_zero hl] at hx
    cases hx
  | f :: r, v, h, hl => by
    intro x hx
    unfold fitGo at h
    split at h
    · rename_i ha
      rw [cnt_cons] at hl
      rw [← List.take_append_drop f.count.toNat v] at hx
      rcases List.mem_append.1 hx with hx | hx
      · have := List.all_eq_true.1 ha x hx
        unfold fitsF at this
        simp only [Bool.and_eq_true] at this
        exact this.1.1.2
      · exact fit_form r _ h (by rw [List.length_drop]; omega) x hx
    · cases h
/-- What can be is without too much. -/
theorem ChOk.at_ {ver : Int} {cs : List Cmp} {k e c : Int} {pl pc : Nat} {ps : List PW} {pa : Option Addr} {B : Nat} {w : World} (h : ChOk ver cs k e c pl ps) (hp : PartsAt B w pa pl pc ps) (he : 0 ≤ e ∧ e < 18446744073709551616) (hl : longB ps = false) : CmdAt B w k.toNat e c pa pl pc ps := by
  have hok := PartsOk.of h.sch h.parts
  have hids : ∀ c ∈ cs, 1 ≤ c.id ∧ c.id ≤ 24 := by
    have hs := h.sch
    unfold schemaCheck at hs
    split at hs
    · cases hs
    · exact compsGo_ids cs 0 [] (by omega) hs
  have hk0 := h.k0
  have hk1 := h.k1
  have hc : 0 ≤ c ∧ c < 100 := by
    by_cases h5 : k = 5
    · obtain ⟨x, hx⟩ := h.has h5
      have h1 := hids x (findC_mem hx)
      have h2 := findC_id hx
      omega
    · have hpl := h.plain
      unfold plainC at hpl
      rw [if_neg h5] at hpl
      split at hpl
      · simp at hpl; omega
      · split at hpl <;> (simp at hpl; omega)
  have hid : ∀ p ∈ ps, 0 ≤ p.comp ∧ p.comp < 100 := fun p hp => by
    have h1 := List.all_eq_true.1 hok.ids p.comp (List.mem_map.2 ⟨p, hp, rfl⟩)
    unfold idB at h1
    simp at h1
    omega
  refine ⟨by omega, by omega, he.1, he.2, hc.1, hc.2, hp, by rw [← hp.1]; exact (longB_f hl).1, hid, fun p hpm x hx => ?_, (longB_f hl).2, fun h2 => ?_⟩
  · obtain ⟨cc, hcc, hfit⟩ := cpF_find (hok.fit p hpm)
    obtain ⟨_, h2, h3⟩ := fit_zero hfit
    exact fit_form _ _ h3 h2 x hx
  · have hpl := h.plain
    unfold plainC at hpl
    rw [if_neg (by omega), if_pos (by omega)] at hpl
    simp at hpl
    exact hpl.2
theorem ChOk.good {ver : Int} {cs : List Cmp} {k e c : Int} {pl pc : Nat} {ps : List PW} {pa : Option Addr} {B : Nat} {w : World} (h : ChOk ver cs k e c pl ps) (hp : PartsAt B w pa pl pc ps) (he : 0 ≤ e ∧ e < 18446744073709551616) (hl : longB ps = false) : (cmOf k e c ps).Good := by
  have hat := h.at_ hp he hl
  have hpl := h.plain
  unfold plainC at hpl
  have hps : pl = 0 → pairs ps = [] := fun h0 => by
    have : ps = [] := List.eq_nil_of_length_eq_zero (by rw [hp.1]; exact h0)
    rw [this]; rfl
  refine ⟨⟨h.k0, h.k1⟩, he, hat.c0, fun p hpm => ?_, fun h1 => ?_, fun h2 => ?_, fun h3 => ?_, fun h5 => ?_⟩
  · unfold cmOf pairs at hpm
    obtain ⟨y, hy, rfl⟩ := List.mem_map.1 hpm
    exact ⟨(hat.ids y hy).1, (hp.2.2.2.1 y hy).2.2.2.1⟩
  · have h1 : k = 1 := h1
    rw [if_pos h1] at hpl
    simp at hpl
    exact hpl
  · have h2 : k = 2 := h2
    rw [if_neg (by omega), if_pos h2] at hpl
    simp at hpl
    exact ⟨hpl.1, hps hpl.2⟩
  · have h3 : k = 3 ∨ k = 4 := h3
    rw [if_neg (by omega), if_neg (by omega), if_neg (by omega)] at hpl
    simp at hpl
    exact hpl.1
  · have h5 : k = 5 := h5
    rw [if_neg (by omega), if_neg (by omega), if_pos h5] at hpl
    simp at hpl
    exact hps hpl
/-- The law's arguments, boxed. -/
structure LnW (w0 : World) (q : Nat) (ver : Int) (a : Option Addr) (len cap : Nat) (k1 e1 c1 : Int) (pa : Option Addr) (pl pc : Nat) (k2 e2 c2 : Int) (qa : Option Addr) (ql qc : Nat) (w : World) : Prop where
  s : w.heap[q]? = some (.cells #[.int .i64 ver, .slice a len cap] 43 (0, 0))
  a_ : w.heap[q + 1]? = some (.cells #[.int .i64 k1, .int .u64 e1, .int .i64 c1, .slice pa pl pc] 34 (0, 0))
  b_ : w.heap[q + 2]? = some (.cells #[.int .i64 k2, .int .u64 e2, .int .i64 c2, .slice qa ql qc] 34 (0, 0))
  bel : Below w0.heap.size w0 w
section
variable {w0 w w' : World} {q : Nat} {ver : Int} {a : Option Addr} {len cap : Nat} {k1 e1 c1 : Int} {pa : Option Addr} {pl pc : Nat} {k2 e2 c2 : Int} {qa : Option Addr} {ql qc : Nat}
theorem LnW.below (h : LnW w0 q ver a len cap k1 e1 c1 pa pl pc k2 e2 c2 qa ql qc w) (hb : Below w.heap.size w w') : LnW w0 q ver a len cap k1 e1 c1 pa pl pc k2 e2 c2 qa ql qc w' :=
  ⟨keep hb h.s, keep hb h.a_, keep hb h.b_, h.bel.trans (hb.mono h.bel.size)⟩
theorem LnW.cells (h : LnW w0 q ver a len cap k1 e1 c1 pa pl pc k2 e2 c2 qa ql qc w) : w.cell? ⟨q, 0, none⟩ = some (.int .i64 ver) ∧ w.cell? ⟨q, 1, none⟩ = some (.slice a len cap) ∧
    w.cell? ⟨q + 1, 0, none⟩ = some (.int .i64 k1) ∧ w.cell? ⟨q + 1, 1, none⟩ = some (.int .u64 e1) ∧ w.cell? ⟨q + 1, 2, none⟩ = some (.int .i64 c1) ∧ w.cell? ⟨q + 1, 3, none⟩ = some (.slice pa pl pc) ∧
    w.cell? ⟨q + 2, 0, none⟩ = some (.int .i64 k2) ∧ w.cell? ⟨q + 2, 1, none⟩ = some (.int .u64 e2) ∧ w.cell? ⟨q + 2, 2, none⟩ = some (.int .i64 c2) ∧ w.cell? ⟨q + 2, 3, none⟩ = some (.slice qa ql qc) := by
  have s0 := cell_at h.s 0
  have s1 := cell_at h.s 1
  have a0 := cell_at h.a_ 0
  have a1 := cell_at h.a_ 1
  have a2 := cell_at h.a_ 2
  have a3 := cell_at h.a_ 3
  have b0 := cell_at h.b_ 0
  have b1 := cell_at h.b_ 1
  have b2 := cell_at h.b_ 2
  have b3 := cell_at h.b_ 3
  simp at s0 s1 a0 a1 a2 a3 b0 b1 b2 b3
  exact ⟨s0, s1, a0, a1, a2, a3, b0, b1, b2, b3⟩
end
set_option maxRecDepth 100000 in
set_option maxHeartbeats 8000000 in
theorem lines_walk (ver : Int) (cs : List Cmp) (a : Option Addr) (len cap : Nat) (k1 e1 c1 : Int) (pa : Option Addr) (pl pc : Nat) (ps : List PW) (k2 e2 c2 : Int) (qa : Option Addr) (ql qc : Nat) (qs : List PW) (w : World)
    (hcs : CompsAt w.heap.size w a len cs) (hwf : CompsWf cs) (hp : PartsAt w.heap.size w pa pl pc ps) (hq : PartsAt w.heap.size w qa ql qc qs) (he1 : 0 ≤ e1 ∧ e1 < 18446744073709551616) (he2 : 0 ≤ e2 ∧ e2 < 18446744073709551616) (ht : Tab w) :
    Calls Tryz.prog 4 #[.agg #[.int .i64 ver, .slice a len cap], .agg #[.int .i64 k1, .int .u64 e1, .int .i64 c1, .slice pa pl pc], .agg #[.int .i64 k2, .int .u64 e2, .int .i64 c2, .slice qa ql qc]] w fun e w' => e = .returned (.bool true) ∧ Below w.heap.size w w' := by
  have HG : Hid (∀ W, Below w.heap.size w W → Calls Tryz.prog 11 #[.agg #[.int .i64 ver, .slice a len cap]] W fun e w' => e = .returned (.bool (great18B cs)) ∧ Below W.heap.size W w') := Lib.hid (fun W hW => great21_any ver cs a len cap W ((hcs.below hW).mono hW.size))
  have HLA : Hid (∀ W, Below w.heap.size w W → Calls Tryz.prog 12 #[.agg #[.int .i64 k1, .int .u64 e1, .int .i64 c1, .slice pa pl pc]] W fun e w' => e = .returned (.bool (longB ps)) ∧ Below W.heap.size W w') := Lib.hid (fun W hW => long21_any k1 e1 c1 pa pl pc ps W ((hp.below hW).mono hW.size))
  have HLB : Hid (∀ W, Below w.heap.size w W → Calls Tryz.prog 12 #[.agg #[.int .i64 k2, .int .u64 e2, .int .i64 c2, .slice qa ql qc]] W fun e w' => e = .returned (.bool (longB qs)) ∧ Below W.heap.size W w') := Lib.hid (fun W hW => long21_any k2 e2 c2 qa ql qc qs W ((hq.below hW).mono hW.size))
  have HSA : Hid (∀ W, Below w.heap.size w W → Calls Tryz.prog 9 #[.agg #[.int .i64 k1, .int .u64 e1, .int .i64 c1, .slice pa pl pc], .agg #[.int .i64 k1, .int .u64 e1, .int .i64 c1, .slice pa pl pc]] W fun e w' => e = .returned (.bool true) ∧ Below W.heap.size W w') := Lib.hid (fun W hW => (same_any k1 e1 c1 pa pl pc ps k1 e1 c1 pa pl pc ps W ((hp.below hW).mono hW.size) ((hp.below hW).mono hW.size)).mono fun e w' hr => by
    obtain ⟨r, rfl, h1, h2⟩ := hr
    rw [h1.2 rfl]
    exact ⟨rfl, h2⟩)
  obtain ⟨R, hR⟩ : ∃ R : Bool, (R = true ↔ cmOf k1 e1 c1 ps = cmOf k2 e2 c2 qs) := by
    by_cases h : cmOf k1 e1 c1 ps = cmOf k2 e2 c2 qs
    · exact ⟨true, by simp [h]⟩
    · exact ⟨false, by simp [h]⟩
  have HS12 : Hid (∀ W, Below w.heap.size w W → Calls Tryz.prog 9 #[.agg #[.int .i64 k1, .int .u64 e1, .int .i64 c1, .slice pa pl pc], .agg #[.int .i64 k2, .int .u64 e2, .int .i64 c2, .slice qa ql qc]] W fun e w' => e = .returned (.bool R) ∧ Below W.heap.size W w') := Lib.hid (fun W hW => (same_any k1 e1 c1 pa pl pc ps k2 e2 c2 qa ql qc qs W ((hp.below hW).mono hW.size) ((hq.below hW).mono hW.size)).mono fun e w' hr => by
    obtain ⟨r, rfl, h1, h2⟩ := hr
    have : r = R := Bool.eq_iff_iff.2 (h1.trans hR.symm)
    rw [this]
    exact ⟨rfl, h2⟩)
  have HS21 : Hid (∀ W, Below w.heap.size w W → Calls Tryz.prog 9 #[.agg #[.int .i64 k2, .int .u64 e2, .int .i64 c2, .slice qa ql qc], .agg #[.int .i64 k1, .int .u64 e1, .int .i64 c1, .slice pa pl pc]] W fun e w' => e = .returned (.bool R) ∧ Below W.heap.size W w') := Lib.hid (fun W hW => (same_any k2 e2 c2 qa ql qc qs k1 e1 c1 pa pl pc ps W ((hq.below hW).mono hW.size) ((hp.below hW).mono hW.size)).mono fun e w' hr => by
    obtain ⟨r, rfl, h1, h2⟩ := hr
    have : r = R := Bool.eq_iff_iff.2 (h1.trans ⟨fun h => hR.2 h.symm, fun h => (hR.1 h).symm⟩)
    rw [this]
    exact ⟨rfl, h2⟩)
  have HCS := Lib.hid hcs
  have HWF := Lib.hid hwf
  have HP := Lib.hid hp
  have HQ := Lib.hid hq
  have HE1 := Lib.hid he1
  have HE2 := Lib.hid he2
  have HTB := Lib.hid ht
  have HRR := Lib.hid hR
  have hln : LnW w w.heap.size ver a len cap k1 e1 c1 pa pl pc k2 e2 c2 qa ql qc (((w.alloc (.cells #[.int .i64 ver, .slice a len cap] 43)).alloc (.cells #[.int .i64 k1, .int .u64 e1, .int .i64 c1, .slice pa pl pc] 34)).alloc (.cells #[.int .i64 k2, .int .u64 e2, .int .i64 c2, .slice qa ql qc] 34)) := by
    have z1 := heap_alloc_new w (.cells #[.int .i64 ver, .slice a len cap] 43)
    have z2 := heap_alloc_new (w.alloc (.cells #[.int .i64 ver, .slice a len cap] 43)) (.cells #[.int .i64 k1, .int .u64 e1, .int .i64 c1, .slice pa pl pc] 34)
    have z3 := heap_alloc_new ((w.alloc (.cells #[.int .i64 ver, .slice a len cap] 43)).alloc (.cells #[.int .i64 k1, .int .u64 e1, .int .i64 c1, .slice pa pl pc] 34)) (.cells #[.int .i64 k2, .int .u64 e2, .int .i64 c2, .slice qa ql qc] 34)
    rw [World.size_alloc] at z2
    rw [World.size_alloc, World.size_alloc] at z3
    exact ⟨keepA _ (keepA _ z1), keepA _ z2, z3, by go_grown⟩
  have HLN0 := Lib.hid hln
  clear hcs hwf hp hq he1 he2 ht hR hln
  go_enter Tryz.func4, Tryz.ntmps4
  go_wp2_with fail
  generalize ((w.alloc (.cells #[.int .i64 ver, .slice a len cap] 43)).alloc (.cells #[.int .i64 k1, .int .u64 e1, .int .i64 c1, .slice pa pl pc] 34)).alloc (.cells #[.int .i64 k2, .int .u64 e2, .int .i64 c2, .slice qa ql qc] 34) = w1 at HLN0 ⊢
  obtain ⟨q, hqq⟩ : ∃ q, w.heap.size = q := ⟨_, rfl⟩
  have HQQ := Lib.hid hqq
  have HLN1 : Hid (LnW w q ver a len cap k1 e1 c1 pa pl pc k2 e2 c2 qa ql qc w1) := Lib.hid (hqq ▸ HLN0.out)
  rw [hqq]
  clear hqq HLN0
  refine (awake21_any w1).mono ?_
  rintro e w2 ⟨rfl, hb2⟩
  have HLN2 := Lib.hid (HLN1.out.below hb2)
  obtain ⟨s0, s1, a0, a1, a2, a3, b0, b1, b2, b3⟩ := HLN2.out.cells
  clear hb2 HLN1
  go_wp2_with fail
  refine (HG.out _ HLN2.out.bel).mono ?_
  rintro e w3 ⟨rfl, hb3⟩
  have HLN3 := Lib.hid (HLN2.out.below hb3)
  clear hb3 HLN2 s0 s1 a0 a1 a2 a3 b0 b1 b2 b3
  obtain ⟨s0, s1, a0, a1, a2, a3, b0, b1, b2, b3⟩ := HLN3.out.cells
  obtain ⟨G, hG⟩ : ∃ G, great18B cs = G := ⟨_, rfl⟩
  rw [hG] at HG ⊢
  have HGG := Lib.hid hG
  clear hG
  cases G
  rotate_left
  · go_wp2_with fail
    refine (HG.out _ HLN3.out.bel).mono ?_
    rintro e w4 ⟨rfl, hb4⟩
    have HLN4 := Lib.hid (HLN3.out.below hb4)
    clear hb4
    go_wp2_with fail
    go_returns
    exact ⟨rfl, HLN4.out.bel⟩
  go_wp2_with fail
  refine (HLA.out _ HLN3.out.bel).mono ?_
  rintro e w4 ⟨rfl, hb4⟩
  have HLN4 := Lib.hid (HLN3.out.below hb4)
  clear hb4 HLN3 s0 s1 a0 a1 a2 a3 b0 b1 b2 b3
  obtain ⟨s0, s1, a0, a1, a2, a3, b0, b1, b2, b3⟩ := HLN4.out.cells
  obtain ⟨LA, hLA⟩ : ∃ LA, longB ps = LA := ⟨_, rfl⟩
  rw [hLA] at HLA ⊢
  have HLAA := Lib.hid hLA
  clear hLA
  cases LA
  rotate_left
  · go_wp2_with fail
    refine (HG.out _ HLN4.out.bel).mono ?_
    rintro e w5 ⟨rfl, hb5⟩
    have HLN5 := Lib.hid (HLN4.out.below hb5)
    clear hb5 s0 s1 a0 a1 a2 a3 b0 b1 b2 b3
    obtain ⟨s0, s1, a0, a1, a2, a3, b0, b1, b2, b3⟩ := HLN5.out.cells
    go_wp2_with fail
    refine (HLA.out _ HLN5.out.bel).mono ?_
    rintro e w6 ⟨rfl, hb6⟩
    have HLN6 := Lib.hid (HLN5.out.below hb6)
    clear hb6
    go_wp2_with fail
    go_returns
    exact ⟨rfl, HLN6.out.bel⟩
  go_wp2_with fail
  refine (HLB.out _ HLN4.out.bel).mono ?_
  rintro e w5 ⟨rfl, hb5⟩
  have HLN5 := Lib.hid (HLN4.out.below hb5)
  clear hb5 HLN4 s0 s1 a0 a1 a2 a3 b0 b1 b2 b3
  obtain ⟨s0, s1, a0, a1, a2, a3, b0, b1, b2, b3⟩ := HLN5.out.cells
  obtain ⟨LB, hLB⟩ : ∃ LB, longB qs = LB := ⟨_, rfl⟩
  rw [hLB] at HLB ⊢
  have HLBB := Lib.hid hLB
  clear hLB
  cases LB
  rotate_left
  · go_wp2_with fail
    refine (HG.out _ HLN5.out.bel).mono ?_
    rintro e w6 ⟨rfl, hb6⟩
    have HLN6 := Lib.hid (HLN5.out.below hb6)
    clear hb6 s0 s1 a0 a1 a2 a3 b0 b1 b2 b3
    obtain ⟨s0, s1, a0, a1, a2, a3, b0, b1, b2, b3⟩ := HLN6.out.cells
    go_wp2_with fail
    refine (HLA.out _ HLN6.out.bel).mono ?_
    rintro e w7 ⟨rfl, hb7⟩
    have HLN7 := Lib.hid (HLN6.out.below hb7)
    clear hb7 s0 s1 a0 a1 a2 a3 b0 b1 b2 b3
    obtain ⟨s0, s1, a0, a1, a2, a3, b0, b1, b2, b3⟩ := HLN7.out.cells
    go_wp2_with fail
    refine (HLB.out _ HLN7.out.bel).mono ?_
    rintro e w8 ⟨rfl, hb8⟩
    have HLN8 := Lib.hid (HLN7.out.below hb8)
    clear hb8
    go_wp2_with fail
    go_returns
    exact ⟨rfl, HLN8.out.bel⟩
  go_wp2_with fail
  refine (HSA.out _ HLN5.out.bel).mono ?_
  rintro e w6 ⟨rfl, hb6⟩
  have HLN6 := Lib.hid (HLN5.out.below hb6)
  clear hb6 HLN5 s0 s1 a0 a1 a2 a3 b0 b1 b2 b3 HLA HLB HSA HG
  obtain ⟨s0, s1, a0, a1, a2, a3, b0, b1, b2, b3⟩ := HLN6.out.cells
  have HF := Lib.hid (great18_f HGG.out)
  have HC1 : Hid (∀ W, Below w.heap.size w W → Calls Tryz.prog 13 #[.agg #[.int .i64 ver, .slice a len cap], .agg #[.int .i64 k1, .int .u64 e1, .int .i64 c1, .slice pa pl pc]] W fun en w' => ∃ r : Int, en = .returned (.int .i64 r) ∧ (r = 0 → ChOk ver cs k1 e1 c1 pl ps) ∧ Below W.heap.size W w') := Lib.hid (fun W hW => cmdCheck_any ver cs a len cap k1 e1 c1 pa pl pc ps W ((HCS.out.below hW).mono hW.size) HWF.out HF.out ((HP.out.below hW).mono hW.size) (by have := (longB_f HLAA.out).1; have := HP.out.1; omega))
  have HC2 : Hid (∀ W, Below w.heap.size w W → Calls Tryz.prog 13 #[.agg #[.int .i64 ver, .slice a len cap], .agg #[.int .i64 k2, .int .u64 e2, .int .i64 c2, .slice qa ql qc]] W fun en w' => ∃ r : Int, en = .returned (.int .i64 r) ∧ (r = 0 → ChOk ver cs k2 e2 c2 ql qs) ∧ Below W.heap.size W w') := Lib.hid (fun W hW => cmdCheck_any ver cs a len cap k2 e2 c2 qa ql qc qs W ((HCS.out.below hW).mono hW.size) HWF.out HF.out ((HQ.out.below hW).mono hW.size) (by have := (longB_f HLBB.out).1; have := HQ.out.1; omega))
  go_wp2_with fail
  refine (HC1.out _ HLN6.out.bel).mono ?_
  rintro e w7 ⟨r1, rfl, hr1, hb7⟩
  have HLN7 := Lib.hid (HLN6.out.below hb7)
  clear hb7 HLN6 s0 s1 a0 a1 a2 a3 b0 b1 b2 b3
  by_cases h1 : r1 = 0
  rotate_left
  · have t1 : (r1 != 0) = true := by simp [h1]
    clear h1 hr1
    go_wp2_with fail
    go_returns
    exact ⟨rfl, HLN7.out.bel⟩
  have HOK1 := Lib.hid (hr1 h1)
  subst h1
  clear hr1
  obtain ⟨s0, s1, a0, a1, a2, a3, b0, b1, b2, b3⟩ := HLN7.out.cells
  go_wp2_with fail
  refine (HC2.out _ HLN7.out.bel).mono ?_
  rintro e w8 ⟨r2, rfl, hr2, hb8⟩
  have HLN := Lib.hid (HLN7.out.below hb8)
  clear hb8 HLN7 s0 s1 a0 a1 a2 a3 b0 b1 b2 b3
  by_cases h2 : r2 = 0
  rotate_left
  · have t1 : (r2 != 0) = true := by simp [h2]
    clear h2 hr2
    go_wp2_with fail
    go_returns
    exact ⟨rfl, HLN.out.bel⟩
  have HOK2 := Lib.hid (hr2 h2)
  subst h2
  clear hr2 HC1 HC2
  obtain ⟨W1, hW1⟩ : ∃ W1 : ByteArray, (⟨(cmOf k1 e1 c1 ps).line.toArray⟩ : ByteArray) = W1 := ⟨_, rfl⟩
  obtain ⟨W2, hW2⟩ : ∃ W2 : ByteArray, (⟨(cmOf k2 e2 c2 qs).line.toArray⟩ : ByteArray) = W2 := ⟨_, rfl⟩
  have hkn1 : ((k1.toNat : Nat) : Int) = k1 := by have := HOK1.out.k0; omega
  have hkn2 : ((k2.toNat : Nat) : Int) = k2 := by have := HOK2.out.k0; omega
  have HL1 : Hid (∀ W, Below w.heap.size w W → Calls Tryz.prog 14 #[.agg #[.int .i64 k1, .int .u64 e1, .int .i64 c1, .slice pa pl pc]] W fun e w' => e = .returned (.string W1) ∧ Below W.heap.size W w') := Lib.hid (fun W hW => by
    have := line_any k1.toNat e1 c1 pa pl pc ps W (HOK1.out.at_ ((HP.out.below hW).mono hW.size) HE1.out HLAA.out) (HTB.out.below hW)
    rw [hkn1, hW1] at this
    exact this)
  have HL2 : Hid (∀ W, Below w.heap.size w W → Calls Tryz.prog 14 #[.agg #[.int .i64 k2, .int .u64 e2, .int .i64 c2, .slice qa ql qc]] W fun e w' => e = .returned (.string W2) ∧ Below W.heap.size W w') := Lib.hid (fun W hW => by
    have := line_any k2.toNat e2 c2 qa ql qc qs W (HOK2.out.at_ ((HQ.out.below hW).mono hW.size) HE2.out HLBB.out) (HTB.out.below hW)
    rw [hkn2, hW2] at this
    exact this)
  have hg1 := HOK1.out.good HP.out HE1.out HLAA.out
  have hg2 := HOK2.out.good HQ.out HE2.out HLBB.out
  have tl : ∀ l : List UInt8, (⟨l.toArray⟩ : ByteArray).toList = l := fun l => by rw [ByteArray.toList_eq]
  have hLR : (W1.toList == W2.toList) = R := by
    rw [← hW1, ← hW2, tl, tl]
    refine Bool.eq_iff_iff.2 ?_
    rw [beq_iff_eq, HRR.out]
    exact ⟨fun h => CM.line_inj hg1 hg2 h, fun h => by rw [h]⟩
  have hne : (W1.toList == []) = false := by
    rw [← hW1, tl]
    have := CM.line_ne (cmOf k1 e1 c1 ps)
    simpa using this
  clear hW1 hW2 hkn1 hkn2 hg1 hg2 tl HOK1 HOK2 HCS HWF HP HQ HE1 HE2 HTB HRR HF HGG HLAA HLBB HQQ
  go_wp2_with fail
  refine wp_region_frame (by kernel_rfl) (by kernel_rfl) (by kernel_rfl) (byList (cl_list k1 e1 c1 pa pl pc k2 e2 c2 qa ql qc W1 W2 R)) (lasts_list (cl_list_lasts k1 e1 c1 pa pl pc k2 e2 c2 qa ql qc W1 W2 R)) ?_ ?_
  · intro vs w' iq o A F hb ho hd
    have m4 : A.tmps[4]?.getD undef = (.pointer (some ⟨q + 1, 0, none⟩)) := F.m (by kernel_rfl) rfl
    have m5 : A.tmps[5]?.getD undef = (.pointer (some ⟨q + 2, 0, none⟩)) := F.m (by kernel_rfl) rfl
    have G := F.light (n := 68) (by kernel_rfl)
    clear F
    obtain ⟨s0, s1, a0, a1, a2, a3, b0, b1, b2, b3⟩ := (HLN.out.below hb).cells
    have HBW := Lib.hid (HLN.out.bel.trans (hb.mono HLN.out.bel.size))
    clear hb
    revert ho hd
    match iq with
    | 0 => intro ho hd; obtain rfl := (Option.some.inj ho).symm; clear hd ho; refine step_open rfl ?_; clear G; exact step_run (v := (.agg #[.int .i64 k1, .int .u64 e1, .int .i64 c1, .slice pa pl pc])) (by go_simp) rfl
    | 1 => intro ho hd; obtain rfl := (Option.some.inj ho).symm; have d0 : vs 0 = (.agg #[.int .i64 k1, .int .u64 e1, .int .i64 c1, .slice pa pl pc]) := hd ⟨0, .data⟩ (by simp) rfl; clear hd ho; have h45 := G.h (j := 0) (d := 45) rfl (by decide) d0; refine step_open rfl ?_; clear G; go_simp; refine (HL1.out _ HBW.out).mono ?_; rintro e w9 ⟨rfl, hb9⟩; exact ⟨_, rfl, rfl, hb9⟩
    | 2 => intro ho hd; obtain rfl := (Option.some.inj ho).symm; clear hd ho; refine step_open rfl ?_; clear G; exact step_run (v := (.agg #[.int .i64 k2, .int .u64 e2, .int .i64 c2, .slice qa ql qc])) (by go_simp) rfl
    | 3 => intro ho hd; obtain rfl := (Option.some.inj ho).symm; have d2 : vs 2 = (.agg #[.int .i64 k2, .int .u64 e2, .int .i64 c2, .slice qa ql qc]) := hd ⟨2, .data⟩ (by simp) rfl; clear hd ho; have h47 := G.h (j := 2) (d := 47) rfl (by decide) d2; refine step_open rfl ?_; clear G; go_simp; refine (HL2.out _ HBW.out).mono ?_; rintro e w9 ⟨rfl, hb9⟩; exact ⟨_, rfl, rfl, hb9⟩
    | 4 => intro ho hd; obtain rfl := (Option.some.inj ho).symm; have d1 : vs 1 = (.string W1) := hd ⟨1, .data⟩ (by simp) rfl; have d3 : vs 3 = (.string W2) := hd ⟨3, .data⟩ (by simp) rfl; clear hd ho; have h46 := G.h (j := 1) (d := 46) rfl (by decide) d1; have h48 := G.h (j := 3) (d := 48) rfl (by decide) d3; refine step_open rfl ?_; clear G; exact step_run (v := (.bool R)) (by go_simp) rfl
    | 5 => intro ho hd; obtain rfl := (Option.some.inj ho).symm; clear hd ho; refine step_open rfl ?_; clear G; exact step_run (v := (.agg #[.int .i64 k1, .int .u64 e1, .int .i64 c1, .slice pa pl pc])) (by go_simp) rfl
    | 6 => intro ho hd; obtain rfl := (Option.some.inj ho).symm; clear hd ho; refine step_open rfl ?_; clear G; exact step_run (v := (.agg #[.int .i64 k2, .int .u64 e2, .int .i64 c2, .slice qa ql qc])) (by go_simp) rfl
    | 7 => intro ho hd; obtain rfl := (Option.some.inj ho).symm; have d5 : vs 5 = (.agg #[.int .i64 k1, .int .u64 e1, .int .i64 c1, .slice pa pl pc]) := hd ⟨5, .data⟩ (by simp) rfl; have d6 : vs 6 = (.agg #[.int .i64 k2, .int .u64 e2, .int .i64 c2, .slice qa ql qc]) := hd ⟨6, .data⟩ (by simp) rfl; clear hd ho; have h50 := G.h (j := 5) (d := 50) rfl (by decide) d5; have h51 := G.h (j := 6) (d := 51) rfl (by decide) d6; refine step_open rfl ?_; clear G; go_simp; refine (HS12.out _ HBW.out).mono ?_; rintro e w9 ⟨rfl, hb9⟩; exact ⟨_, rfl, rfl, hb9⟩
    | 8 => intro ho hd; obtain rfl := (Option.some.inj ho).symm; have d4 : vs 4 = (.bool R) := hd ⟨4, .data⟩ (by simp) rfl; have d7 : vs 7 = (.bool R) := hd ⟨7, .data⟩ (by simp) rfl; clear hd ho; have h49 := G.h (j := 4) (d := 49) rfl (by decide) d4; have h52 := G.h (j := 7) (d := 52) rfl (by decide) d7; refine step_open rfl ?_; clear G; exact step_run (v := (.bool true)) (by go_simp) rfl
    | 9 => intro ho hd; obtain rfl := (Option.some.inj ho).symm; have d8 : vs 8 = (.bool true) := hd ⟨8, .data⟩ (by simp) rfl; clear hd ho; have h53 := G.h (j := 8) (d := 53) rfl (by decide) d8; refine step_open rfl ?_; clear G; exact step_run (v := (.bool true)) (by go_simp) rfl
    | 10 => intro ho hd; obtain rfl := (Option.some.inj ho).symm; have d9 : vs 9 = (.bool true) := hd ⟨9, .guard⟩ (by simp) rfl; clear hd ho; refine step_yes G rfl rfl (by decide) d9 ?_; clear G; exact step_run (v := (.agg #[.int .i64 k1, .int .u64 e1, .int .i64 c1, .slice pa pl pc])) (by go_simp) rfl
    | 11 => intro ho hd; obtain rfl := (Option.some.inj ho).symm; have d10 : vs 10 = (.agg #[.int .i64 k1, .int .u64 e1, .int .i64 c1, .slice pa pl pc]) := hd ⟨10, .data⟩ (by simp) rfl; have d9 : vs 9 = (.bool true) := hd ⟨9, .guard⟩ (by simp) rfl; clear hd ho; have h55 := G.h (j := 10) (d := 55) rfl (by decide) d10; refine step_yes G rfl rfl (by decide) d9 ?_; clear G; go_simp; refine (HL1.out _ HBW.out).mono ?_; rintro e w9 ⟨rfl, hb9⟩; exact ⟨_, rfl, rfl, hb9⟩
    | 12 => intro ho hd; obtain rfl := (Option.some.inj ho).symm; have d11 : vs 11 = (.string W1) := hd ⟨11, .data⟩ (by simp) rfl; have d9 : vs 9 = (.bool true) := hd ⟨9, .guard⟩ (by simp) rfl; clear hd ho; have h56 := G.h (j := 11) (d := 56) rfl (by decide) d11; refine step_yes G rfl rfl (by decide) d9 ?_; clear G; exact step_run (v := (.bool true)) (by go_simp) rfl
    | 13 => intro ho hd; obtain rfl := (Option.some.inj ho).symm; have d9 : vs 9 = (.bool true) := hd ⟨9, .data⟩ (by simp) rfl; have d12 : vs 12 = (.bool true) := hd ⟨12, .data⟩ (by simp) rfl; clear hd ho; have h54 := G.h (j := 9) (d := 54) rfl (by decide) d9; have h57 := G.h (j := 12) (d := 57) rfl (by decide) d12; refine step_open rfl ?_; clear G; exact step_run (v := (.bool true)) (by go_simp) rfl
    | 14 => intro ho hd; obtain rfl := (Option.some.inj ho).symm; have d13 : vs 13 = (.bool true) := hd ⟨13, .data⟩ (by simp) rfl; clear hd ho; have h58 := G.h (j := 13) (d := 58) rfl (by decide) d13; refine step_open rfl ?_; clear G; exact step_run (v := (.bool true)) (by go_simp) rfl
    | 15 => intro ho hd; obtain rfl := (Option.some.inj ho).symm; have d14 : vs 14 = (.bool true) := hd ⟨14, .guard⟩ (by simp) rfl; clear hd ho; refine step_yes G rfl rfl (by decide) d14 ?_; clear G; exact step_run (v := (.agg #[.int .i64 k1, .int .u64 e1, .int .i64 c1, .slice pa pl pc])) (by go_simp) rfl
    | 16 => intro ho hd; obtain rfl := (Option.some.inj ho).symm; have d14 : vs 14 = (.bool true) := hd ⟨14, .guard⟩ (by simp) rfl; clear hd ho; refine step_yes G rfl rfl (by decide) d14 ?_; clear G; exact step_run (v := (.agg #[.int .i64 k2, .int .u64 e2, .int .i64 c2, .slice qa ql qc])) (by go_simp) rfl
    | 17 => intro ho hd; obtain rfl := (Option.some.inj ho).symm; have d15 : vs 15 = (.agg #[.int .i64 k1, .int .u64 e1, .int .i64 c1, .slice pa pl pc]) := hd ⟨15, .data⟩ (by simp) rfl; have d16 : vs 16 = (.agg #[.int .i64 k2, .int .u64 e2, .int .i64 c2, .slice qa ql qc]) := hd ⟨16, .data⟩ (by simp) rfl; have d14 : vs 14 = (.bool true) := hd ⟨14, .guard⟩ (by simp) rfl; clear hd ho; have h60 := G.h (j := 15) (d := 60) rfl (by decide) d15; have h61 := G.h (j := 16) (d := 61) rfl (by decide) d16; refine step_yes G rfl rfl (by decide) d14 ?_; clear G; go_simp; refine (HS12.out _ HBW.out).mono ?_; rintro e w9 ⟨rfl, hb9⟩; exact ⟨_, rfl, rfl, hb9⟩
    | 18 => intro ho hd; obtain rfl := (Option.some.inj ho).symm; have d14 : vs 14 = (.bool true) := hd ⟨14, .guard⟩ (by simp) rfl; clear hd ho; refine step_yes G rfl rfl (by decide) d14 ?_; clear G; exact step_run (v := (.agg #[.int .i64 k2, .int .u64 e2, .int .i64 c2, .slice qa ql qc])) (by go_simp) rfl
    | 19 => intro ho hd; obtain rfl := (Option.some.inj ho).symm; have d14 : vs 14 = (.bool true) := hd ⟨14, .guard⟩ (by simp) rfl; clear hd ho; refine step_yes G rfl rfl (by decide) d14 ?_; clear G; exact step_run (v := (.agg #[.int .i64 k1, .int .u64 e1, .int .i64 c1, .slice pa pl pc])) (by go_simp) rfl
    | 20 => intro ho hd; obtain rfl := (Option.some.inj ho).symm; have d18 : vs 18 = (.agg #[.int .i64 k2, .int .u64 e2, .int .i64 c2, .slice qa ql qc]) := hd ⟨18, .data⟩ (by simp) rfl; have d19 : vs 19 = (.agg #[.int .i64 k1, .int .u64 e1, .int .i64 c1, .slice pa pl pc]) := hd ⟨19, .data⟩ (by simp) rfl; have d14 : vs 14 = (.bool true) := hd ⟨14, .guard⟩ (by simp) rfl; clear hd ho; have h63 := G.h (j := 18) (d := 63) rfl (by decide) d18; have h64 := G.h (j := 19) (d := 64) rfl (by decide) d19; refine step_yes G rfl rfl (by decide) d14 ?_; clear G; go_simp; refine (HS21.out _ HBW.out).mono ?_; rintro e w9 ⟨rfl, hb9⟩; exact ⟨_, rfl, rfl, hb9⟩
    | 21 => intro ho hd; obtain rfl := (Option.some.inj ho).symm; have d17 : vs 17 = (.bool R) := hd ⟨17, .data⟩ (by simp) rfl; have d20 : vs 20 = (.bool R) := hd ⟨20, .data⟩ (by simp) rfl; have d14 : vs 14 = (.bool true) := hd ⟨14, .guard⟩ (by simp) rfl; clear hd ho; have h62 := G.h (j := 17) (d := 62) rfl (by decide) d17; have h65 := G.h (j := 20) (d := 65) rfl (by decide) d20; refine step_yes G rfl rfl (by decide) d14 ?_; clear G; exact step_run (v := (.bool true)) (by go_simp) rfl
    | 22 => intro ho hd; obtain rfl := (Option.some.inj ho).symm; have d14 : vs 14 = (.bool true) := hd ⟨14, .data⟩ (by simp) rfl; have d21 : vs 21 = (.bool true) := hd ⟨21, .data⟩ (by simp) rfl; clear hd ho; have h59 := G.h (j := 14) (d := 59) rfl (by decide) d14; have h66 := G.h (j := 21) (d := 66) rfl (by decide) d21; refine step_open rfl ?_; clear G; exact step_run (v := (.bool true)) (by go_simp) rfl
    | 23 => intro ho hd; obtain rfl := (Option.some.inj ho).symm; have d22 : vs 22 = (.bool true) := hd ⟨22, .data⟩ (by simp) rfl; clear hd ho; have h67 := G.h (j := 22) (d := 67) rfl (by decide) d22; refine step_open rfl ?_; clear G; exact step_run (v := (.bool true)) (by go_simp) rfl
    | n + 24 => intro ho hd; simp at ho
  · intro vs w' hb hR
    have hv : vs 23 = .bool true := hR 23 (by simp)
    have HB := Lib.hid (HLN.out.bel.trans (hb.mono HLN.out.bel.size))
    simp only [putAll, Act.put, List.setIfInBounds_toArray, List.set_cons_succ, List.set_cons_zero]
    rw [hv]
    clear hR hb hv
    go_wp2_with fail
    go_returns
    exact ⟨rfl, HB.out⟩
end Go.Proofs.YtnhlnnehpmjeiaaGreatDoor
namespace Go.Proofs.YtnhlnnehpmjeiaaGreatDoor
open Go.RowKit
set_option linter.unusedVariables false
/-- A deed of the law. -/
structure TA where
  kind : Int
  i : Int
  e : Int
  pa : Option Addr
  pl : Nat
  pc : Nat
  ps : List PW
/-- A slice of deeds that lies below block B. -/
def TActsAt (B : Nat) (w : World) (a : Option Addr) (len : Nat) (l : List TA) : Prop :=
  l.length = len ∧ len ≤ maxLen ∧ (∀ x ∈ l, PartsAt B w x.pa x.pl x.pc x.ps) ∧ (len = 0 ∨ ∃ b off, a = some ⟨b, off, none⟩ ∧ b < B ∧ ∀ (i : Nat) (x : TA), l[i]? = some x →
    w.cell? ⟨b, off + i * 4, none⟩ = some (.int .i64 x.kind) ∧ w.cell? ⟨b, off + i * 4 + 1, none⟩ = some (.int .i64 x.i) ∧ w.cell? ⟨b, off + i * 4 + 2, none⟩ = some (.int .u64 x.e) ∧ w.cell? ⟨b, off + i * 4 + 3, none⟩ = some (.slice x.pa x.pl x.pc))
theorem TActsAt.get {B : Nat} {w w' : World} {a : Option Addr} {len : Nat} {l : List TA} (h : TActsAt B w a len l) (hb : Below B w w') {k : Nat} (hk : k < len) :
    ∃ b off x, a = some ⟨b, off, none⟩ ∧ b < B ∧ l[k]? = some x ∧ PartsAt B w' x.pa x.pl x.pc x.ps ∧ w'.cell? ⟨b, off + k * 4, none⟩ = some (.int .i64 x.kind) ∧ w'.cell? ⟨b, off + k * 4 + 1, none⟩ = some (.int .i64 x.i) ∧ w'.cell? ⟨b, off + k * 4 + 2, none⟩ = some (.int .u64 x.e) ∧ w'.cell? ⟨b, off + k * 4 + 3, none⟩ = some (.slice x.pa x.pl x.pc) := by
  obtain ⟨h1, h2, h4, h3⟩ := h
  rcases h3 with h3 | ⟨b, off, ha, hB, hc⟩
  · omega
  · have hl : k < l.length := by omega
    obtain ⟨c0, c1, c2, c3⟩ := hc k _ (List.getElem?_eq_getElem hl)
    exact ⟨b, off, l[k], ha, hB, List.getElem?_eq_getElem hl, (h4 _ (List.getElem_mem hl)).below hb, (hb.cell (p := ⟨b, _, none⟩) hB).trans c0, (hb.cell (p := ⟨b, _, none⟩) hB).trans c1, (hb.cell (p := ⟨b, _, none⟩) hB).trans c2, (hb.cell (p := ⟨b, _, none⟩) hB).trans c3⟩
/-- What the law's rounds keep. -/
structure RoomS (w0 : World) (TB n : Nat) (t : TD) (w : World) : Prop where
  tab : TabIn TB w t
  tb : t.tb = TB
  most : t.most = n
  bel : Below w0.heap.size w0 w
  le : w0.heap.size ≤ TB
theorem RoomS.next {w0 w w' : World} {TB n : Nat} {t t' : TD} (h : RoomS w0 TB n t w) (ho : Out t.foot w w') (ht : TabIn TB w' t') (h1 : t'.tb = t.tb) (h2 : t'.most = t.most) : RoomS w0 TB n t' w' :=
  ⟨ht, h1.trans h.tb, h2.trans h.most, h.bel.trans (ho.below (fun b hb => Nat.le_trans h.le (h.tab.foot_ge hb).1) h.bel.size), h.le⟩
theorem RoomS.below {w0 w w' : World} {TB n : Nat} {t : TD} (h : RoomS w0 TB n t w) (hb : Below w.heap.size w w') : RoomS w0 TB n t w' := h.next (Out.of hb) (h.tab.below hb) rfl rfl
theorem RoomS.room {w0 w : World} {TB n : Nat} {t : TD} (h : RoomS w0 TB n t w) {fr : Nat} (hf : t.free = fr) : Calls Tryz.prog 161 #[.pointer (some ⟨TB, 0, none⟩)] w fun e w' => e = .returned (.int .i64 (fr : Int)) ∧ RoomS w0 TB n t w' := by
  have := tabRoom_in h.tab
  rw [h.tb, hf] at this
  exact this.mono fun e w' ⟨he, m, hm⟩ => ⟨he, by rw [hm]; exact h.below (below_drewN (Below.refl _ _) m)⟩
/-- Parts that lie below are left alone. -/
theorem RoomS.parts {w0 w : World} {TB n : Nat} {t : TD} (h : RoomS w0 TB n t w) {pa : Option Addr} {pl pc : Nat} {ps : List PW} (hp : PartsAt w0.heap.size w0 pa pl pc ps) : ∀ w', Out t.cfoot w w' → PartsAt w'.heap.size w' pa pl pc ps := by
  intro w' ho
  have hb : Below w0.heap.size w w' := ho.below (fun b hb => Nat.le_trans h.le (h.tab.foot_ge (TabIn.cfoot_foot hb)).1) h.bel.size
  have := h.bel.trans hb
  exact (hp.below this).mono this.size
end Go.Proofs.YtnhlnnehpmjeiaaGreatDoor
