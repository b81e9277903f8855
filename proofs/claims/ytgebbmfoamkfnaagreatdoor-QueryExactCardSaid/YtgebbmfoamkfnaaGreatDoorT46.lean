/- QueryExact: its walk. Printed by mkGD.py out of GD.in. -/
import Derived.Test.YtgebbmfoamkfnaaGreatDoorT42
import Derived.Test.YtgebbmfoamkfnaaGreatDoorT43
import Derived.Test.YtgebbmfoamkfnaaGreatDoorT38
import Derived.Test.YtgebbmfoamkfnaaGreatDoorT45
namespace Go.Proofs.YtgebbmfoamkfnaaGreatDoor
open Go.RowKit
set_option linter.unusedVariables false
theorem parse_agree (s : ByteArray) : (back20 s.data.toList).isSome = canonBQ s ∧ (back20 s.data.toList).getD (0, 0) = parseQ s ∧ parseQE s = if canonBQ s = true then 0 else 4 := by
  have h := (back20_is s.data.toList).one (canonQ_is s)
  refine ⟨?_, ?_, rfl⟩
  · rw [h]; by_cases k : canonBQ s = true <;> simp [k]
  · rw [h]
    by_cases k : canonBQ s = true
    · simp [k]
    · have e : parseQ s = (0, 0) := by unfold parseQ; rw [if_neg k]
      simp [k, e]
theorem great20_len {cs : List Cmp} (h : great20B cs = false) : cs.length ≤ 30 := by
  unfold great20B at h
  rw [Bool.or_eq_false_iff] at h
  have := h.1
  simp at this
  omega
def x20_list (ver : Int) (a : Option Addr) (len cap : Nat) (al no st pa pb ck pe : Int) (mt is : Bool) (TA TN : ByteArray) (PB : Nat) : List (Value → World → Prop) :=
  [IsV (.agg #[.int .i64 ver, .slice a len cap]),
   IsV (.agg #[.int .u32 al, .int .u32 no]),
   IsV (.int .i64 ck),
   IsV (.agg #[.int .i64 ver, .slice a len cap]),
   IsV (.int .u32 al),
   IsV (.int .u32 no),
   IsV (.int .i64 ck),
   IsV (.bool true),
   IsV (.bool true),
   IsV (.agg #[.int .u32 al, .int .u32 no]),
   IsV (.int .u32 st),
   IsV (.bool mt),
   IsV (.int .u32 al),
   IsV (.int .u32 no),
   IsV (.int .u32 st),
   IsV (.bool mt),
   IsV (.bool true),
   IsV (.bool true),
   IsV (.bool true),
   IsV (.agg #[.int .u32 al, .int .u32 no]),
   IsV (.string (TA ++ (⟨#[32, 110, 111, 116, 32]⟩ : ByteArray) ++ TN)),
   IsV (.int .u32 al),
   IsV (.string TA),
   IsV (.string (TA ++ (⟨#[32, 110, 111, 116, 32]⟩ : ByteArray))),
   IsV (.int .u32 no),
   IsV (.string TN),
   IsV (.string (TA ++ (⟨#[32, 110, 111, 116, 32]⟩ : ByteArray) ++ TN)),
   IsV (.bool true),
   IsV (.bool true),
   IsV (.bool true),
   IsV (.pointer (some ⟨PB, 0, none⟩)),
   IsV (.int .u32 pa),
   IsV (.int .u32 pa),
   IsV (.bool true),
   IsV (.bool true),
   IsV (.bool true),
   IsV (.pointer (some ⟨PB, 1, none⟩)),
   IsV (.int .u32 pb),
   IsV (.int .u32 pb),
   IsV (.bool true),
   IsV (.bool true),
   IsV (.bool true),
   IsV (.bool is),
   IsV (.int .i64 pe),
   IsV (.bool is),
   IsV (.bool true),
   IsV (.bool true),
   IsV (.bool true),
   IsV (.bool is),
   IsV (.bool is),
   IsV (cond is undef (.int .i64 4)),
   IsV (cond is undef (.bool true)),
   IsV (.bool true),
   IsV (.bool true),
   IsV (.bool true)]
theorem x20_list_lasts (ver : Int) (a : Option Addr) (len cap : Nat) (al no st pa pb ck pe : Int) (mt is : Bool) (TA TN : ByteArray) (PB : Nat) : ∀ p ∈ x20_list ver  a  len cap  al no st pa pb ck pe  mt is  TA TN  PB , Lasts p := by
  simp only [x20_list, List.mem_cons, List.not_mem_nil, or_false]
  rintro p hp
  repeat (rcases hp with rfl | hp; exact lasts_v _)
set_option maxRecDepth 100000 in
set_option maxHeartbeats 8000000 in
theorem exact20_walk (ver : Int) (cs : List Cmp) (a : Option Addr) (len cap : Nat) (al no st : Int) (s : ByteArray) (w : World) (hcs : CompsAt w.heap.size w a len cs) (hwf : CompsWf cs) (hal : u32B al) (hno : u32B no) (hst : u32B st) (hv : QV w) :
    Calls Tryz.prog 3 #[.agg #[.int .i64 ver, .slice a len cap], .int .u32 al, .int .u32 no, .int .u32 st, .string s] w fun e w' => e = .returned (.bool true) ∧ Below w.heap.size w w' := by
  have hb0 : Below w.heap.size w (w.alloc (.cells #[.int .i64 ver, .slice a len cap] 24)) := by go_grown
  have HBOX := Lib.hid (heap_alloc_new w (.cells #[.int .i64 ver, .slice a len cap] 24))
  have HV := Lib.hid (hv.below hb0)
  have HB0 := Lib.hid hb0
  have HCS := Lib.hid hcs
  have HWF := Lib.hid hwf
  have HU := Lib.hid (And.intro hal (And.intro hno hst))
  have HLL := Lib.hid hcs.1
  clear hcs hwf hb0 hv hal hno hst
  go_enter Tryz.func3, Tryz.ntmps3
  go_wp2_with fail
  generalize w.alloc (.cells #[.int .i64 ver, .slice a len cap] 24) = W at *
  refine (awake20_any W HV.out).mono ?_
  rintro e w1 ⟨rfl, hb1⟩
  have HBOX1 := Lib.hid (keep hb1 HBOX.out)
  have HB1 := Lib.hid (HB0.out.trans (hb1.mono HB0.out.size))
  have HV1 := Lib.hid (HV.out.below hb1)
  have HGR := Lib.hid (great20_any ver cs a len cap w1 ((HCS.out.below HB1.out).mono HB1.out.size))
  clear hb1 HBOX HB0 HV
  have s0 := cell_at HBOX1.out 0
  have s1 := cell_at HBOX1.out 1
  simp at s0 s1
  go_wp2_with fail
  refine HGR.out.mono ?_
  rintro e w2 ⟨rfl, hb2⟩
  have HBOX2 := Lib.hid (keep hb2 HBOX1.out)
  have HB2 := Lib.hid (HB1.out.trans (hb2.mono HB1.out.size))
  have HV2 := Lib.hid (HV1.out.below hb2)
  clear hb2 HBOX1 HB1 HV1 HGR s0 s1
  obtain ⟨gr, hgr⟩ : ∃ gr, great20B cs = gr := ⟨_, rfl⟩
  rw [hgr]
  cases gr
  · by_cases h100 : 100 < s.size
    · have g1 : (100 : Int) < (s.size : Int) := by omega
      go_wp2_with fail
      go_returns
      exact ⟨rfl, HB2.out⟩
    · have g1 : ¬ (100 : Int) < (s.size : Int) := by omega
      have HLEN : Hid (len ≤ 30) := Lib.hid (by rw [← HLL.out]; exact great20_len hgr)
      obtain ⟨HI1, HI2, HI3⟩ := parse_agree s
      have HSS := Lib.hid (show s.size ≤ 1000 by omega)
      have HQP := fun W => qParse_any s W HSS.out
      have HRP := fun W => parse20_any s HSS.out W
      rw [HI3] at HQP
      rw [HI1, HI2] at HRP
      clear HI1 HI2 HI3 hgr HLL
      generalize parseQ s = pq at HQP HRP
      obtain ⟨pa, pb⟩ := pq
      generalize canonBQ s = is at HQP HRP
      obtain ⟨pe, hpe⟩ : ∃ pe : Int, (if is = true then 0 else 4) = pe := ⟨_, rfl⟩
      rw [hpe] at HQP
      have HPE := Lib.hid hpe
      dsimp only at HQP HRP
      have HQP9 := Lib.hid HQP
      have HRP9 := Lib.hid HRP
      clear hpe
      clear HQP HRP
      have HQB3 := Lib.hid (heap_alloc_new w2 (.cells #[.int .u32 al, .int .u32 no] 30))
      have hb3 : Below w2.heap.size w2 (w2.alloc (.cells #[.int .u32 al, .int .u32 no] 30)) := by go_grown
      have HB3 := Lib.hid (HB2.out.trans (hb3.mono HB2.out.size))
      have HBOX3 := Lib.hid (keep hb3 HBOX2.out)
      have HV3 := Lib.hid (HV2.out.below hb3)
      clear hb3 HB2 HBOX2 HV2
      go_wp2_with fail
      generalize w2.alloc (.cells #[.int .u32 al, .int .u32 no] 30) = w3 at *
      obtain ⟨QB, hQB⟩ : ∃ QB, w2.heap.size = QB := ⟨_, rfl⟩
      rw [hQB] at HQB3 ⊢
      clear hQB
      refine (HQP9.out w3 HV3.out).mono ?_
      rintro e w4 ⟨rfl, hb4⟩
      have hb4' : Below w4.heap.size w4 (w4.alloc (.cells #[.int .u32 pa, .int .u32 pb] 30)) := by go_grown
      have hb34 := hb4.trans (hb4'.mono hb4.size)
      have HPB4 := Lib.hid (heap_alloc_new w4 (.cells #[.int .u32 pa, .int .u32 pb] 30))
      have HB4 := Lib.hid (HB3.out.trans (hb34.mono HB3.out.size))
      have HBOX4 := Lib.hid (keep hb34 HBOX3.out)
      have HQB4 := Lib.hid (keep hb34 HQB3.out)
      clear hb4 hb4' hb34 HB3 HBOX3 HQB3 HV3 HQP9
      go_wp2_with fail
      generalize w4.alloc (.cells #[.int .u32 pa, .int .u32 pb] 30) = w4' at *
      obtain ⟨PB, hPB⟩ : ∃ PB, w4.heap.size = PB := ⟨_, rfl⟩
      rw [hPB] at HPB4 ⊢
      clear hPB
      refine (HRP9.out w4').mono ?_
      rintro e w5 ⟨rfl, hb5⟩
      have HB5 := Lib.hid (HB4.out.trans (hb5.mono HB4.out.size))
      have HBOX5 := Lib.hid (keep hb5 HBOX4.out)
      have HQB5 := Lib.hid (keep hb5 HQB4.out)
      have HPB5 := Lib.hid (keep hb5 HPB4.out)
      clear hb5 HB4 HBOX4 HQB4 HPB4 HRP9
      have huq : QWf (al, no) := ⟨HU.out.1, HU.out.2.1⟩
      obtain ⟨ck, hck⟩ : ∃ ck, checkQ ver cs al no = ck := ⟨_, rfl⟩
      obtain ⟨mt, hmt⟩ : ∃ mt, matchB al no st = mt := ⟨_, rfl⟩
      have hqt := fun W => qText_any al no W huq
      have hta := fun W => text10_any al W HU.out.1.1 HU.out.1.2
      have htn := fun W => text10_any no W HU.out.2.1.1 HU.out.2.1.2
      rw [← qtext_eq] at hqt
      have hd1 : (⟨(textS al).toArray⟩ : ByteArray).size ≤ 100 := by simpa [ByteArray.size] using textS_len al
      have hd2 : (⟨(textS no).toArray⟩ : ByteArray).size ≤ 100 := by simpa [ByteArray.size] using textS_len no
      generalize (⟨(textS al).toArray⟩ : ByteArray) = TA at hqt hta hd1
      generalize (⟨(textS no).toArray⟩ : ByteArray) = TN at hqt htn hd2
      have HQT := Lib.hid hqt
      have HTA := Lib.hid hta
      have HTN := Lib.hid htn
      have HD1 : Hid (TA.size + 5 ≤ 9223372036854775807) := Lib.hid (by omega)
      have HD2 : Hid (TA.size + 5 + TN.size ≤ 9223372036854775807) := Lib.hid (by omega)
      have hck1 := fun (W : World) (hb : Below w5.heap.size w5 W) => qCheck_any ver cs a len cap al no W ((HCS.out.below (HB5.out.trans (hb.mono HB5.out.size))).mono (HB5.out.trans (hb.mono HB5.out.size)).size) HWF.out (Nat.le_trans HLEN.out (by decide)) huq
      have hck2 := fun (W : World) (hb : Below w5.heap.size w5 W) => check20_any ver cs a len cap al no W ((HCS.out.below (HB5.out.trans (hb.mono HB5.out.size))).mono (HB5.out.trans (hb.mono HB5.out.size)).size) HWF.out huq
      have hmt1 := fun W => matches_any al no st W HU.out.1.1 HU.out.1.2 HU.out.2.1.1 HU.out.2.1.2 HU.out.2.2.1 HU.out.2.2.2
      have hmt2 := fun W => match20_any al no st W HU.out.1 HU.out.2.1 HU.out.2.2
      simp only [hck] at hck1 hck2
      simp only [hmt] at hmt1 hmt2
      have HCK := Lib.hid hck1
      have HC2 := Lib.hid hck2
      have HMT := Lib.hid hmt1
      have HM2 := Lib.hid hmt2
      obtain ⟨SB, hSB⟩ : ∃ SB, w.heap.size = SB := ⟨_, rfl⟩
      rw [hSB] at HBOX5
      have HSB := Lib.hid hSB
      clear hck hmt hqt hta htn hd1 hd2 hck1 hck2 hmt1 hmt2 huq HCS HWF HU HLEN HSS
      have HIS : Hid (is = true ∧ pe = 0 ∨ is = false ∧ pe = 4) := Lib.hid (by
        have h := HPE.out
        cases is
        · exact .inr ⟨rfl, h.symm⟩
        · exact .inl ⟨rfl, h.symm⟩)
      clear HPE
      go_wp2_with fail
      clear hSB
      refine wp_region_frame (by kernel_rfl) (by kernel_rfl) (by kernel_rfl) (byList (x20_list ver a len cap al no st pa pb ck pe mt is TA TN PB)) (lasts_list (x20_list_lasts ver a len cap al no st pa pb ck pe mt is TA TN PB)) ?_ ?_
      · intro vs w' iq o A F hb ho hd
        have m5 : A.tmps[5]?.getD undef = (.pointer (some ⟨SB, 0, none⟩)) := F.m (by kernel_rfl) rfl
        have m1 : A.tmps[1]?.getD undef = (.int .u32 al) := F.m (by kernel_rfl) rfl
        have m2 : A.tmps[2]?.getD undef = (.int .u32 no) := F.m (by kernel_rfl) rfl
        have m3 : A.tmps[3]?.getD undef = (.int .u32 st) := F.m (by kernel_rfl) rfl
        have m11 : A.tmps[11]?.getD undef = (.pointer (some ⟨QB, 0, none⟩)) := F.m (by kernel_rfl) rfl
        have m12 : A.tmps[12]?.getD undef = (.pointer (some ⟨PB, 0, none⟩)) := F.m (by kernel_rfl) rfl
        have m13 : A.tmps[13]?.getD undef = (.int .i64 pe) := F.m (by kernel_rfl) rfl
        have m14 : A.tmps[14]?.getD undef = (.int .u32 pa) := F.m (by kernel_rfl) rfl
        have m15 : A.tmps[15]?.getD undef = (.int .u32 pb) := F.m (by kernel_rfl) rfl
        have m16 : A.tmps[16]?.getD undef = (.bool is) := F.m (by kernel_rfl) rfl
        have G := F.light (n := 94) (by kernel_rfl)
        clear F
        have HBX := Lib.hid hb
        have s0 := cell_at (keep hb HBOX5.out) 0
        have s1 := cell_at (keep hb HBOX5.out) 1
        have q0 := cell_at (keep hb HQB5.out) 0
        have q1 := cell_at (keep hb HQB5.out) 1
        have p0 := cell_at (keep hb HPB5.out) 0
        have p1 := cell_at (keep hb HPB5.out) 1
        simp at s0 s1 q0 q1 p0 p1
        have hd1 := HD1.out
        have hd2 := HD2.out
        clear hb
        revert ho hd
        match iq with
        | 0 => intro ho hd; obtain rfl := (Option.some.inj ho).symm; clear hd ho; refine step_open rfl ?_; clear G; exact step_run (v := (.agg #[.int .i64 ver, .slice a len cap])) (by go_simp) rfl
        | 1 => intro ho hd; obtain rfl := (Option.some.inj ho).symm; clear hd ho; refine step_open rfl ?_; clear G; exact step_run (v := (.agg #[.int .u32 al, .int .u32 no])) (by go_simp) rfl
        | 2 => intro ho hd; obtain rfl := (Option.some.inj ho).symm; have d0 : vs 0 = (.agg #[.int .i64 ver, .slice a len cap]) := hd ⟨0, .data⟩ (by simp) rfl; have d1 : vs 1 = (.agg #[.int .u32 al, .int .u32 no]) := hd ⟨1, .data⟩ (by simp) rfl; clear hd ho; have h40 := G.h (j := 0) (d := 40) rfl (by decide) d0; have h41 := G.h (j := 1) (d := 41) rfl (by decide) d1; refine step_open rfl ?_; clear G; go_simp; refine (HCK.out _ HBX.out).mono ?_; rintro e w9 ⟨rfl, hb9⟩; exact ⟨_, rfl, rfl, hb9⟩
        | 3 => intro ho hd; obtain rfl := (Option.some.inj ho).symm; clear hd ho; refine step_open rfl ?_; clear G; exact step_run (v := (.agg #[.int .i64 ver, .slice a len cap])) (by go_simp) rfl
        | 4 => intro ho hd; obtain rfl := (Option.some.inj ho).symm; clear hd ho; refine step_open rfl ?_; clear G; exact step_run (v := (.int .u32 al)) (by go_simp) rfl
        | 5 => intro ho hd; obtain rfl := (Option.some.inj ho).symm; clear hd ho; refine step_open rfl ?_; clear G; exact step_run (v := (.int .u32 no)) (by go_simp) rfl
        | 6 => intro ho hd; obtain rfl := (Option.some.inj ho).symm; have d3 : vs 3 = (.agg #[.int .i64 ver, .slice a len cap]) := hd ⟨3, .data⟩ (by simp) rfl; have d4 : vs 4 = (.int .u32 al) := hd ⟨4, .data⟩ (by simp) rfl; have d5 : vs 5 = (.int .u32 no) := hd ⟨5, .data⟩ (by simp) rfl; clear hd ho; have h43 := G.h (j := 3) (d := 43) rfl (by decide) d3; have h44 := G.h (j := 4) (d := 44) rfl (by decide) d4; have h45 := G.h (j := 5) (d := 45) rfl (by decide) d5; refine step_open rfl ?_; clear G; go_simp; refine (HC2.out _ HBX.out).mono ?_; rintro e w9 ⟨rfl, hb9⟩; exact ⟨_, rfl, rfl, hb9⟩
        | 7 => intro ho hd; obtain rfl := (Option.some.inj ho).symm; have d2 : vs 2 = (.int .i64 ck) := hd ⟨2, .data⟩ (by simp) rfl; have d6 : vs 6 = (.int .i64 ck) := hd ⟨6, .data⟩ (by simp) rfl; clear hd ho; have h42 := G.h (j := 2) (d := 42) rfl (by decide) d2; have h46 := G.h (j := 6) (d := 46) rfl (by decide) d6; refine step_open rfl ?_; clear G; exact step_run (v := (.bool true)) (by go_simp) rfl
        | 8 => intro ho hd; obtain rfl := (Option.some.inj ho).symm; have d7 : vs 7 = (.bool true) := hd ⟨7, .data⟩ (by simp) rfl; clear hd ho; have h47 := G.h (j := 7) (d := 47) rfl (by decide) d7; refine step_open rfl ?_; clear G; exact step_run (v := (.bool true)) (by go_simp) rfl
        | 9 => intro ho hd; obtain rfl := (Option.some.inj ho).symm; have d8 : vs 8 = (.bool true) := hd ⟨8, .guard⟩ (by simp) rfl; clear hd ho; refine step_yes G rfl rfl (by decide) d8 ?_; clear G; exact step_run (v := (.agg #[.int .u32 al, .int .u32 no])) (by go_simp) rfl
        | 10 => intro ho hd; obtain rfl := (Option.some.inj ho).symm; have d8 : vs 8 = (.bool true) := hd ⟨8, .guard⟩ (by simp) rfl; clear hd ho; refine step_yes G rfl rfl (by decide) d8 ?_; clear G; exact step_run (v := (.int .u32 st)) (by go_simp) rfl
        | 11 => intro ho hd; obtain rfl := (Option.some.inj ho).symm; have d9 : vs 9 = (.agg #[.int .u32 al, .int .u32 no]) := hd ⟨9, .data⟩ (by simp) rfl; have d10 : vs 10 = (.int .u32 st) := hd ⟨10, .data⟩ (by simp) rfl; have d8 : vs 8 = (.bool true) := hd ⟨8, .guard⟩ (by simp) rfl; clear hd ho; have h49 := G.h (j := 9) (d := 49) rfl (by decide) d9; have h50 := G.h (j := 10) (d := 50) rfl (by decide) d10; refine step_yes G rfl rfl (by decide) d8 ?_; clear G; go_simp; refine (HMT.out _).mono ?_; rintro e w9 ⟨rfl, hb9⟩; exact ⟨_, rfl, rfl, hb9⟩
        | 12 => intro ho hd; obtain rfl := (Option.some.inj ho).symm; have d8 : vs 8 = (.bool true) := hd ⟨8, .guard⟩ (by simp) rfl; clear hd ho; refine step_yes G rfl rfl (by decide) d8 ?_; clear G; exact step_run (v := (.int .u32 al)) (by go_simp) rfl
        | 13 => intro ho hd; obtain rfl := (Option.some.inj ho).symm; have d8 : vs 8 = (.bool true) := hd ⟨8, .guard⟩ (by simp) rfl; clear hd ho; refine step_yes G rfl rfl (by decide) d8 ?_; clear G; exact step_run (v := (.int .u32 no)) (by go_simp) rfl
        | 14 => intro ho hd; obtain rfl := (Option.some.inj ho).symm; have d8 : vs 8 = (.bool true) := hd ⟨8, .guard⟩ (by simp) rfl; clear hd ho; refine step_yes G rfl rfl (by decide) d8 ?_; clear G; exact step_run (v := (.int .u32 st)) (by go_simp) rfl
        | 15 => intro ho hd; obtain rfl := (Option.some.inj ho).symm; have d12 : vs 12 = (.int .u32 al) := hd ⟨12, .data⟩ (by simp) rfl; have d13 : vs 13 = (.int .u32 no) := hd ⟨13, .data⟩ (by simp) rfl; have d14 : vs 14 = (.int .u32 st) := hd ⟨14, .data⟩ (by simp) rfl; have d8 : vs 8 = (.bool true) := hd ⟨8, .guard⟩ (by simp) rfl; clear hd ho; have h52 := G.h (j := 12) (d := 52) rfl (by decide) d12; have h53 := G.h (j := 13) (d := 53) rfl (by decide) d13; have h54 := G.h (j := 14) (d := 54) rfl (by decide) d14; refine step_yes G rfl rfl (by decide) d8 ?_; clear G; go_simp; refine (HM2.out _).mono ?_; rintro e w9 ⟨rfl, hb9⟩; exact ⟨_, rfl, rfl, hb9⟩
        | 16 => intro ho hd; obtain rfl := (Option.some.inj ho).symm; have d11 : vs 11 = (.bool mt) := hd ⟨11, .data⟩ (by simp) rfl; have d15 : vs 15 = (.bool mt) := hd ⟨15, .data⟩ (by simp) rfl; have d8 : vs 8 = (.bool true) := hd ⟨8, .guard⟩ (by simp) rfl; clear hd ho; have h51 := G.h (j := 11) (d := 51) rfl (by decide) d11; have h55 := G.h (j := 15) (d := 55) rfl (by decide) d15; refine step_yes G rfl rfl (by decide) d8 ?_; clear G; exact step_run (v := (.bool true)) (by go_simp) rfl
        | 17 => intro ho hd; obtain rfl := (Option.some.inj ho).symm; have d8 : vs 8 = (.bool true) := hd ⟨8, .data⟩ (by simp) rfl; have d16 : vs 16 = (.bool true) := hd ⟨16, .data⟩ (by simp) rfl; clear hd ho; have h48 := G.h (j := 8) (d := 48) rfl (by decide) d8; have h56 := G.h (j := 16) (d := 56) rfl (by decide) d16; refine step_open rfl ?_; clear G; exact step_run (v := (.bool true)) (by go_simp) rfl
        | 18 => intro ho hd; obtain rfl := (Option.some.inj ho).symm; have d17 : vs 17 = (.bool true) := hd ⟨17, .data⟩ (by simp) rfl; clear hd ho; have h57 := G.h (j := 17) (d := 57) rfl (by decide) d17; refine step_open rfl ?_; clear G; exact step_run (v := (.bool true)) (by go_simp) rfl
        | 19 => intro ho hd; obtain rfl := (Option.some.inj ho).symm; have d18 : vs 18 = (.bool true) := hd ⟨18, .guard⟩ (by simp) rfl; clear hd ho; refine step_yes G rfl rfl (by decide) d18 ?_; clear G; exact step_run (v := (.agg #[.int .u32 al, .int .u32 no])) (by go_simp) rfl
        | 20 => intro ho hd; obtain rfl := (Option.some.inj ho).symm; have d19 : vs 19 = (.agg #[.int .u32 al, .int .u32 no]) := hd ⟨19, .data⟩ (by simp) rfl; have d18 : vs 18 = (.bool true) := hd ⟨18, .guard⟩ (by simp) rfl; clear hd ho; have h59 := G.h (j := 19) (d := 59) rfl (by decide) d19; refine step_yes G rfl rfl (by decide) d18 ?_; clear G; go_simp; refine (HQT.out _).mono ?_; rintro e w9 ⟨rfl, hb9⟩; exact ⟨_, rfl, rfl, hb9⟩
        | 21 => intro ho hd; obtain rfl := (Option.some.inj ho).symm; have d18 : vs 18 = (.bool true) := hd ⟨18, .guard⟩ (by simp) rfl; clear hd ho; refine step_yes G rfl rfl (by decide) d18 ?_; clear G; exact step_run (v := (.int .u32 al)) (by go_simp) rfl
        | 22 => intro ho hd; obtain rfl := (Option.some.inj ho).symm; have d21 : vs 21 = (.int .u32 al) := hd ⟨21, .data⟩ (by simp) rfl; have d18 : vs 18 = (.bool true) := hd ⟨18, .guard⟩ (by simp) rfl; clear hd ho; have h61 := G.h (j := 21) (d := 61) rfl (by decide) d21; refine step_yes G rfl rfl (by decide) d18 ?_; clear G; go_simp; refine (HTA.out _).mono ?_; rintro e w9 ⟨rfl, hb9⟩; exact ⟨_, rfl, rfl, hb9⟩
        | 23 => intro ho hd; obtain rfl := (Option.some.inj ho).symm; have d22 : vs 22 = (.string TA) := hd ⟨22, .data⟩ (by simp) rfl; have d18 : vs 18 = (.bool true) := hd ⟨18, .guard⟩ (by simp) rfl; clear hd ho; have h62 := G.h (j := 22) (d := 62) rfl (by decide) d22; refine step_yes G rfl rfl (by decide) d18 ?_; clear G; exact step_run (v := (.string (TA ++ (⟨#[32, 110, 111, 116, 32]⟩ : ByteArray)))) (by go_simp) rfl
        | 24 => intro ho hd; obtain rfl := (Option.some.inj ho).symm; have d18 : vs 18 = (.bool true) := hd ⟨18, .guard⟩ (by simp) rfl; clear hd ho; refine step_yes G rfl rfl (by decide) d18 ?_; clear G; exact step_run (v := (.int .u32 no)) (by go_simp) rfl
        | 25 => intro ho hd; obtain rfl := (Option.some.inj ho).symm; have d24 : vs 24 = (.int .u32 no) := hd ⟨24, .data⟩ (by simp) rfl; have d18 : vs 18 = (.bool true) := hd ⟨18, .guard⟩ (by simp) rfl; clear hd ho; have h64 := G.h (j := 24) (d := 64) rfl (by decide) d24; refine step_yes G rfl rfl (by decide) d18 ?_; clear G; go_simp; refine (HTN.out _).mono ?_; rintro e w9 ⟨rfl, hb9⟩; exact ⟨_, rfl, rfl, hb9⟩
        | 26 => intro ho hd; obtain rfl := (Option.some.inj ho).symm; have d23 : vs 23 = (.string (TA ++ (⟨#[32, 110, 111, 116, 32]⟩ : ByteArray))) := hd ⟨23, .data⟩ (by simp) rfl; have d25 : vs 25 = (.string TN) := hd ⟨25, .data⟩ (by simp) rfl; have d18 : vs 18 = (.bool true) := hd ⟨18, .guard⟩ (by simp) rfl; clear hd ho; have h63 := G.h (j := 23) (d := 63) rfl (by decide) d23; have h65 := G.h (j := 25) (d := 65) rfl (by decide) d25; refine step_yes G rfl rfl (by decide) d18 ?_; clear G; exact step_run (v := (.string (TA ++ (⟨#[32, 110, 111, 116, 32]⟩ : ByteArray) ++ TN))) (by go_simp) rfl
        | 27 => intro ho hd; obtain rfl := (Option.some.inj ho).symm; have d20 : vs 20 = (.string (TA ++ (⟨#[32, 110, 111, 116, 32]⟩ : ByteArray) ++ TN)) := hd ⟨20, .data⟩ (by simp) rfl; have d26 : vs 26 = (.string (TA ++ (⟨#[32, 110, 111, 116, 32]⟩ : ByteArray) ++ TN)) := hd ⟨26, .data⟩ (by simp) rfl; have d18 : vs 18 = (.bool true) := hd ⟨18, .guard⟩ (by simp) rfl; clear hd ho; have h60 := G.h (j := 20) (d := 60) rfl (by decide) d20; have h66 := G.h (j := 26) (d := 66) rfl (by decide) d26; refine step_yes G rfl rfl (by decide) d18 ?_; clear G; exact step_run (v := (.bool true)) (by go_simp) rfl
        | 28 => intro ho hd; obtain rfl := (Option.some.inj ho).symm; have d18 : vs 18 = (.bool true) := hd ⟨18, .data⟩ (by simp) rfl; have d27 : vs 27 = (.bool true) := hd ⟨27, .data⟩ (by simp) rfl; clear hd ho; have h58 := G.h (j := 18) (d := 58) rfl (by decide) d18; have h67 := G.h (j := 27) (d := 67) rfl (by decide) d27; refine step_open rfl ?_; clear G; exact step_run (v := (.bool true)) (by go_simp) rfl
        | 29 => intro ho hd; obtain rfl := (Option.some.inj ho).symm; have d28 : vs 28 = (.bool true) := hd ⟨28, .data⟩ (by simp) rfl; clear hd ho; have h68 := G.h (j := 28) (d := 68) rfl (by decide) d28; refine step_open rfl ?_; clear G; exact step_run (v := (.bool true)) (by go_simp) rfl
        | 30 => intro ho hd; obtain rfl := (Option.some.inj ho).symm; have d29 : vs 29 = (.bool true) := hd ⟨29, .guard⟩ (by simp) rfl; clear hd ho; refine step_yes G rfl rfl (by decide) d29 ?_; clear G; exact step_run (v := (.pointer (some ⟨PB, 0, none⟩))) (by go_simp) rfl
        | 31 => intro ho hd; obtain rfl := (Option.some.inj ho).symm; have d30 : vs 30 = (.pointer (some ⟨PB, 0, none⟩)) := hd ⟨30, .data⟩ (by simp) rfl; have d29 : vs 29 = (.bool true) := hd ⟨29, .guard⟩ (by simp) rfl; clear hd ho; have h70 := G.h (j := 30) (d := 70) rfl (by decide) d30; refine step_yes G rfl rfl (by decide) d29 ?_; clear G; exact step_run (v := (.int .u32 pa)) (by go_simp) rfl
        | 32 => intro ho hd; obtain rfl := (Option.some.inj ho).symm; have d29 : vs 29 = (.bool true) := hd ⟨29, .guard⟩ (by simp) rfl; clear hd ho; refine step_yes G rfl rfl (by decide) d29 ?_; clear G; exact step_run (v := (.int .u32 pa)) (by go_simp) rfl
        | 33 => intro ho hd; obtain rfl := (Option.some.inj ho).symm; have d31 : vs 31 = (.int .u32 pa) := hd ⟨31, .data⟩ (by simp) rfl; have d32 : vs 32 = (.int .u32 pa) := hd ⟨32, .data⟩ (by simp) rfl; have d29 : vs 29 = (.bool true) := hd ⟨29, .guard⟩ (by simp) rfl; clear hd ho; have h71 := G.h (j := 31) (d := 71) rfl (by decide) d31; have h72 := G.h (j := 32) (d := 72) rfl (by decide) d32; refine step_yes G rfl rfl (by decide) d29 ?_; clear G; exact step_run (v := (.bool true)) (by go_simp) rfl
        | 34 => intro ho hd; obtain rfl := (Option.some.inj ho).symm; have d29 : vs 29 = (.bool true) := hd ⟨29, .data⟩ (by simp) rfl; have d33 : vs 33 = (.bool true) := hd ⟨33, .data⟩ (by simp) rfl; clear hd ho; have h69 := G.h (j := 29) (d := 69) rfl (by decide) d29; have h73 := G.h (j := 33) (d := 73) rfl (by decide) d33; refine step_open rfl ?_; clear G; exact step_run (v := (.bool true)) (by go_simp) rfl
        | 35 => intro ho hd; obtain rfl := (Option.some.inj ho).symm; have d34 : vs 34 = (.bool true) := hd ⟨34, .data⟩ (by simp) rfl; clear hd ho; have h74 := G.h (j := 34) (d := 74) rfl (by decide) d34; refine step_open rfl ?_; clear G; exact step_run (v := (.bool true)) (by go_simp) rfl
        | 36 => intro ho hd; obtain rfl := (Option.some.inj ho).symm; have d35 : vs 35 = (.bool true) := hd ⟨35, .guard⟩ (by simp) rfl; clear hd ho; refine step_yes G rfl rfl (by decide) d35 ?_; clear G; exact step_run (v := (.pointer (some ⟨PB, 1, none⟩))) (by go_simp) rfl
        | 37 => intro ho hd; obtain rfl := (Option.some.inj ho).symm; have d36 : vs 36 = (.pointer (some ⟨PB, 1, none⟩)) := hd ⟨36, .data⟩ (by simp) rfl; have d35 : vs 35 = (.bool true) := hd ⟨35, .guard⟩ (by simp) rfl; clear hd ho; have h76 := G.h (j := 36) (d := 76) rfl (by decide) d36; refine step_yes G rfl rfl (by decide) d35 ?_; clear G; exact step_run (v := (.int .u32 pb)) (by go_simp) rfl
        | 38 => intro ho hd; obtain rfl := (Option.some.inj ho).symm; have d35 : vs 35 = (.bool true) := hd ⟨35, .guard⟩ (by simp) rfl; clear hd ho; refine step_yes G rfl rfl (by decide) d35 ?_; clear G; exact step_run (v := (.int .u32 pb)) (by go_simp) rfl
        | 39 => intro ho hd; obtain rfl := (Option.some.inj ho).symm; have d37 : vs 37 = (.int .u32 pb) := hd ⟨37, .data⟩ (by simp) rfl; have d38 : vs 38 = (.int .u32 pb) := hd ⟨38, .data⟩ (by simp) rfl; have d35 : vs 35 = (.bool true) := hd ⟨35, .guard⟩ (by simp) rfl; clear hd ho; have h77 := G.h (j := 37) (d := 77) rfl (by decide) d37; have h78 := G.h (j := 38) (d := 78) rfl (by decide) d38; refine step_yes G rfl rfl (by decide) d35 ?_; clear G; exact step_run (v := (.bool true)) (by go_simp) rfl
        | 40 => intro ho hd; obtain rfl := (Option.some.inj ho).symm; have d35 : vs 35 = (.bool true) := hd ⟨35, .data⟩ (by simp) rfl; have d39 : vs 39 = (.bool true) := hd ⟨39, .data⟩ (by simp) rfl; clear hd ho; have h75 := G.h (j := 35) (d := 75) rfl (by decide) d35; have h79 := G.h (j := 39) (d := 79) rfl (by decide) d39; refine step_open rfl ?_; clear G; exact step_run (v := (.bool true)) (by go_simp) rfl
        | 41 => intro ho hd; obtain rfl := (Option.some.inj ho).symm; have d40 : vs 40 = (.bool true) := hd ⟨40, .data⟩ (by simp) rfl; clear hd ho; have h80 := G.h (j := 40) (d := 80) rfl (by decide) d40; refine step_open rfl ?_; clear G; exact step_run (v := (.bool true)) (by go_simp) rfl
        | 42 => intro ho hd; obtain rfl := (Option.some.inj ho).symm; have d41 : vs 41 = (.bool true) := hd ⟨41, .guard⟩ (by simp) rfl; clear hd ho; refine step_yes G rfl rfl (by decide) d41 ?_; clear G; exact step_run (v := (.bool is)) (by go_simp) rfl
        | 43 => intro ho hd; obtain rfl := (Option.some.inj ho).symm; have d41 : vs 41 = (.bool true) := hd ⟨41, .guard⟩ (by simp) rfl; clear hd ho; refine step_yes G rfl rfl (by decide) d41 ?_; clear G; exact step_run (v := (.int .i64 pe)) (by go_simp) rfl
        | 44 => intro ho hd; obtain rfl := (Option.some.inj ho).symm; have d43 : vs 43 = (.int .i64 pe) := hd ⟨43, .data⟩ (by simp) rfl; have d41 : vs 41 = (.bool true) := hd ⟨41, .guard⟩ (by simp) rfl; clear hd ho; have h83 := G.h (j := 43) (d := 83) rfl (by decide) d43; refine step_yes G rfl rfl (by decide) d41 ?_; clear G; rcases HIS.out with ⟨rfl, rfl⟩ | ⟨rfl, rfl⟩; exact step_run (v := .bool true) (by go_simp) rfl; exact step_run (v := .bool false) (by go_simp) rfl
        | 45 => intro ho hd; obtain rfl := (Option.some.inj ho).symm; have d42 : vs 42 = (.bool is) := hd ⟨42, .data⟩ (by simp) rfl; have d44 : vs 44 = (.bool is) := hd ⟨44, .data⟩ (by simp) rfl; have d41 : vs 41 = (.bool true) := hd ⟨41, .guard⟩ (by simp) rfl; clear hd ho; have h82 := G.h (j := 42) (d := 82) rfl (by decide) d42; have h84 := G.h (j := 44) (d := 84) rfl (by decide) d44; refine step_yes G rfl rfl (by decide) d41 ?_; clear G; exact step_run (v := (.bool true)) (by go_simp) rfl
        | 46 => intro ho hd; obtain rfl := (Option.some.inj ho).symm; have d41 : vs 41 = (.bool true) := hd ⟨41, .data⟩ (by simp) rfl; have d45 : vs 45 = (.bool true) := hd ⟨45, .data⟩ (by simp) rfl; clear hd ho; have h81 := G.h (j := 41) (d := 81) rfl (by decide) d41; have h85 := G.h (j := 45) (d := 85) rfl (by decide) d45; refine step_open rfl ?_; clear G; exact step_run (v := (.bool true)) (by go_simp) rfl
        | 47 => intro ho hd; obtain rfl := (Option.some.inj ho).symm; have d46 : vs 46 = (.bool true) := hd ⟨46, .data⟩ (by simp) rfl; clear hd ho; have h86 := G.h (j := 46) (d := 86) rfl (by decide) d46; refine step_open rfl ?_; clear G; exact step_run (v := (.bool true)) (by go_simp) rfl
        | 48 => intro ho hd; obtain rfl := (Option.some.inj ho).symm; have d47 : vs 47 = (.bool true) := hd ⟨47, .guard⟩ (by simp) rfl; clear hd ho; refine step_yes G rfl rfl (by decide) d47 ?_; clear G; exact step_run (v := (.bool is)) (by go_simp) rfl
        | 49 => intro ho hd; obtain rfl := (Option.some.inj ho).symm; have d48 : vs 48 = (.bool is) := hd ⟨48, .data⟩ (by simp) rfl; have d47 : vs 47 = (.bool true) := hd ⟨47, .guard⟩ (by simp) rfl; clear hd ho; have h88 := G.h (j := 48) (d := 88) rfl (by decide) d48; refine step_yes G rfl rfl (by decide) d47 ?_; clear G; exact step_run (v := (.bool is)) (by go_simp) rfl
        | 50 => intro ho hd; obtain rfl := (Option.some.inj ho).symm; have d49 : vs 49 = (.bool is) := hd ⟨49, .guard⟩ (by simp) rfl; clear hd ho; rcases HIS.out with ⟨rfl, rfl⟩ | ⟨rfl, rfl⟩; exact step_not G rfl rfl (by decide) d49 rfl; refine step_yes G rfl rfl (by decide) d49 ?_; clear G; exact step_run (v := .int .i64 4) (by go_simp) rfl
        | 51 => intro ho hd; obtain rfl := (Option.some.inj ho).symm; have d50 : vs 50 = (cond is undef (.int .i64 4)) := hd ⟨50, .data⟩ (by simp) rfl; have d49 : vs 49 = (.bool is) := hd ⟨49, .guard⟩ (by simp) rfl; clear hd ho; have h90 := G.h (j := 50) (d := 90) rfl (by decide) d50; rcases HIS.out with ⟨rfl, rfl⟩ | ⟨rfl, rfl⟩; exact step_not G rfl rfl (by decide) d49 rfl; refine step_yes G rfl rfl (by decide) d49 ?_; clear G; exact step_run (v := .bool true) (by go_simp) rfl
        | 52 => intro ho hd; obtain rfl := (Option.some.inj ho).symm; have d49 : vs 49 = (.bool is) := hd ⟨49, .data⟩ (by simp) rfl; have d51 : vs 51 = (cond is undef (.bool true)) := hd ⟨51, .data⟩ (by simp) rfl; have d47 : vs 47 = (.bool true) := hd ⟨47, .guard⟩ (by simp) rfl; clear hd ho; have h89 := G.h (j := 49) (d := 89) rfl (by decide) d49; have h91 := G.h (j := 51) (d := 91) rfl (by decide) d51; refine step_yes G rfl rfl (by decide) d47 ?_; clear G; rcases HIS.out with ⟨rfl, rfl⟩ | ⟨rfl, rfl⟩ <;> exact step_run (v := .bool true) (by go_simp) rfl
        | 53 => intro ho hd; obtain rfl := (Option.some.inj ho).symm; have d47 : vs 47 = (.bool true) := hd ⟨47, .data⟩ (by simp) rfl; have d52 : vs 52 = (.bool true) := hd ⟨52, .data⟩ (by simp) rfl; clear hd ho; have h87 := G.h (j := 47) (d := 87) rfl (by decide) d47; have h92 := G.h (j := 52) (d := 92) rfl (by decide) d52; refine step_open rfl ?_; clear G; exact step_run (v := (.bool true)) (by go_simp) rfl
        | 54 => intro ho hd; obtain rfl := (Option.some.inj ho).symm; have d53 : vs 53 = (.bool true) := hd ⟨53, .data⟩ (by simp) rfl; clear hd ho; have h93 := G.h (j := 53) (d := 93) rfl (by decide) d53; refine step_open rfl ?_; clear G; exact step_run (v := (.bool true)) (by go_simp) rfl
        | n + 55 => intro ho hd; simp at ho
      · intro vs w' hb hR
        have hv : vs 54 = .bool true := hR 54 (by simp)
        simp only [putAll, Act.put, List.setIfInBounds_toArray, List.set_cons_succ, List.set_cons_zero]
        rw [hv]
        have HB6 := Lib.hid (HB5.out.trans (hb.mono HB5.out.size))
        clear hR hb hv
        go_wp2_with fail
        go_returns
        exact ⟨rfl, HB6.out⟩
  · by_cases h100 : 100 < s.size
    · have g1 : (100 : Int) < (s.size : Int) := by omega
      go_wp2_with fail
      go_returns
      exact ⟨rfl, HB2.out⟩
    · have g1 : ¬ (100 : Int) < (s.size : Int) := by omega
      go_wp2_with fail
      go_returns
      exact ⟨rfl, HB2.out⟩
end Go.Proofs.YtgebbmfoamkfnaaGreatDoor
