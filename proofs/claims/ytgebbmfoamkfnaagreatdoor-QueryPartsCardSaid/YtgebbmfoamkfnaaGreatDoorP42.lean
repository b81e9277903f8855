/- QueryParts: its walk. Printed by mkFQ.py. · QueryCache: the asks; the law's own map of what it saw. -/
import Derived.Test.YtgebbmfoamkfnaaGreatDoorP40
import Derived.Test.YtgebbmfoamkfnaaGreatDoorP41
import Derived.Test.YtgebbmfoamkfnaaGreatDoorP3
import Derived.Test.YtgebbmfoamkfnaaGreatDoorP30
import Derived.Test.YtgebbmfoamkfnaaGreatDoorP16
import Derived.Test.YtgebbmfoamkfnaaGreatDoorP1
import Derived.Test.YtgebbmfoamkfnaaGreatDoorP26
import Derived.Test.YtgebbmfoamkfnaaGreatDoorP18
import Derived.Deep.DeepCutAuto
namespace Go.Proofs.YtgebbmfoamkfnaaGreatDoor
open Go.RowKit
set_option linter.unusedVariables false
def mpS : List Bool := [false, false, false, false, false, false, false, false, false, false, true, false, true, false, false, false, false, false, false, false, false, false, false, false, false, false, false, false, false, false, false, false, false, false, false, false, false, false, false, false, true, true, true, true, true, true, true, true, true, true, true, true, true, true, true, true, true, true, false, false, false, false, false, false, false, false, false, false, false, false, false, false, false, false, false, false, false, false, false, false, false, false, false, false, false, false, false, false, false, false, false, false, false, false, false, false, false, false, false, false, false, false, false, false, false, false, false, false, false, false, false, false, false, false, false, false, false, false, false, false, false, false, false, false, false, false, false, false, false, false, false, false, false, false, false, false, false, false, false, false, false, false, false, false, false, false, false, false, false, false, false, false, false, false, false, false, false, false, false, false, false, false, false, false, false, false, false]
def mpL : List Bool := [false, false, false, false, false, false, false, false, false, false, false, false, false, false, false, false, false, false, false, false, false, false, false, false, false, false, false, false, false, false, false, false, false, false, false, false, false, false, false, false, false, false, false, false, false, false, false, false, false, false, false, false, false, false, false, false, false, false, false, false, false, false, false, false, false, false, false, false, false, false, false, false, false, false, false, false, false, false, false, true, true, true, true, true, true, true, true, true, true, true, true, true, false, false, false, false, false, false, false, false, false, false, false, false, false, false, false, false, false, false, false, false, false, false, false, false, false, false, false, false, false, false, false, false, false, false, false, false, false, false, false, false, false, false, false, false, false, false, false, false, false, false, false, false, false, false, false, false, false, false, false, false, false, false, false, false, false, false, false, false, false, false, false, false, false, false, false]
def mpA : List Bool := [false, false, false, false, false, false, false, false, false, false, false, false, false, false, false, false, false, false, false, true, false, false, false, false, false, false, false, false, false, false, false, false, false, false, false, false, false, false, false, false, false, false, false, false, false, false, false, false, false, false, false, false, false, false, false, false, false, false, false, false, false, false, false, false, false, false, false, false, false, false, false, false, false, false, false, false, false, false, false, false, false, false, false, false, false, false, false, false, false, false, false, false, false, true, true, true, true, true, true, true, true, true, true, true, true, false, false, false, false, false, false, false, false, false, false, false, false, false, false, false, false, false, false, false, false, false, false, false, false, false, false, false, false, false, false, false, false, false, false, false, false, false, false, false, false, false, false, false, false, false, false, false, false, false, false, false, false, false, false, false, false, false, false, false, false, false, false]
def mpB : List Bool := [false, false, false, false, false, false, false, false, false, false, true, false, false, false, false, false, false, false, false, false, true, false, false, false, false, false, false, false, false, false, false, false, false, false, false, false, false, false, false, false, false, false, false, false, false, false, false, false, false, false, false, false, false, false, false, false, false, false, false, false, false, false, false, false, false, false, false, false, false, false, false, false, false, false, false, false, false, false, false, false, false, false, false, false, false, false, false, false, false, false, false, false, false, false, false, false, false, false, false, false, false, false, false, false, false, true, true, true, true, true, true, true, true, true, true, true, true, true, true, true, true, true, false, false, false, false, false, false, false, false, false, false, false, false, false, false, false, false, false, false, false, false, false, false, false, false, false, false, false, false, false, false, false, false, false, false, false, false, false, false, false, false, false, false, false, false, false]
def mpD : List Bool := [false, false, false, false, false, false, false, false, false, false, true, false, false, false, false, false, false, false, false, false, false, false, false, true, false, false, false, false, false, false, false, false, false, false, false, false, false, false, false, false, false, false, false, false, false, false, false, false, false, false, false, false, false, false, false, false, false, false, false, false, false, false, false, false, false, false, false, false, false, false, false, false, false, false, false, false, false, false, false, false, false, false, false, false, false, false, false, false, false, false, false, false, false, false, false, false, false, false, false, false, false, false, false, false, false, false, false, false, false, false, false, false, false, false, false, false, false, false, false, false, false, false, false, false, false, false, false, false, false, false, false, false, false, true, true, true, true, true, true, true, true, true, true, true, true, true, true, true, true, true, true, true, true, true, true, true, true, true, true, true, true, true, true, true, true, true, true]
set_option maxRecDepth 100000 in
set_option maxHeartbeats 8000000 in
theorem parts_walk (ver : Int) (cs : List Cmp) (a : Option Addr) (len cap : Nat) (c : CapsD) (l : List PSl) (a2 : Option Addr) (n2 cap2 : Nat) (id all : Int) (w : World) (hcs : CompsAt w.heap.size w a len cs) (hwf : CompsWf cs) (hna : a = none → len = 0 ∧ cap = 0) (hl : PLAt w.heap.size w a2 n2 l) (hall : u32B all) (hv : QV w) :
    Calls Tryz.prog 4 #[.agg #[.int .i64 ver, .slice a len cap], .agg #[.int .i64 c.ents, .int .i64 c.rows, .int .i64 c.archs, .int .i64 c.cmds, .int .i64 c.fuel, .int .i64 c.gens], .slice a2 n2 cap2, .int .i64 id, .int .u32 all] w fun e w' => e = .returned (.bool true) ∧ Below w.heap.size w w' := by
  have hm2 : n2 ≤ maxLen := hl.2.1
  unfold maxLen at hm2
  have hb0 : Below w.heap.size w ((w.alloc (.cells #[.int .i64 ver, .slice a len cap] 24)).alloc (.cells #[.int .i64 c.ents, .int .i64 c.rows, .int .i64 c.archs, .int .i64 c.cmds, .int .i64 c.fuel, .int .i64 c.gens] 44)) := by go_grown
  have k1 := keepA (.cells #[.int .i64 c.ents, .int .i64 c.rows, .int .i64 c.archs, .int .i64 c.cmds, .int .i64 c.fuel, .int .i64 c.gens] 44) (heap_alloc_new w (.cells #[.int .i64 ver, .slice a len cap] 24))
  have k2 := heap_alloc_new (w.alloc (.cells #[.int .i64 ver, .slice a len cap] 24)) (.cells #[.int .i64 c.ents, .int .i64 c.rows, .int .i64 c.archs, .int .i64 c.cmds, .int .i64 c.fuel, .int .i64 c.gens] 44)
  rw [World.size_alloc] at k2
  have HCS := Lib.hid (And.intro hcs (And.intro hwf hna))
  have HL := Lib.hid hl
  have HNW := Lib.hid (fun (w9 : World) (hb : Below w.heap.size w w9) => pd_new c ver cs a len cap ((hcs.below hb).mono hb.size) hwf hna)
  have HK := Lib.hid (And.intro hb0 (And.intro k1 k2))
  have HV := Lib.hid (hv.below hb0)
  clear hcs hwf hna hl hb0 k1 k2 hv
  obtain ⟨c1, c2, c3, c4, c5, c6⟩ := c
  dsimp only at *
  go_enter Tryz.func4, Tryz.ntmps4
  go_wp2_with fail
  generalize (w.alloc (.cells #[.int .i64 ver, .slice a len cap] 24)).alloc (.cells #[.int .i64 c1, .int .i64 c2, .int .i64 c3, .int .i64 c4, .int .i64 c5, .int .i64 c6] 44) = W at *
  obtain ⟨SB, hSB⟩ : ∃ SB, w.heap.size = SB := ⟨_, rfl⟩
  have HSB := Lib.hid hSB
  rw [hSB] at HK ⊢
  clear hSB
  refine (awake20_any W HV.out).mono ?_
  rintro e w1 ⟨rfl, hb⟩
  have HB1 : Hid (Below w.heap.size w w1) := Lib.hid (by rw [HSB.out]; exact HK.out.1.trans (hb.mono (HSB.out ▸ HK.out.1.size)))
  have HK1 := Lib.hid (And.intro (keep hb HK.out.2.1) (keep hb HK.out.2.2))
  clear hb HK HV
  have s0 := cell_at HK1.out.1 0
  have s1 := cell_at HK1.out.1 1
  have y0 := cell_at HK1.out.2 0
  have y1 := cell_at HK1.out.2 1
  have y2 := cell_at HK1.out.2 2
  have y3 := cell_at HK1.out.2 3
  have y4 := cell_at HK1.out.2 4
  have y5 := cell_at HK1.out.2 5
  simp at s0 s1 y0 y1 y2 y3 y4 y5
  go_wp2_with fail
  refine (HNW.out w1 HB1.out).mono ?_
  rintro e w2 ⟨hb2, hor⟩
  have HB2 := Lib.hid (HB1.out.trans (hb2.mono HB1.out.size))
  have HS2 := Lib.hid (keep hb2 HK1.out.1)
  have HGR := Lib.hid (great20_any ver cs a len cap w2 ((HCS.out.1.below HB2.out).mono HB2.out.size))
  have HL1 := Lib.hid (HL.out.below HB1.out)
  clear s0 s1 y0 y1 y2 y3 y4 y5 HNW hb2 HK1
  have s0 := cell_at HS2.out 0
  have s1 := cell_at HS2.out 1
  simp at s0 s1
  rcases hor with rfl | ⟨WB, S0, rfl, hD⟩
  · go_wp2_with fail
    refine HGR.out.mono ?_
    rintro e w3 ⟨rfl, hb3⟩
    have HB3 := Lib.hid (HB2.out.trans (hb3.mono HB2.out.size))
    clear hb3 s0 s1
    cases great20B cs
    · by_cases h30 : 30 < n2
      · have g1 : (30 : Int) < (n2 : Int) := by omega
        go_wp2_with fail
        go_returns
        exact ⟨rfl, HB3.out⟩
      · have g1 : ¬ (30 : Int) < (n2 : Int) := by omega
        go_wp2_with fail
        go_returns
        exact ⟨rfl, HB3.out⟩
    · go_wp2_with fail
      go_returns
      exact ⟨rfl, HB3.out⟩
  · have HD := Lib.hid hD
    clear hD
    go_wp2_with fail
    refine HGR.out.mono ?_
    rintro e w3 ⟨rfl, hb3⟩
    have HB3 := Lib.hid (HB2.out.trans (hb3.mono HB2.out.size))
    have HD3 := Lib.hid (HD.out.below hb3)
    clear hb3 s0 s1 HD HGR
    cases great20B cs
    · by_cases h30 : 30 < n2
      · have g1 : (30 : Int) < (n2 : Int) := by omega
        go_wp2_with fail
        go_returns
        exact ⟨rfl, HB3.out⟩
      have g1 : ¬ (30 : Int) < (n2 : Int) := by omega
      have hmm := @run_makeMap Tryz.prog
      go_wp2_with fail
      refine wp_loop_f mpS (fun n f wr => ∃ (k : Nat) (S : WS), n + k = n2 ∧ f 12 = .int .i64 (k : Int) ∧ AwD w1 S WB wr) n2 ⟨0, S0, rfl, rfl, HD3.out⟩ (by kernel_rfl) ?_
      intro n f wr hrel J K hJ hK
      dsimp only [mixF, mpS]
      generalize f 12 = f12 at hrel ⊢
      obtain ⟨k, S, hnk, rfl, hD⟩ := hrel
      have HN := Lib.hid hnk
      have HDK := Lib.hid hD
      have HBK := Lib.hid (HB1.out.trans (hD.bel.mono HB1.out.size))
      have hkn : k ≤ n2 := by omega
      clear hnk hD HD3
      by_cases hlt : k < n2
      · obtain ⟨b, off, x, rfl, hB, hx, hpx, x0⟩ := (HL.out.below HBK.out).get hlt
        have hp1 : PartsAt w1.heap.size w1 x.pa x.pl x.pc x.ps := (HL1.out.2.2.1 x (List.mem_of_getElem? hx)).mono HB1.out.size
        obtain ⟨pa, pl, pc, ps⟩ := x
        dsimp only at x0 hp1
        have i1 : (0 : Int) ≤ (k : Int) := by omega
        have i2 : (k : Int) < (n2 : Int) := by omega
        have hpm : pl ≤ maxLen := Nat.le_trans hp1.2.1 hp1.2.2.1
        unfold maxLen at hpm
        have HP1 := Lib.hid hp1
        clear hp1 hpx hx
        by_cases h12 : 12 < pl
        · have g2 : (12 : Int) < (pl : Int) := by omega
          go_wp2_with fail
          go_returns
          exact ⟨rfl, HBK.out⟩
        · have g2 : ¬ (12 : Int) < (pl : Int) := by omega
          have HSP := Lib.hid (pd_spawn HDK.out HP1.out (by omega))
          go_wp2_with fail
          refine HSP.out.mono ?_
          rintro e w5 ⟨v, rfl, S', hD5⟩
          have HD5 := Lib.hid hD5
          clear hD5
          go_wp2_with fail
          refine Handed.intro (n - 1) (by have := HN.out; omega) (hJ _ _ _ ?_ (by kernel_rfl))
          exact ⟨k + 1, S', by have := HN.out; omega, by go_num, HD5.out⟩
      · obtain rfl : k = n2 := by omega
        have hwi := with_any 0 id wr (by omega) (by omega)
        rw [show sWith 0 id = oneQ id from rfl] at hwi
        have hob := oneQ_bd id
        obtain ⟨one, hone⟩ : ∃ one, oneQ id = one := ⟨_, rfl⟩
        rw [hone] at hwi hob
        have HON := Lib.hid hone
        clear hone
        obtain ⟨hob0, hob1⟩ := hob
        have hck := check_alike S.ver S.cs id
        rw [HON.out] at hck
        have u00 : u32Ok 0 := ⟨by decide, by decide⟩
        have hra := pd_rows HDK.out one 0 ⟨⟨hob0, hob1⟩, u00⟩
        have hrb := fun W (hb : Below wr.heap.size wr W) => pd_rows (HDK.out.below hb) 0 one ⟨u00, hob0, hob1⟩
        rw [← hck] at hrb
        obtain ⟨ck, hcke⟩ : ∃ ck, checkQ S.ver S.cs one 0 = ck := ⟨_, rfl⟩
        simp only [hcke] at hra hrb
        have HRA := Lib.hid hra
        have HRB := Lib.hid hrb
        clear hck hcke hra hrb u00
        go_wp2_with fail
        refine hwi.mono ?_
        rintro e w5 ⟨rfl, rfl⟩
        go_wp2_with fail
        refine HRA.out.mono ?_
        rintro e w6 ⟨aa, an, ac, rfl, hfa, hb6⟩
        have HB6 := Lib.hid hb6
        have HFA := Lib.hid hfa
        clear hb6 hfa hwi HRA
        go_wp2_with fail
        refine (HRB.out _ HB6.out).mono ?_
        rintro e w7 ⟨ba, bn, bc, rfl, hfb, hb7⟩
        by_cases hc0 : ck = 0
        · subst hc0
          have hb67 := HB6.out.trans (hb7.mono HB6.out.size)
          have hd7 := HDK.out.below hb67
          have hqw := hd7.qw
          have hfa7 : FRow wr.heap.size (S.matchL one 0) aa an ac w7 := (HFA.out rfl).below hb7
          have hfb7 : FRow w6.heap.size (S.matchL 0 one) ba bn bc w7 := hfb rfl
          obtain ⟨La, hLa⟩ : ∃ La, S.matchL one 0 = La := ⟨_, rfl⟩
          obtain ⟨Lb, hLb⟩ : ∃ Lb, S.matchL 0 one = Lb := ⟨_, rfl⟩
          have HAP : Hid (one ≠ 0 → ∀ e ∈ Lb, e ∉ La) := Lib.hid (fun hn e he => by
            rw [← hLb, ← HON.out] at he
            rw [← hLa, ← HON.out]
            exact apart hqw (by rw [HON.out]; exact hn) he)
          have HTW : Hid (one ≠ 0 → an + bn = S.ix.liveL.length) := Lib.hid (fun hn => by
            have := two_parts hqw (id := id) (by rw [HON.out]; exact hn)
            rw [HON.out] at this
            rw [← hfa7.1, ← hfb7.1]
            exact this)
          have HMI : Hid (∀ e ∈ S.matchL (orQ one all) 0, e ∈ La) := Lib.hid (fun e he => by
            rw [← HON.out] at he
            rw [← hLa, ← HON.out]
            exact more_in hqw hall he)
          have HBA : Hid (∀ e ∈ La, 0 ≤ e ∧ e < 18446744073709551616) := Lib.hid (fun e he => by
            rw [← hLa] at he
            exact hd7.bd.2 e (List.mem_filter.1 he).1)
          have HBB : Hid (∀ e ∈ Lb, 0 ≤ e ∧ e < 18446744073709551616) := Lib.hid (fun e he => by
            rw [← hLb] at he
            exact hd7.bd.2 e (List.mem_filter.1 he).1)
          have hal : an ≤ 257 := by
            rw [← hfa7.1]
            exact Nat.le_trans (List.length_filter_le _ _) hd7.bd.1
          have hbl : bn ≤ 257 := by
            rw [← hfb7.1]
            exact Nat.le_trans (List.length_filter_le _ _) hd7.bd.1
          rw [hLa] at hfa7
          rw [hLb] at hfb7
          have HD7 := Lib.hid hd7
          have HFA7 := Lib.hid hfa7
          have HFB7 := Lib.hid hfb7
          have HB7 := Lib.hid (HBK.out.trans (hb67.mono HBK.out.size))
          have HQW := Lib.hid hqw
          have HLV := Lib.hid (pd_live hd7)
          clear hb67 hd7 hqw hfa7 hfb7 hLa hLb hb7 hfb HFA HRB HB6
          go_upto_region 19 with (fail)
          refine wp_cut_f mpL (fun f wx => f 91 = .bool false ∧ Below w7.heap.size w7 wx) ?_ ?_
          · intro f wc hcut
            dsimp only [mixF, mpL]
            generalize f 91 = f91 at hcut ⊢
            obtain ⟨rfl, hbc⟩ := hcut
            have HDC := Lib.hid (HD7.out.below hbc)
            have HFAC := Lib.hid (HFA7.out.below hbc)
            have HFBC := Lib.hid (HFB7.out.below hbc)
            have HBC := Lib.hid (HB7.out.trans (hbc.mono HB7.out.size))
            have hbm : Below wc.heap.size wc (wc.alloc (.map #[] 0)) := (Below.refl _ wc).alloc (Nat.le_refl _) _
            have HBM := Lib.hid hbm
            have HSE := Lib.hid (SeenE.made wc)
            clear hbc hbm HD7 HFA7 HFB7 HLV
            go_wp2_with fail
            generalize wc.alloc (.map #[] 0) = W1 at *
            obtain ⟨mb, hmb⟩ : ∃ mb, wc.heap.size = mb := ⟨_, rfl⟩
            rw [hmb] at HSE ⊢
            have HMB := Lib.hid hmb
            clear hmb
            refine wp_loop_f mpA (fun n f wr => ∃ k : Nat, n + k = an ∧ f 19 = .int .i64 (k : Int) ∧ SeenE wr mb (La.take k) ∧ Below wc.heap.size wc wr) an ⟨0, rfl, rfl, HSE.out, HBM.out⟩ (by kernel_rfl) ?_
            intro n3 f wa hrel3 J3 K3 hJ3 hK3
            dsimp only [mixF, mpA]
            generalize f 19 = f19 at hrel3 ⊢
            obtain ⟨j, hnj, rfl, hse, hba⟩ := hrel3
            have HNJ := Lib.hid hnj
            have HSA := Lib.hid hse
            have HBAA := Lib.hid hba
            have hjn : j ≤ an := by omega
            clear hnj hse hba HSE
            by_cases hjl : j < an
            · obtain ⟨qb, e, rfl, hql, he, e0⟩ := (HFAC.out.below HBAA.out).get hjl
              obtain ⟨he0, he1⟩ := HBA.out e (List.mem_of_getElem? he)
              obtain ⟨w9, hput, hs9, ho9, hm9⟩ := HSA.out.put (by rw [List.length_take]; omega) he0 he1
              have HTK := Lib.hid (take_snoc he)
              have HS9 := Lib.hid hs9
              have hb9 : Below wc.heap.size wc w9 := HBAA.out.trans (ho9.below (fun x hx => by rw [hx, HMB.out]; exact Nat.le_refl _) HBAA.out.size)
              have HB9 := Lib.hid hb9
              have q0 : (0 : Int) ≤ (j : Int) := by omega
              have q1 : (j : Int) < (an : Int) := by omega
              clear he hs9 ho9 hm9 hb9
              go_wp2_with fail
              refine Handed.intro (n3 - 1) (by have := HNJ.out; omega) (hJ3 _ _ _ ?_ (by kernel_rfl))
              exact ⟨j + 1, by have := HNJ.out; omega, by go_num, by rw [HTK.out]; exact HS9.out, HB9.out⟩
            · obtain rfl : j = an := by omega
              have hsa := HSA.out
              rw [List.take_of_length_le (by have := HFAC.out.1; omega)] at hsa
              have HSF := Lib.hid hsa
              clear hsa
              have HDA := Lib.hid (HDC.out.below HBAA.out)
              have HFBA := Lib.hid (HFBC.out.below HBAA.out)
              have HBW := Lib.hid (HBC.out.trans (HBAA.out.mono HBC.out.size))
              clear HSA HBAA HDC HFAC HFBC HBC
              go_upto_block 4 with (fail)
              refine wp_cut_f mpB (fun f wx => wx = wa) ?_ ?_
              · intro f wd hcut
                dsimp only [mixF, mpB]
                obtain rfl : wd = wa := hcut
                have u00 : u32Ok 0 := ⟨by decide, by decide⟩
                have hrd := pd_rows HDA.out (orQ one all) 0 ⟨orQ_bd one all, u00⟩
                obtain ⟨ck2, hck2⟩ : ∃ ck2, checkQ S.ver S.cs (orQ one all) 0 = ck2 := ⟨_, rfl⟩
                have hnx := fun (i : Nat) (x y : Int) => match_next HQW.out (orQ one all) 0 (i := i) (x := x) (y := y)
                have hmi := HMI.out
                have hbd : ∀ e ∈ S.matchL (orQ one all) 0, 0 ≤ e ∧ e < 18446744073709551616 := fun e he => HBA.out e (hmi e he)
                have hdl : (S.matchL (orQ one all) 0).length ≤ 257 := Nat.le_trans (List.length_filter_le _ _) HDA.out.bd.1
                rw [hck2] at hrd
                generalize S.matchL (orQ one all) 0 = Ld at hrd hnx hmi hbd hdl
                unfold orQ at hrd
                have HRD := Lib.hid hrd
                have HNX := Lib.hid hnx
                have HMI2 := Lib.hid hmi
                have HBD := Lib.hid hbd
                clear hrd hck2 hnx hmi hbd HMI u00
                go_wp2_with fail
                refine HRD.out.mono ?_
                rintro e w8 ⟨da, dn, dc, rfl, hfd, hb8⟩
                by_cases hc2 : ck2 = 0
                · subst hc2
                  have HFD := Lib.hid (hfd rfl)
                  have HSE8 := Lib.hid (HSF.out.below hb8)
                  have HB8 := Lib.hid (HBW.out.trans (hb8.mono HBW.out.size))
                  have hdn : dn ≤ 257 := by rw [← HFD.out.1]; exact hdl
                  clear hfd hb8 HRD hdl
                  go_wp2_with fail
                  refine wp_loop_f mpD (fun n f wr => ∃ k : Nat, n + k = dn ∧ f 23 = .int .i64 (k : Int) ∧ Below w8.heap.size w8 wr) dn ⟨0, rfl, rfl, Below.refl _ _⟩ (by kernel_rfl) ?_
                  intro n5 f wz hrel5 J5 K5 hJ5 hK5
                  dsimp only [mixF, mpD]
                  generalize f 23 = f23 at hrel5 ⊢
                  obtain ⟨i, hni, rfl, hbz⟩ := hrel5
                  have HNI := Lib.hid hni
                  have HBZ := Lib.hid hbz
                  have hin : i ≤ dn := by omega
                  clear hni hbz
                  by_cases hil : i < dn
                  · obtain ⟨qd, e, rfl, hqd, he, e0⟩ := (HFD.out.below HBZ.out).get hil
                    obtain ⟨he0, he1⟩ := HBD.out e (List.mem_of_getElem? he)
                    have hmem := HMI2.out e (List.mem_of_getElem? he)
                    have hl := fun m => (HSE8.out.below (HBZ.out.trans (below_drewN (Below.refl _ wz) m |>.mono HBZ.out.size))).look he0 he1
                    rw [decide_eq_true hmem] at hl
                    have hl0 := hl 0
                    have q0 : (0 : Int) ≤ (i : Int) := by omega
                    have q1 : (i : Int) < (dn : Int) := by omega
                    by_cases hi0 : i = 0
                    · subst hi0
                      clear he hmem
                      go_wp2_with fail
                      go_quiet (fail)
                      go_wp2_with fail
                      refine Handed.intro (n5 - 1) (by have := HNI.out; omega) (hJ5 _ _ _ ?_ (by kernel_rfl))
                      exact ⟨1, by have := HNI.out; omega, rfl, below_drewN HBZ.out _⟩
                    · obtain ⟨i', hi'⟩ : ∃ i', i' + 1 = i := ⟨i - 1, by omega⟩
                      obtain ⟨qd2, e', hq2, _, he', e0'⟩ := (HFD.out.below HBZ.out).get (k := i') (by omega)
                      cases hq2
                      have hlt := HNX.out i' e' e he' (by rw [hi']; exact he)
                      obtain ⟨he0', he1'⟩ := HBD.out e' (List.mem_of_getElem? he')
                      have hsub : (i : Int) - 1 = (i' : Int) := by omega
                      have q2 : (0 : Int) ≤ (i' : Int) := by omega
                      have q3 : (i' : Int) < (dn : Int) := by omega
                      have q4 : 0 < i := by omega
                      have HI := Lib.hid hi'
                      have h6 : ¬ (e % 4294967296 ≤ e' % 4294967296) := by omega
                      have h7 : ¬ (e.tmod 4294967296 ≤ e'.tmod 4294967296) := by rw [Int.tmod_eq_emod_of_nonneg he0, Int.tmod_eq_emod_of_nonneg he0']; exact h6
                      clear he he' hmem hlt hi' hi0
                      go_wp2_with fail
                      go_quiet (fail)
                      go_wp2_with fail
                      refine Handed.intro (n5 - 1) (by have := HNI.out; omega) (hJ5 _ _ _ ?_ (by kernel_rfl))
                      exact ⟨i + 1, by have := HNI.out; omega, by go_num, below_drewN HBZ.out _⟩
                  · obtain rfl : i = dn := by omega
                    have HFIN := Lib.hid (HB8.out.trans (HBZ.out.mono HB8.out.size))
                    go_wp2_with fail
                    go_returns
                    exact ⟨rfl, HFIN.out⟩
                · have HFIN := Lib.hid (HBW.out.trans (hb8.mono HBW.out.size))
                  have hcc : (ck2 != 0) = true := by simp [hc2]
                  clear hb8 hc2 hfd hdl
                  go_wp2_with fail
                  go_returns
                  exact ⟨rfl, HFIN.out⟩
              · intro J4 K4 hJ4 hK4
                go_wp2_with fail
                refine wp_loop_f mpB (fun n f wr => ∃ k : Nat, n + k = bn ∧ f 20 = .int .i64 (k : Int) ∧ wr = wa) bn ⟨0, rfl, rfl, rfl⟩ (by kernel_rfl) ?_
                intro n5 f wz hrel5 J5 K5 hJ5 hK5
                dsimp only [mixF, mpB]
                generalize f 20 = f20 at hrel5 ⊢
                obtain ⟨i, hni, rfl, rfl⟩ := hrel5
                have HNI := Lib.hid hni
                have hin : i ≤ bn := by omega
                clear hni
                by_cases h1 : one = 0
                · subst h1
                  go_wp2_with fail
                  refine Met.intro (hJ4 _ _ ?_ (by kernel_rfl))
                  rfl
                · have h2 : (one != 0) = true := by simp [h1]
                  by_cases hil : i < bn
                  · obtain ⟨qb, e, rfl, hql, he, e0⟩ := HFBA.out.get hil
                    obtain ⟨he0, he1⟩ := HBB.out e (List.mem_of_getElem? he)
                    have hlk := HSF.out.look he0 he1
                    rw [decide_eq_false (HAP.out h1 e (List.mem_of_getElem? he))] at hlk
                    have q0 : (0 : Int) ≤ (i : Int) := by omega
                    have q1 : (i : Int) < (bn : Int) := by omega
                    clear he h1
                    go_wp2_with fail
                    refine Handed.intro (n5 - 1) (by have := HNI.out; omega) (hJ5 _ _ _ ?_ (by kernel_rfl))
                    exact ⟨i + 1, by have := HNI.out; omega, by go_num, rfl⟩
                  · obtain rfl : i = bn := by omega
                    clear h1
                    go_wp2_with fail
                    refine Met.intro (hJ4 _ _ ?_ (by kernel_rfl))
                    rfl
          · intro J4 K4 hJ4 hK4
            by_cases h1 : one = 0
            · subst h1
              go_wp2_with fail
              refine Met.intro (hJ4 _ _ ?_ (by kernel_rfl))
              exact ⟨rfl, Below.refl _ _⟩
            · have h2 : (one != 0) = true := by simp [h1]
              have htw := HTW.out h1
              obtain ⟨LN, hLN⟩ : ∃ LN, S.ix.liveL.length = LN := ⟨_, rfl⟩
              rw [hLN] at htw
              have HLN := Lib.hid hLN
              have h3 : (((an : Int) + (bn : Int)) != (LN : Int)) = false := by simp; omega
              have hln2 : LN ≤ 1000 := by omega
              have HTWN := Lib.hid htw
              clear hLN htw h1
              go_wp2_with fail
              refine HLV.out.mono ?_
              rintro e w8 ⟨la, lc, rfl, _, hb8⟩
              rw [HLN.out]
              go_wp2_with fail
              refine Met.intro (hJ4 _ _ ?_ (by kernel_rfl))
              exact ⟨rfl, hb8⟩
        · have HC0 : Hid (Below w.heap.size w w7) := Lib.hid (HBK.out.trans ((HB6.out.trans (hb7.mono HB6.out.size)).mono HBK.out.size))
          have hcc : (ck != 0) = true := by simp [hc0]
          clear hb7 hc0 hfb
          go_wp2_with fail
          go_returns
          exact ⟨rfl, HC0.out⟩
    · go_wp2_with fail
      go_returns
      exact ⟨rfl, HB3.out⟩
end Go.Proofs.YtgebbmfoamkfnaaGreatDoor
namespace Go.Proofs.YtgebbmfoamkfnaaGreatDoor
open Go.RowKit
open Go.Maps (Keyed IsMap Tidy int_keyed keyOf_int_mk)
set_option linter.unusedVariables false
theorem Tryz.rowA2 : 73 < Tryz.prog.types.size := of_decide_eq_true (by kernel_rfl)
theorem Tryz.wideA2 : (match Tryz.prog.underlying 73 with | some (.array _ _) | some (.struct _) => true | _ => false) = true := by kernel_rfl
set_option maxRecDepth 100000 in
theorem Tryz.lawA2 : Keyed Tryz.prog 73 := Keyed.of_law (deep_law_laid laidOut (m := 2) (by omega) Tryz.rowA2 (by kernel_rfl) Tryz.wideA2)
theorem Tryz.ktA2 : Tryz.prog.keyType 73 = true := by kernel_rfl
theorem Tryz.coA2 : Tryz.prog.cellsOf 73 = 2 := by kernel_rfl
theorem Tryz.coU32 : Tryz.prog.cellsOf 25 = 1 := by kernel_rfl
theorem Tryz.zeroU32s (w : World) : (zeroValue 63).run Tryz.prog w = .ok (.slice none 0 0) w := by kernel_rfl
theorem a2_key {q : Int × Int} (h : QWf q) : keyOf Tryz.prog 73 (qVal q) = some (qK q) := by
  obtain ⟨m, hm⟩ := Tryz.tsz
  have e : Tryz.prog.keyLits (m + 2) 73 [.int .u32 q.1, .int .u32 q.2] = some [.int .u32 q.1, .int .u32 q.2] := by
    simp [Program.keyLits, show List.range 2 = [0, 1] from rfl, Tryz.underlying73, Tryz.underlying25, Tryz.coA2, Tryz.coU32, wf_u32 h.1.1 h.1.2, wf_u32 h.2.1 h.2.2]
  unfold keyOf qVal
  rw [Tryz.underlying73]
  simp only [Tryz.ktA2, hm, Value.cells, e]
  simp [Value.formed, Tryz.underlying73, Tryz.coA2]
  rfl
/-- An ask of the law. -/
structure AskD where
  all : Int
  none : Int
  n : Int
  clr : Bool
  other : Bool
def AskD.q (x : AskD) : Int × Int := (x.all, x.none)
def AskD.wf (x : AskD) : Prop := QWf x.q
def askL (x : AskD) : List Value := [.int .u32 x.all, .int .u32 x.none, .int .i64 x.n, .bool x.clr, .bool x.other]
/-- A row of asks that lies below block B. -/
def AsksAt (B : Nat) (w : World) (a : Option Addr) (len : Nat) (l : List AskD) : Prop :=
  l.length = len ∧ len ≤ maxLen ∧ (∀ x ∈ l, x.wf) ∧ (len = 0 ∨ ∃ b off, a = some ⟨b, off, none⟩ ∧ b < B ∧ ∀ (i : Nat) (x : AskD), l[i]? = some x → ∀ (j : Nat) (v : Value), (askL x)[j]? = some v → w.cell? ⟨b, off + i * 5 + j, none⟩ = some v)
theorem AsksAt.below {B : Nat} {w w' : World} {a : Option Addr} {len : Nat} {l : List AskD} (h : AsksAt B w a len l) (hb : Below B w w') : AsksAt B w' a len l := by
  obtain ⟨h1, h2, h3, h4⟩ := h
  refine ⟨h1, h2, h3, h4.imp id ?_⟩
  rintro ⟨b, off, ha, hB, hc⟩
  exact ⟨b, off, ha, hB, fun i x hx j v hv => (hb.cell (p := ⟨b, off + i * 5 + j, none⟩) hB).trans (hc i x hx j v hv)⟩
theorem AsksAt.get {B : Nat} {w : World} {a : Option Addr} {len : Nat} {l : List AskD} (h : AsksAt B w a len l) {k : Nat} (hk : k < len) : ∃ b off x, a = some ⟨b, off, none⟩ ∧ b < B ∧ l[k]? = some x ∧ x.wf ∧ w.cell? ⟨b, off + k * 5, none⟩ = some (.int .u32 x.all) ∧ w.cell? ⟨b, off + k * 5 + 1, none⟩ = some (.int .u32 x.none) ∧ w.cell? ⟨b, off + k * 5 + 2, none⟩ = some (.int .i64 x.n) ∧ w.cell? ⟨b, off + k * 5 + 3, none⟩ = some (.bool x.clr) ∧ w.cell? ⟨b, off + k * 5 + 4, none⟩ = some (.bool x.other) := by
  obtain ⟨h1, h2, h3, h4⟩ := h
  rcases h4 with h4 | ⟨b, off, ha, hB, hc⟩
  · omega
  · have hl : k < l.length := by omega
    have hx := List.getElem?_eq_getElem hl
    have hcx := hc k _ hx
    exact ⟨b, off, _, ha, hB, hx, h3 _ (List.getElem_mem hl), hcx 0 _ rfl, hcx 1 _ rfl, hcx 2 _ rfl, hcx 3 _ rfl, hcx 4 _ rfl⟩
/-- What the law's map holds of a query. -/
def SawIs (w : World) : Option (List Int) → Option Value → Prop
  | none, v => v = none
  | some l, v => ∃ sa n sc, v = some (.slice sa n sc) ∧ l.length = n ∧ n ≤ 60 ∧ w.ownsRow 0 25 1 (.slice sa n sc) n (l.map (.int .u32))
def SawAt (w : World) (mb : Nat) (S : CS) : Prop := ∃ f, MapV Tryz.prog w 73 mb S.cnt f ∧ ∀ q, QWf q → SawIs w (S.kf q) (f (qK q))
section
variable {w w' : World} {mb : Nat} {S : CS}
theorem SawIs.out {F : Nat → Prop} {l : Option (List Int)} {v : Option Value} (h : SawIs w l v) (ho : Out F w w') (hF : ∀ x cs, F x → w.heap[x]? ≠ some (.cells cs 25 (0, 0))) : SawIs w' l v := by
  cases l with
  | none => exact h
  | some l =>
    obtain ⟨sa, n, sc, h1, h2, h3, h4⟩ := h
    refine ⟨sa, n, sc, h1, h2, h3, ownsRow_out h4 ho (fun x hx hf => ?_)⟩
    obtain ⟨cur, hc⟩ := row_type h4 hx
    exact hF x cur hf hc
theorem SawAt.out {F : Nat → Prop} (h : SawAt w mb S) (ho : Out F w w') (hF : ∀ x, F x → x ≠ mb ∧ ∀ cs, w.heap[x]? ≠ some (.cells cs 25 (0, 0))) : SawAt w' mb S := by
  obtain ⟨f, h1, h2⟩ := h
  exact ⟨f, h1.out ho (fun hf => (hF _ hf).1 rfl), fun q hq => (h2 q hq).out ho (fun x cs hf => (hF x hf).2 cs)⟩
theorem SawAt.below (h : SawAt w mb S) (hb : Below w.heap.size w w') : SawAt w' mb S := h.out (F := fun _ => False) (Out.of hb) (fun _ hf => hf.elim)
theorem SawAt.lt (h : SawAt w mb S) : mb < w.heap.size := by obtain ⟨f, h1, _⟩ := h; exact h1.lt
theorem SawAt.obj (h : SawAt w mb S) : ∃ es c, w.heap[mb]? = some (.map es c) := by obtain ⟨f, h1, _⟩ := h; exact h1.obj
theorem SawAt.made (w : World) (lk : Int) : SawAt (w.alloc (.map #[] 0)) w.heap.size ⟨fun _ => none, 0, lk⟩ := ⟨fun _ => none, MapV.made w Tryz.prog 73, fun q hq => rfl⟩
theorem SawAt.len (h : SawAt w mb S) (ty : TypeId) : (Builtin.len_ #[67] ty #[.map (some mb)]).run Tryz.prog w = .ok (.int .i64 S.cnt) w := by
  obtain ⟨f, h1, _⟩ := h
  exact h1.len Tryz.underlying67 ty
theorem SawAt.look (h : SawAt w mb S) {q : Int × Int} (hq : QWf q) : ∃ sa n sc, (Instr.lookup 67 (.map (some mb)) (.agg #[.int .u32 q.1, .int .u32 q.2]) false).run Tryz.prog w = .ok (.slice sa n sc) w ∧ (S.old q).length = n ∧ n ≤ 60 ∧ w.ownsRow 0 25 1 (.slice sa n sc) n ((S.old q).map (.int .u32)) := by
  obtain ⟨f, hm, hf⟩ := h
  have hl : (Instr.lookup 67 (.map (some mb)) (.agg #[.int .u32 q.1, .int .u32 q.2]) false).run Tryz.prog w = .ok ((f (qK q)).getD (.slice none 0 0)) w := hm.look Tryz.lawA2 Tryz.underlying67 Tryz.zeroU32s (a2_key hq)
  have hq2 := hf q hq
  unfold CS.old
  cases hk : S.kf q with
  | none =>
    rw [hk] at hq2
    rw [show f (qK q) = none from hq2] at hl
    exact ⟨none, 0, 0, hl, rfl, by omega, World.ownsRow_nil _ _ _ _⟩
  | some l =>
    rw [hk] at hq2
    obtain ⟨sa, n, sc, hu, h2, h3, h4⟩ := hq2
    rw [hu] at hl
    exact ⟨sa, n, sc, hl, h2, h3, h4⟩
theorem SawAt.put (h : SawAt w mb S) {q : Int × Int} (hq : QWf q) (l : List Int) {sa : Option Addr} {n sc : Nat} (hln : l.length = n) (hn : n ≤ 60) (ho : w.ownsRow 0 25 1 (.slice sa n sc) n (l.map (.int .u32))) (hcn : S.cnt ≤ 1000000) :
    ∃ w7, (Instr.mapUpdate 67 (.map (some mb)) (.agg #[.int .u32 q.1, .int .u32 q.2]) (.slice sa n sc)).run Tryz.prog w = .ok () w7 ∧ SawAt w7 mb (S.ask q l) ∧ Out (fun x => x = mb) w w7 := by
  obtain ⟨es, c, hob⟩ := h.obj
  obtain ⟨f, hm, hf⟩ := h
  obtain ⟨w7, hput, hm7, hg7, hsz7⟩ := hm.store (key := qVal q) (val := .slice sa n sc) Tryz.lawA2 Tryz.underlying67 (by unfold maxLen; omega) (a2_key hq)
  have ho7 : Out (fun x => x = mb) w w7 := ⟨hg7.os, hg7.tape, hg7.output, by rw [hsz7]; exact Nat.le_refl _, fun k hk hn => hg7.block k hk (fun e => hn (by cases e; rfl))⟩
  have hkm : ∀ x cs, x = mb → w.heap[x]? ≠ some (.cells cs 25 (0, 0)) := fun x cs e => by
    subst e
    rw [hob]
    simp
  have hcnt : (f (qK q)).isSome = (S.kf q).isSome := by
    have h1 := hf q hq
    cases hk : S.kf q with
    | none => rw [hk] at h1; rw [show f (qK q) = none from h1]; rfl
    | some l' => rw [hk] at h1; obtain ⟨_, _, _, hu, _⟩ := h1; rw [hu]; rfl
  rw [hcnt] at hm7
  refine ⟨w7, hput, ⟨putV f (qK q) (.slice sa n sc), hm7, fun x hx => ?_⟩, ho7⟩
  show SawIs w7 (if x = q then some l else S.kf x) _
  by_cases hxq : x = q
  · subst hxq
    rw [if_pos rfl, putV_same]
    refine ⟨sa, n, sc, rfl, hln, hn, ownsRow_out ho ho7 (fun z hz e => ?_)⟩
    obtain ⟨cur, hc⟩ := row_type ho hz
    exact hkm z cur e hc
  · rw [if_neg hxq, putV_ne (fun e => hxq (qK_inj hx hq e))]
    exact (hf x hx).out ho7 hkm
end
end Go.Proofs.YtgebbmfoamkfnaaGreatDoor
