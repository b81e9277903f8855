/- retrofitref20.Check: the document's answer is the program's. Printed by mkFT.py. · Contract of retrofitref09.Digits. Printed by mkFU.py. -/
import Derived.Test.YtgebbmfoamkfnaaGreatDoorT26
import Derived.Test.YtgebbmfoamkfnaaGreatDoorT39
import Derived.Test.YtgebbmfoamkfnaaGreatDoorT41
import Derived.Test.YtgebbmfoamkfnaaGreatDoorT4
import Derived.Test.YtgebbmfoamkfnaaGreatDoorT17
import Derived.Test.YtgebbmfoamkfnaaGreatDoorT15
import Derived.Lib.ItoaLen
import Derived.Laws.BytesString
namespace Go.Proofs.YtgebbmfoamkfnaaGreatDoor
open Go.RowKit
set_option linter.unusedVariables false
def c20_list (ver : Int) (a : Option Addr) (len cap q n c k : Nat) (y ix : Int) : List (Value → World → Prop) :=
 [IsV (.agg #[.int .i64 ver, .slice a len cap]),
  IsV (.slice (some ⟨q, 0, none⟩) n c),
  IsV (.int .i64 (k : Int)),
  IsV (.pointer (some ⟨q, k, none⟩)),
  IsV (.int .i64 y),
  IsV (.int .i64 ix),
  IsV (.bool (decide (ix < 0)))]
theorem c20_list_lasts (ver : Int) (a : Option Addr) (len cap q n c k : Nat) (y ix : Int) : ∀ p ∈ c20_list ver  a  len cap q n c k  y ix , Lasts p := by
 simp only [c20_list, List.mem_cons, List.not_mem_nil, or_false]
 rintro p hp
 repeat (rcases hp with rfl | hp; exact lasts_v _)
theorem schema_ids {ver : Int} {cs : List Cmp} (h : schemaCheck ver cs = 0) : (cs.map (·.id)).all idB = true := by
 unfold schemaCheck at h
 split at h
 ·cases h
 ·rw [List.all_eq_true]
  intro x hx
  obtain ⟨c, hc, rfl⟩ := List.mem_map.1 hx
  have := compsGo_ids cs 0 [] (Int.le_refl _) h c hc
  exact idB_true this.1 this.2
theorem idxF_in (i : Int) (cs : List Cmp) : decide (0 ≤ idxF i 0 cs) = decide (i ∈ cs.map (·.id)) := by
 cases hf : cs.find? (fun c => decide (c.id = i)) with
 | none =>
  rw [idxF_none cs 0 hf]
  rw [List.find?_eq_none] at hf
  rw [decide_eq_false (show ¬ i ∈ cs.map (·.id) from fun hm => by
   obtain ⟨c, hc, e⟩ := List.mem_map.1 hm
   exact hf c hc (decide_eq_true e))]
  rfl
 | some c =>
  obtain ⟨j, hj, hc⟩ := idxF_some cs 0 hf
  have h1 := List.find?_some hf
  have h2 : c ∈ cs := List.mem_of_find?_eq_some hf
  rw [hj, decide_eq_true (by omega), decide_eq_true (List.mem_map.2 ⟨c, h2, of_decide_eq_true h1⟩)]
theorem within_has {ver : Int} {cs : List Cmp} (hs : schemaCheck ver cs = 0) {al : Int} (h0 : 0 ≤ al) (h1 : al ≤ 4294967295) : within al (hasQ cs) = (ids10 al 24).all fun i => decide (0 ≤ idxF i 0 cs) := by
 have hh : 0 ≤ hasQ cs ∧ hasQ cs ≤ 4294967295 := by unfold hasQ; exact ofF_bd _
 have ha := schema_ids hs
 rw [within_ids ⟨h0, h1⟩ hh]
 apply List.all_congr rfl
 intro i
 rw [idxF_in]
 by_cases hi : idB i = true
 ·have e : hasB (hasQ cs) i = decide (i ∈ cs.map (·.id)) := by
   unfold hasQ ofF
   rw [if_pos ha]
   exact has_fold hi _ ha
  apply decide_eq_decide.2
  rw [mem_ids10 hh.1 hh.2, e]
  simp [hi]
 ·apply decide_eq_decide.2
  rw [mem_ids10 hh.1 hh.2]
  constructor
  ·rintro ⟨h2, _⟩; exact absurd h2 hi
  ·intro h2; exact absurd (List.all_eq_true.1 ha i h2) hi
set_option maxRecDepth 100000 in
set_option maxHeartbeats 4000000 in
theorem check20_any (ver : Int) (cs : List Cmp) (a : Option Addr) (len cap : Nat) (al no : Int) (w : World) (hcs : CompsAt w.heap.size w a len cs) (hw : CompsWf cs) (hq : QWf (al, no)) :
  Calls Tryz.prog 11 #[.agg #[.int .i64 ver, .slice a len cap], .int .u32 al, .int .u32 no] w fun e w' => e = .returned (.int .i64 (checkQ ver cs al no)) ∧ Below w.heap.size w w' := by
 obtain ⟨⟨al0, al1⟩, no0, no1⟩ := hq
 have hb0 : Below w.heap.size w (w.alloc (.cells #[.int .i64 ver, .slice a len cap] 24)) := by go_grown
 have hbox := heap_alloc_new w (.cells #[.int .i64 ver, .slice a len cap] 24)
 have hcs0 := (hcs.below hb0).mono hb0.size
 have HFD0 := Lib.hid (fun (y : Int) (W : World) (hb : Below w.heap.size w W) => find07_any ver y cs a len cap W ((hcs.below hb).mono hb.size))
 obtain ⟨E, hE⟩ : ∃ E, checkQ ver cs al no = E := ⟨_, rfl⟩
 rw [hE]
 have hE2 := hE.symm
 unfold checkQ at hE2
 obtain ⟨ce, hce⟩ : ∃ ce, schemaCheck ver cs = ce := ⟨_, rfl⟩
 have HW : Hid (ce = 0 → within al (hasQ cs) = ((ids10 al 24).all fun i => decide (0 ≤ idxF i 0 cs)) ∧ within no (hasQ cs) = ((ids10 no 24).all fun i => decide (0 ≤ idxF i 0 cs)) ∧ meets al no = ((ids10 al 24).any fun i => decide (i ∈ ids10 no 24))) := Lib.hid (fun h => ⟨within_has (hce.trans h) al0 al1, within_has (hce.trans h) no0 no1, meets_ids ⟨al0, al1⟩ ⟨no0, no1⟩⟩)
 obtain ⟨ia, hia⟩ : ∃ ia, sIs al = ia := ⟨_, rfl⟩
 obtain ⟨ib, hib⟩ : ∃ ib, sIs no = ib := ⟨_, rfl⟩
 rw [hce, hia, hib] at hE2
 have HCK := check07_any ver cs a len cap _ hcs0 hw
 rw [hce] at HCK
 have HCK := Lib.hid HCK
 have HE := Lib.hid hE2
 have HIA := fun W => is10_any al W al0 al1
 have HIB := fun W => is10_any no W no0 no1
 rw [← sIs_same16 al0 al1, hia] at HIA
 rw [← sIs_same16 no0 no1, hib] at HIB
 have HIDA := Lib.hid (fun W => ids10_any al W al0 al1)
 have HIDB := Lib.hid (fun W => ids10_any no W no0 no1)
 have hla := ids10_len al 24
 have hlb := ids10_len no 24
 unfold IsIds10 at HIDA HIDB
 generalize ids10 al 24 = la at *
 generalize ids10 no 24 = lb at *
 have HB0 := Lib.hid hb0
 have HBOX0 := Lib.hid hbox
 clear hE hE2 hce hia hib hcs hw hb0 hbox hcs0
 go_enter Tryz.func11, Tryz.ntmps11
 go_wp2_with fail
 refine HCK.out.mono ?_
 rintro e w1 ⟨rfl, hb1⟩
 have HB1 := Lib.hid (HB0.out.trans (hb1.mono HB0.out.size))
 have HBOX1 := Lib.hid (keep hb1 HBOX0.out)
 clear hb1 HCK HB0 HBOX0
 by_cases h0 : ce = 0
 ·subst h0
  obtain ⟨hwa, hwb, hmt⟩ := HW.out rfl
  have hE1 := HE.out
  rw [if_neg (by simp), hwa, hwb, hmt] at hE1
  have HE1 := Lib.hid hE1
  clear hwa hwb hmt hE1 HE HW
  cases ia
  ·have HE3 : Hid (E = 1) := Lib.hid (by rw [HE1.out]; rfl)
   go_wp2_with fail
   refine (HIA _).mono ?_
   rintro e w' ⟨rfl, hb'⟩
   have HF := Lib.hid (HB1.out.trans (hb'.mono HB1.out.size))
   clear hb'
   go_wp2_with fail
   go_returns
   exact ⟨ret_intk HE3.out.symm, HF.out⟩
  cases ib
  ·have HE3 : Hid (E = 1) := Lib.hid (by rw [HE1.out]; rfl)
   go_wp2_with fail
   refine (HIA _).mono ?_
   rintro e w' ⟨rfl, hb'⟩
   have HF := Lib.hid (HB1.out.trans (hb'.mono HB1.out.size))
   clear hb'
   go_wp2_with fail
   refine (HIB _).mono ?_
   rintro e w'' ⟨rfl, hb'⟩
   have HF2 := Lib.hid (HF.out.trans (hb'.mono HF.out.size))
   clear hb'
   go_wp2_with fail
   go_returns
   exact ⟨ret_intk HE3.out.symm, HF2.out⟩
  have HE2 : Hid (E = if (!(la.all fun i => decide (0 ≤ idxF i 0 cs)) || !(lb.all fun i => decide (0 ≤ idxF i 0 cs))) = true then 6 else if (la.any fun i => decide (i ∈ lb)) = true then 7 else 0) := Lib.hid (by rw [HE1.out]; simp)
  clear HE1
  go_wp2_with fail
  refine (HIA _).mono ?_
  rintro e w2 ⟨rfl, hb2⟩
  have HB2 := Lib.hid (HB1.out.trans (hb2.mono HB1.out.size))
  have HBOX2 := Lib.hid (keep hb2 HBOX1.out)
  clear hb2
  go_wp2_with fail
  refine (HIB _).mono ?_
  rintro e w3 ⟨rfl, hb3⟩
  have HB3 := Lib.hid (HB2.out.trans (hb3.mono HB2.out.size))
  have HBOX3 := Lib.hid (keep hb3 HBOX2.out)
  clear hb3 HB2 HBOX2
  go_wp2_with fail
  refine (HIDA.out _).mono ?_
  rintro e w4 ⟨aa, an, ac, rfl, han, hao, hb4⟩
  have HB4 := Lib.hid (HB3.out.trans (hb4.mono HB3.out.size))
  have HBOX4 := Lib.hid (keep hb4 HBOX3.out)
  have HAO := Lib.hid hao
  have HAN := Lib.hid han
  have han2 : an ≤ 24 := by omega
  clear hb4 hao han hla HB3 HBOX3
  go_wp2_with fail
  refine (HIDB.out _).mono ?_
  rintro e w5 ⟨na, nn, nc, rfl, hnn, hno, hb5⟩
  have HB5 := Lib.hid (HB4.out.trans (hb5.mono HB4.out.size))
  have HBOX5 := Lib.hid (keep hb5 HBOX4.out)
  have HAO5 := Lib.hid (ownsRow_below HAO.out hb5)
  have HNO := Lib.hid hno
  have HNN := Lib.hid hnn
  have hnn2 : nn ≤ 24 := by omega
  clear hb5 hno hnn hlb HB4 HBOX4 HAO HIDA HIDB
  go_wp2_with fail
  go_loopw [10] (fun i wr => ∃ k : Nat, i = .int .i64 (k : Int) ∧ k ≤ an ∧ ((la.take k).all fun i => decide (0 ≤ idxF i 0 cs)) = true ∧ Below w5.heap.size w5 wr) (fun i _ => an - (intOf i).toNat)
  case atStart => exact ⟨0, rfl, Nat.zero_le _, by simp, Below.refl _ _⟩
  case round =>
   obtain ⟨k, rfl, hk, hall, hb⟩ := hrel
   have HALL := Lib.hid hall
   have HB := Lib.hid hb
   clear hall hb
   by_cases hlt : k < an
   ·obtain ⟨q, rfl, _, hql, hqc⟩ := row_block (ownsRow_below HAO5.out HB.out) (by omega)
    obtain ⟨y, hy⟩ : ∃ y, la[k]? = some y := ⟨_, List.getElem?_eq_getElem (by have := HAN.out; omega)⟩
    have y0 := hqc k (.int .i64 y) (by rw [List.getElem?_map, hy]; rfl)
    have g0 : (0 : Int) ≤ (k : Int) := by omega
    have g1 : (k : Int) < (an : Int) := by omega
    have HTK := Lib.hid (take_snoc hy)
    have HMY := Lib.hid (List.mem_of_getElem? hy)
    have HBOX := Lib.hid (keep HB.out HBOX5.out)
    have hfd := fun W (hb : Below wr.heap.size wr W) => HFD0.out y W (HB5.out.trans ((HB.out.trans (hb.mono HB.out.size)).mono HB5.out.size))
    obtain ⟨ix, hix⟩ : ∃ ix, idxF y 0 cs = ix := ⟨_, rfl⟩
    simp only [hix] at hfd
    have HIX := Lib.hid hix
    have HFD := Lib.hid hfd
    clear hqc hy hix hfd
    go_wp2_with fail
    refine wp_region_frame (by kernel_rfl) (by kernel_rfl) (by kernel_rfl) (byList (c20_list ver a len cap q an ac k y ix)) (lasts_list (c20_list_lasts ver a len cap q an ac k y ix)) ?_ ?_
    ·intro vs w' iq o A F hb ho hd
     have m3 : A.tmps[3]?.getD undef = (.pointer (some ⟨w.heap.size, 0, none⟩)) := F.m (by kernel_rfl) rfl
     have m8 : A.tmps[8]?.getD undef = (.slice (some ⟨q, 0, none⟩) an ac) := F.m (by kernel_rfl) rfl
     have m10 : A.tmps[10]?.getD undef = (.int .i64 (k : Int)) := F.m (by kernel_rfl) rfl
     have G := F.light (n := 68) (by kernel_rfl)
     clear F
     have HBX := Lib.hid hb
     have s0 := cell_at (keep hb HBOX.out) 0
     have s1 := cell_at (keep hb HBOX.out) 1
     simp at s0 s1
     have y0' := (hb.cell (p := ⟨q, k, none⟩) hql).trans y0
     clear hb
     revert ho hd
     match iq with
     | 0 => intro ho hd; obtain rfl := (Option.some.inj ho).symm; clear hd ho; refine step_open rfl ?_; clear G; exact step_run (v := (.agg #[.int .i64 ver, .slice a len cap])) (by go_simp) rfl
     | 1 => intro ho hd; obtain rfl := (Option.some.inj ho).symm; clear hd ho; refine step_open rfl ?_; clear G; exact step_run (v := (.slice (some ⟨q, 0, none⟩) an ac)) (by go_simp) rfl
     | 2 => intro ho hd; obtain rfl := (Option.some.inj ho).symm; clear hd ho; refine step_open rfl ?_; clear G; exact step_run (v := (.int .i64 (k : Int))) (by go_simp) rfl
     | 3 => intro ho hd; obtain rfl := (Option.some.inj ho).symm; have d1 : vs 1 = (.slice (some ⟨q, 0, none⟩) an ac) := hd ⟨1, .data⟩ (by simp) rfl; have d2 : vs 2 = (.int .i64 (k : Int)) := hd ⟨2, .data⟩ (by simp) rfl; clear hd ho; have h37 := G.h (j := 1) (d := 37) rfl (by decide) d1; have h38 := G.h (j := 2) (d := 38) rfl (by decide) d2; refine step_open rfl ?_; clear G; exact step_run (v := (.pointer (some ⟨q, k, none⟩))) (by go_simp) rfl
     | 4 => intro ho hd; obtain rfl := (Option.some.inj ho).symm; have d3 : vs 3 = (.pointer (some ⟨q, k, none⟩)) := hd ⟨3, .data⟩ (by simp) rfl; clear hd ho; have h39 := G.h (j := 3) (d := 39) rfl (by decide) d3; refine step_open rfl ?_; clear G; exact step_run (v := (.int .i64 y)) (by go_simp) rfl
     | 5 => intro ho hd; obtain rfl := (Option.some.inj ho).symm; have d0 : vs 0 = (.agg #[.int .i64 ver, .slice a len cap]) := hd ⟨0, .data⟩ (by simp) rfl; have d4 : vs 4 = (.int .i64 y) := hd ⟨4, .data⟩ (by simp) rfl; clear hd ho; have h36 := G.h (j := 0) (d := 36) rfl (by decide) d0; have h40 := G.h (j := 4) (d := 40) rfl (by decide) d4; refine step_open rfl ?_; clear G; go_simp; refine (HFD.out _ HBX.out).mono ?_; rintro e w9 ⟨rfl, hb9⟩; exact ⟨_, rfl, rfl, hb9⟩
     | 6 => intro ho hd; obtain rfl := (Option.some.inj ho).symm; have d5 : vs 5 = (.int .i64 ix) := hd ⟨5, .data⟩ (by simp) rfl; clear hd ho; have h41 := G.h (j := 5) (d := 41) rfl (by decide) d5; refine step_open rfl ?_; clear G; exact step_run (v := (.bool (decide (ix < 0)))) (by go_simp) rfl
     | n + 7 => intro ho hd; simp at ho
    ·intro vs w' hb hR
     have hv : vs 6 = .bool (decide (ix < 0)) := hR 6 (by simp)
     simp only [putAll, Act.put, List.setIfInBounds_toArray, List.set_cons_succ, List.set_cons_zero]
     rw [hv]
     have HB6 := Lib.hid (HB.out.trans (hb.mono HB.out.size))
     clear hR hb hv y0
     by_cases hneg : ix < 0
     ·have HE3 : Hid (E = 6) := Lib.hid (by
       rw [HE2.out]
       have : (la.all fun i => decide (0 ≤ idxF i 0 cs)) = false := List.all_eq_false.2 ⟨y, HMY.out, by rw [HIX.out]; simp; omega⟩
       rw [this]; rfl)
      go_wp2_with fail
      go_returns
      exact ⟨ret_intk HE3.out.symm, HB5.out.trans (HB6.out.mono HB5.out.size)⟩
     ·have HT : Hid (((la.take (k + 1)).all fun i => decide (0 ≤ idxF i 0 cs)) = true) := Lib.hid (by
       rw [HTK.out, List.all_append, HALL.out]
       simp [HIX.out]
       omega)
      go_wp2_with fail
      go_roundw
      case rel => exact ⟨k + 1, by go_num, by omega, HT.out, HB6.out⟩
      case measure => simp [intOf]; omega
   ·obtain rfl : k = an := by omega
    have hall := HALL.out
    rw [List.take_of_length_le (by have := HAN.out; omega)] at hall
    have HE3 : Hid (E = if (!(lb.all fun i => decide (0 ≤ idxF i 0 cs))) = true then 6 else if (la.any fun i => decide (i ∈ lb)) = true then 7 else 0) := Lib.hid (by rw [HE2.out, hall]; rfl)
    clear hall HALL HE2
    go_wp2_with fail
    go_loopw [11] (fun i w2 => ∃ k : Nat, i = .int .i64 (k : Int) ∧ k ≤ nn ∧ ((lb.take k).all fun i => decide (0 ≤ idxF i 0 cs)) = true ∧ Below w5.heap.size w5 w2) (fun i _ => nn - (intOf i).toNat)
    case atStart => exact ⟨0, rfl, Nat.zero_le _, by simp, HB.out⟩
    case round =>
     obtain ⟨j, rfl, hj, hall, hb⟩ := hrel
     have HALL := Lib.hid hall
     have HB7 := Lib.hid hb
     clear hall hb
     by_cases hlt2 : j < nn
     ·obtain ⟨q, rfl, _, hql, hqc⟩ := row_block (ownsRow_below HNO.out HB7.out) (by omega)
      obtain ⟨y, hy⟩ : ∃ y, lb[j]? = some y := ⟨_, List.getElem?_eq_getElem (by have := HNN.out; omega)⟩
      have y0 := hqc j (.int .i64 y) (by rw [List.getElem?_map, hy]; rfl)
      have g0 : (0 : Int) ≤ (j : Int) := by omega
      have g1 : (j : Int) < (nn : Int) := by omega
      have HTK := Lib.hid (take_snoc hy)
      have HMY := Lib.hid (List.mem_of_getElem? hy)
      have HBOX := Lib.hid (keep HB7.out HBOX5.out)
      have hfd := fun W (hb : Below wr.heap.size wr W) => HFD0.out y W (HB5.out.trans ((HB7.out.trans (hb.mono HB7.out.size)).mono HB5.out.size))
      obtain ⟨ix, hix⟩ : ∃ ix, idxF y 0 cs = ix := ⟨_, rfl⟩
      simp only [hix] at hfd
      have HIX := Lib.hid hix
      have HFD := Lib.hid hfd
      clear hqc hy hix hfd
      go_wp2_with fail
      refine wp_region_frame (by kernel_rfl) (by kernel_rfl) (by kernel_rfl) (byList (c20_list ver a len cap q nn nc j y ix)) (lasts_list (c20_list_lasts ver a len cap q nn nc j y ix)) ?_ ?_
      ·intro vs w' iq o A F hb ho hd
       have m3 : A.tmps[3]?.getD undef = (.pointer (some ⟨w.heap.size, 0, none⟩)) := F.m (by kernel_rfl) rfl
       have m9 : A.tmps[9]?.getD undef = (.slice (some ⟨q, 0, none⟩) nn nc) := F.m (by kernel_rfl) rfl
       have m11 : A.tmps[11]?.getD undef = (.int .i64 (j : Int)) := F.m (by kernel_rfl) rfl
       have G := F.light (n := 68) (by kernel_rfl)
       clear F
       have HBX := Lib.hid hb
       have s0 := cell_at (keep hb HBOX.out) 0
       have s1 := cell_at (keep hb HBOX.out) 1
       simp at s0 s1
       have y0' := (hb.cell (p := ⟨q, j, none⟩) hql).trans y0
       clear hb
       revert ho hd
       match iq with
       | 0 => intro ho hd; obtain rfl := (Option.some.inj ho).symm; clear hd ho; refine step_open rfl ?_; clear G; exact step_run (v := (.agg #[.int .i64 ver, .slice a len cap])) (by go_simp) rfl
       | 1 => intro ho hd; obtain rfl := (Option.some.inj ho).symm; clear hd ho; refine step_open rfl ?_; clear G; exact step_run (v := (.slice (some ⟨q, 0, none⟩) nn nc)) (by go_simp) rfl
       | 2 => intro ho hd; obtain rfl := (Option.some.inj ho).symm; clear hd ho; refine step_open rfl ?_; clear G; exact step_run (v := (.int .i64 (j : Int))) (by go_simp) rfl
       | 3 => intro ho hd; obtain rfl := (Option.some.inj ho).symm; have d1 : vs 1 = (.slice (some ⟨q, 0, none⟩) nn nc) := hd ⟨1, .data⟩ (by simp) rfl; have d2 : vs 2 = (.int .i64 (j : Int)) := hd ⟨2, .data⟩ (by simp) rfl; clear hd ho; have h50 := G.h (j := 1) (d := 50) rfl (by decide) d1; have h51 := G.h (j := 2) (d := 51) rfl (by decide) d2; refine step_open rfl ?_; clear G; exact step_run (v := (.pointer (some ⟨q, j, none⟩))) (by go_simp) rfl
       | 4 => intro ho hd; obtain rfl := (Option.some.inj ho).symm; have d3 : vs 3 = (.pointer (some ⟨q, j, none⟩)) := hd ⟨3, .data⟩ (by simp) rfl; clear hd ho; have h52 := G.h (j := 3) (d := 52) rfl (by decide) d3; refine step_open rfl ?_; clear G; exact step_run (v := (.int .i64 y)) (by go_simp) rfl
       | 5 => intro ho hd; obtain rfl := (Option.some.inj ho).symm; have d0 : vs 0 = (.agg #[.int .i64 ver, .slice a len cap]) := hd ⟨0, .data⟩ (by simp) rfl; have d4 : vs 4 = (.int .i64 y) := hd ⟨4, .data⟩ (by simp) rfl; clear hd ho; have h49 := G.h (j := 0) (d := 49) rfl (by decide) d0; have h53 := G.h (j := 4) (d := 53) rfl (by decide) d4; refine step_open rfl ?_; clear G; go_simp; refine (HFD.out _ HBX.out).mono ?_; rintro e w9 ⟨rfl, hb9⟩; exact ⟨_, rfl, rfl, hb9⟩
       | 6 => intro ho hd; obtain rfl := (Option.some.inj ho).symm; have d5 : vs 5 = (.int .i64 ix) := hd ⟨5, .data⟩ (by simp) rfl; clear hd ho; have h54 := G.h (j := 5) (d := 54) rfl (by decide) d5; refine step_open rfl ?_; clear G; exact step_run (v := (.bool (decide (ix < 0)))) (by go_simp) rfl
       | n + 7 => intro ho hd; simp at ho
      ·intro vs w' hb hR
       have hv : vs 6 = .bool (decide (ix < 0)) := hR 6 (by simp)
       simp only [putAll, Act.put, List.setIfInBounds_toArray, List.set_cons_succ, List.set_cons_zero]
       rw [hv]
       have HB6 := Lib.hid (HB7.out.trans (hb.mono HB7.out.size))
       clear hR hb hv y0
       by_cases hneg : ix < 0
       ·have HE4 : Hid (E = 6) := Lib.hid (by
         rw [HE3.out]
         have : (lb.all fun i => decide (0 ≤ idxF i 0 cs)) = false := List.all_eq_false.2 ⟨y, HMY.out, by rw [HIX.out]; simp; omega⟩
         rw [this]; rfl)
        go_wp2_with fail
        go_returns
        exact ⟨ret_intk HE4.out.symm, HB5.out.trans (HB6.out.mono HB5.out.size)⟩
       ·have HT : Hid (((lb.take (j + 1)).all fun i => decide (0 ≤ idxF i 0 cs)) = true) := Lib.hid (by
         rw [HTK.out, List.all_append, HALL.out]
         simp [HIX.out]
         omega)
        go_wp2_with fail
        go_roundw
        case rel => exact ⟨j + 1, by go_num, by omega, HT.out, HB6.out⟩
        case measure => simp [intOf]; omega
     ·obtain rfl : j = nn := by omega
      have hall := HALL.out
      rw [List.take_of_length_le (by have := HNN.out; omega)] at hall
      have HE4 : Hid (E = if (la.any fun i => decide (i ∈ lb)) = true then 7 else 0) := Lib.hid (by rw [HE3.out, hall]; rfl)
      clear hall HALL HE3
      go_wp2_with fail
      go_loopw [12] (fun i w3 => ∃ t : Nat, i = .int .i64 (t : Int) ∧ t ≤ k ∧ ((la.take t).any fun i => decide (i ∈ lb)) = false ∧ Below w5.heap.size w5 w3) (fun i _ => k - (intOf i).toNat)
      case atStart => exact ⟨0, rfl, Nat.zero_le _, by simp, HB7.out⟩
      case round =>
       obtain ⟨t, rfl, ht, hany, hb⟩ := hrel
       have HANY := Lib.hid hany
       have HB8 := Lib.hid hb
       clear hany hb
       by_cases hlt3 : t < k
       ·obtain ⟨q, rfl, _, hql, hqc⟩ := row_block (ownsRow_below HAO5.out HB8.out) (by omega)
        obtain ⟨y, hy⟩ : ∃ y, la[t]? = some y := ⟨_, List.getElem?_eq_getElem (by have := HAN.out; omega)⟩
        have y0 := hqc t (.int .i64 y) (by rw [List.getElem?_map, hy]; rfl)
        have g0 : (0 : Int) ≤ (t : Int) := by omega
        have g1 : (t : Int) < (k : Int) := by omega
        have HTK := Lib.hid (take_snoc hy)
        have HMY := Lib.hid (List.mem_of_getElem? hy)
        have hh := has20_any lb j na nc y wr _ (ownsRow_below HNO.out HB8.out) (by omega)
        obtain ⟨r, hr⟩ : ∃ r, decide (y ∈ lb) = r := ⟨_, rfl⟩
        rw [hr] at hh
        have HH := Lib.hid hh
        have HRR := Lib.hid hr
        clear hqc hy hh hr
        go_wp2_with fail
        refine HH.out.mono ?_
        rintro e w9 ⟨rfl, hb9⟩
        have HB9 := Lib.hid (HB8.out.trans (hb9.mono HB8.out.size))
        clear hb9
        cases r
        ·have HT : Hid (((la.take (t + 1)).any fun i => decide (i ∈ lb)) = false) := Lib.hid (by
          rw [HTK.out, List.any_append, HANY.out]
          simp [of_decide_eq_false HRR.out])
         go_wp2_with fail
         go_roundw
         case rel => exact ⟨t + 1, by go_num, by omega, HT.out, HB9.out⟩
         case measure => simp [intOf]; omega
        ·have HE5 : Hid (E = 7) := Lib.hid (by
          rw [HE4.out]
          have : (la.any fun i => decide (i ∈ lb)) = true := List.any_eq_true.2 ⟨y, HMY.out, HRR.out⟩
          rw [this]; rfl)
         go_wp2_with fail
         go_returns
         exact ⟨ret_intk HE5.out.symm, HB5.out.trans (HB9.out.mono HB5.out.size)⟩
       ·obtain rfl : t = k := by omega
        have hany := HANY.out
        rw [List.take_of_length_le (by have := HAN.out; omega)] at hany
        have HE5 : Hid (E = 0) := Lib.hid (by rw [HE4.out, hany]; rfl)
        clear hany
        go_wp2_with fail
        go_returns
        exact ⟨ret_intk HE5.out.symm, HB5.out.trans (HB8.out.mono HB5.out.size)⟩
 ·have HE3 : Hid (E = ce) := Lib.hid (by rw [HE.out, if_pos h0])
  have hcc : (ce != 0) = true := by simp [h0]
  clear h0
  go_wp2_with fail
  go_returns
  exact ⟨ret_intk HE3.out.symm, HB1.out⟩
end Go.Proofs.YtgebbmfoamkfnaaGreatDoor
namespace Go.Proofs.YtgebbmfoamkfnaaGreatDoor
open Go.RowKit
set_option linter.unusedVariables false
def dg0 (u : Nat) : List UInt8 := if u = 0 then [] else Lib.decDigits u
theorem dg0_step (u : Nat) (h : u ≠ 0) : dg0 u = dg0 (u / 10) ++ [UInt8.ofNat (48 + u % 10)] := by
 unfold dg0
 rw [if_neg h]
 by_cases h10 : u < 10
 ·rw [if_pos (by omega), Lib.decDigits_one h10]
  simp [Nat.mod_eq_of_lt h10]
 ·rw [if_neg (by omega), Lib.decDigits, dif_neg h10]
theorem dig_step (u : Nat) : Lib.decDigits u = dg0 (u / 10) ++ [UInt8.ofNat (48 + u % 10)] := by
 by_cases h : u = 0
 ·subst h; rw [Lib.decDigits_one (by omega)]; rfl
 ·rw [← dg0_step u h]; unfold dg0; rw [if_neg h]
theorem cv_one (w : World) (x : Int) : Sem.run Tryz.prog (convert 156 9 (.slice (some ⟨w.heap.size, 0, none⟩) 1 1)) (w.alloc (.cells #[.int .u8 x] 5)) = .ok (.string ⟨[UInt8.ofNat x.toNat].toArray⟩) (w.alloc (.cells #[.int .u8 x] 5)) := by
 rw [run_convert_bytes_string (e := 5) _ _ _ _ _ _ Tryz.underlying156 Tryz.underlying5 Tryz.underlying9]
 have h := run_loadCells_list (P := Tryz.prog) (w := w.alloc (.cells #[.int .u8 x] 5)) ⟨w.heap.size, 0, none⟩ [.int .u8 x] (World.news_of_block (cs := #[.int .u8 x]) (t := 5) (fr := (0, 0)) (heap_alloc_new w _))
 exact (run_bytesToString _ _ 1 1 [x] h).trans rfl
def mz : Value → Nat
 | .string b => if b.data.size = 0 then 1 else 0
 | _ => 0
theorem mz_cons (b : UInt8) (l : List UInt8) : mz (.string ⟨(b :: l).toArray⟩) = 0 := by simp [mz]
theorem mz_nil : mz (.string ⟨([] : List UInt8).toArray⟩) = 1 := rfl
theorem sapp (q : Nat) (l : List UInt8) : (⟨#[48 + UInt8.ofNat q]⟩ ++ ⟨l.toArray⟩ : ByteArray) = ⟨(UInt8.ofNat (48 + q) :: l).toArray⟩ := by
 apply ByteArray.ext
 simp [UInt8.ofNat_add]
theorem sapp0 (l : List UInt8) : (⟨#[48]⟩ ++ ⟨l.toArray⟩ : ByteArray) = ⟨(UInt8.ofNat (48 + 0) :: l).toArray⟩ := by
 apply ByteArray.ext
 simp
theorem sapp1 (l : List UInt8) : (⟨#[45]⟩ ++ ⟨l.toArray⟩ : ByteArray) = ⟨(45 :: l).toArray⟩ := by
 apply ByteArray.ext
 simp
def DInv (n m : Int) (l : List UInt8) : Prop := (l = [] ∧ m = n) ∨ (l ≠ [] ∧ Lib.decDigits n.natAbs = dg0 m.natAbs ++ l)
theorem DInv.step {n m : Int} {l : List UInt8} (h : DInv n m l) (hne : l = [] ∨ m ≠ 0) {m2 : Int} (h2 : m2.natAbs = m.natAbs / 10) : DInv n m2 (UInt8.ofNat (48 + m.natAbs % 10) :: l) := by
 refine .inr ⟨by simp, ?_⟩
 rw [h2]
 rcases h with ⟨rfl, rfl⟩ | ⟨hl, hd⟩
 ·exact dig_step _
 ·have hm : m.natAbs ≠ 0 := by rcases hne with h | h; exact absurd h hl; omega
  rw [hd, dg0_step _ hm]
  simp
theorem DInv.len {n m : Int} {l : List UInt8} (h : DInv n m l) (hn : I64 n) : l.length ≤ 20 := by
 rcases h with ⟨rfl, _⟩ | ⟨_, hd⟩
 ·simp
 ·have h1 := congrArg List.length hd
  rw [Lib.decDigits_length, List.length_append] at h1
  have h2 := Lib.nDigits_le20 n.natAbs (by unfold I64 at hn; omega)
  omega
set_option maxRecDepth 100000 in
set_option maxHeartbeats 1000000 in
theorem digits_any (n : Int) (w : World) (hn : I64 n) : Calls Tryz.prog 42 #[.int .i64 n] w fun e w' => e = .returned (.string ⟨(Lib.itoa n).toArray⟩) ∧ Below w.heap.size w w' := by
 have HN := Lib.hid hn
 obtain ⟨h0, h1⟩ := hn
 go_enter Tryz.func42, Tryz.ntmps42
 go_wp2_with fail
 go_loopw [0, 3] (fun v s wr => ∃ (m : Int) (l : List UInt8), v = .int .i64 m ∧ s = .string ⟨l.toArray⟩ ∧ I64 m ∧ DInv n m l ∧ Below w.heap.size w wr) (fun v s _ => mz s + (intOf v).natAbs)
 case atStart => exact ⟨n, [], rfl, rfl, ⟨h0, h1⟩, .inl ⟨rfl, rfl⟩, Below.refl _ _⟩
 case round =>
  obtain ⟨m, l, rfl, rfl, ⟨hm0, hm1⟩, hml, hbw⟩ := hrel
  have hz := hbw.size
  have hl20 := hml.len HN.out
  have HB := Lib.hid hbw
  have HI := Lib.hid hml
  have hcv := fun x => cv_one wr x
  clear hml hbw
  by_cases hgo : l = [] ∨ m ≠ 0
  ·have hbu : Below w.heap.size w (wr.alloc (.cells #[.int .u8 (48 + (m.natAbs % 10 : Nat) : Int)] 5)) := HB.out.alloc hz _
   have HBU := Lib.hid hbu
   clear hbu
   have st : ∀ m2 : Int, m2.natAbs = m.natAbs / 10 → DInv n m2 (UInt8.ofNat (48 + m.natAbs % 10) :: l) := fun m2 h2 => HI.out.step hgo h2
   have HST := Lib.hid st
   have hdec : (m = 0 → mz (.string ⟨l.toArray⟩) = 1) ∧ (m ≠ 0 → m.natAbs / 10 < m.natAbs) := ⟨fun h => by
    rcases hgo with rfl | h'
    ·rfl
    ·exact absurd h h', fun h => by omega⟩
   have HDEC := Lib.hid hdec
   have hq : (m.natAbs % 10 : Nat) < 10 := by omega
   clear st hdec
   rcases (by omega : m < 0 ∨ 0 ≤ m) with hs | hs
   ·have t1 : m.tmod 10 = -((m.natAbs % 10 : Nat) : Int) := by
     rw [show m = -(m.natAbs : Int) by omega, Int.neg_tmod, Int.tmod_eq_emod_of_nonneg (by omega)]; omega
    have t2 : m.tdiv 10 = -((m.natAbs / 10 : Nat) : Int) := by
     rw [show m = -(m.natAbs : Int) by omega, Int.neg_tdiv, Int.tdiv_eq_ediv_of_nonneg (by omega)]; omega
    generalize hQ : m.natAbs % 10 = q at *
    generalize hP : m.natAbs / 10 = p at *
    have hp : (p : Int) ≤ 922337203685477581 := by omega
    have HQ := Lib.hid hQ
    have HP := Lib.hid hP
    clear hQ hP
    rcases (by omega : q = 0 ∨ 1 ≤ q) with rfl | hq1
    ·replace t1 : m.tmod 10 = 0 := by simpa using t1
     by_cases hl : l = []
     ·subst hl
      clear hgo
      go_wp2_with fail
      go_roundw
      case rel =>
       refine ⟨_, UInt8.ofNat (48 + 0) :: [], rfl, congrArg Value.string (sapp0 []), ?_, HST.out _ ?_, by simpa using HBU.out⟩
       ·constructor <;> omega
       ·omega
      case measure =>
       rw [show (⟨#[48]⟩ ++ ⟨([] : List UInt8).toArray⟩ : ByteArray) = (⟨(UInt8.ofNat (48 + 0) :: []).toArray⟩ : ByteArray) from (sapp0 []), mz_cons]
       have h1 := HDEC.out.1
       have h2 := HDEC.out.2
       simp only [intOf]
       rw [mz_nil]; omega
     ·have hm : m ≠ 0 := by rcases hgo with h | h; exact absurd h hl; exact h
      have e1 : l.isEmpty = false := by cases l <;> simp_all
      have e2 : (m != 0) = true := by simp [hm]
      have HM := Lib.hid hm
      clear hgo hl hm
      go_wp2_with fail
      go_roundw
      case rel =>
       refine ⟨_, UInt8.ofNat (48 + 0) :: l, rfl, congrArg Value.string (sapp0 l), ?_, HST.out _ ?_, by simpa using HBU.out⟩
       ·constructor <;> omega
       ·omega
      case measure =>
       rw [show (⟨#[48]⟩ ++ ⟨(l : List UInt8).toArray⟩ : ByteArray) = (⟨(UInt8.ofNat (48 + 0) :: l).toArray⟩ : ByteArray) from (sapp0 l), mz_cons]
       have h1 := HDEC.out.1
       have h2 := HDEC.out.2
       simp only [intOf]
       have h3 := h2 HM.out; omega
    ·by_cases hl : l = []
     ·subst hl
      clear hgo
      go_wp2_with fail
      go_roundw
      case rel =>
       refine ⟨_, UInt8.ofNat (48 + q) :: [], rfl, congrArg Value.string (sapp q []), ?_, HST.out _ ?_, by simpa using HBU.out⟩
       ·constructor <;> omega
       ·omega
      case measure =>
       rw [show (⟨#[48 + UInt8.ofNat q]⟩ ++ ⟨([] : List UInt8).toArray⟩ : ByteArray) = (⟨(UInt8.ofNat (48 + q) :: []).toArray⟩ : ByteArray) from (sapp q []), mz_cons]
       have h1 := HDEC.out.1
       have h2 := HDEC.out.2
       simp only [intOf]
       rw [mz_nil]; omega
     ·have hm : m ≠ 0 := by rcases hgo with h | h; exact absurd h hl; exact h
      have e1 : l.isEmpty = false := by cases l <;> simp_all
      have e2 : (m != 0) = true := by simp [hm]
      have HM := Lib.hid hm
      clear hgo hl hm
      go_wp2_with fail
      go_roundw
      case rel =>
       refine ⟨_, UInt8.ofNat (48 + q) :: l, rfl, congrArg Value.string (sapp q l), ?_, HST.out _ ?_, by simpa using HBU.out⟩
       ·constructor <;> omega
       ·omega
      case measure =>
       rw [show (⟨#[48 + UInt8.ofNat q]⟩ ++ ⟨(l : List UInt8).toArray⟩ : ByteArray) = (⟨(UInt8.ofNat (48 + q) :: l).toArray⟩ : ByteArray) from (sapp q l), mz_cons]
       have h1 := HDEC.out.1
       have h2 := HDEC.out.2
       simp only [intOf]
       have h3 := h2 HM.out; omega
   ·have t1 : m % 10 = ((m.natAbs % 10 : Nat) : Int) := by omega
    have t2 : m / 10 = ((m.natAbs / 10 : Nat) : Int) := by omega
    generalize hQ : m.natAbs % 10 = q at *
    generalize hP : m.natAbs / 10 = p at *
    have hp : (p : Int) ≤ 922337203685477581 := by omega
    have HQ := Lib.hid hQ
    have HP := Lib.hid hP
    clear hQ hP
    by_cases hl : l = []
    ·subst hl
     clear hgo
     go_wp2_with fail
     go_roundw
     case rel =>
      refine ⟨_, UInt8.ofNat (48 + q) :: [], rfl, congrArg Value.string (sapp q []), ?_, HST.out _ ?_, by simpa using HBU.out⟩
      ·constructor <;> omega
      ·omega
     case measure =>
      rw [show (⟨#[48 + UInt8.ofNat q]⟩ ++ ⟨([] : List UInt8).toArray⟩ : ByteArray) = (⟨(UInt8.ofNat (48 + q) :: []).toArray⟩ : ByteArray) from (sapp q []), mz_cons]
      have h1 := HDEC.out.1
      have h2 := HDEC.out.2
      simp only [intOf]
      rw [mz_nil]; omega
    ·have hm : m ≠ 0 := by rcases hgo with h | h; exact absurd h hl; exact h
     have e1 : l.isEmpty = false := by cases l <;> simp_all
     have e2 : (m != 0) = true := by simp [hm]
     have HM := Lib.hid hm
     clear hgo hl hm
     go_wp2_with fail
     go_roundw
     case rel =>
      refine ⟨_, UInt8.ofNat (48 + q) :: l, rfl, congrArg Value.string (sapp q l), ?_, HST.out _ ?_, by simpa using HBU.out⟩
      ·constructor <;> omega
      ·omega
     case measure =>
      rw [show (⟨#[48 + UInt8.ofNat q]⟩ ++ ⟨(l : List UInt8).toArray⟩ : ByteArray) = (⟨(UInt8.ofNat (48 + q) :: l).toArray⟩ : ByteArray) from (sapp q l), mz_cons]
      have h1 := HDEC.out.1
      have h2 := HDEC.out.2
      simp only [intOf]
      have h3 := h2 HM.out; omega
  ·have hl : l ≠ [] := fun h => hgo (.inl h)
   obtain rfl : m = 0 := by
    rcases (by omega : m = 0 ∨ m ≠ 0) with h | h
    ·exact h
    ·exact absurd (.inr h) hgo
   have e1 : l.isEmpty = false := by cases l <;> simp_all
   have hd : Lib.decDigits n.natAbs = l := by
    rcases HI.out with ⟨h, _⟩ | ⟨_, h⟩
    ·exact absurd h hl
    ·simpa [dg0] using h
   have hi : (n < 0 → Lib.itoa n = 45 :: l) ∧ (0 ≤ n → Lib.itoa n = l) := by
    unfold Lib.itoa
    refine ⟨fun h => by rw [if_pos h, hd], fun h => by rw [if_neg (by omega), ← hd]; congr 1; omega⟩
   have HIT := Lib.hid hi
   clear hgo hl hd hi
   rcases (by omega : n < 0 ∨ 0 ≤ n) with hs | hs
   ·go_wp2_with fail
    go_ret
    exact ⟨by rw [HIT.out.1 hs, ← sapp1]; rfl, HB.out⟩
   ·go_wp2_with fail
    go_ret
    exact ⟨by rw [HIT.out.2 hs]; rfl, HB.out⟩
end Go.Proofs.YtgebbmfoamkfnaaGreatDoor
