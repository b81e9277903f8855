/- Contract of layout.Unpack: the way back of a row that layout.Pack made. · The law's awake: answers that the document fixes by number. · Values of a table's rows; table.Get where there is something. · Parts that are owned; table.Parts. · table.Set. -/
import Derived.Test.YtgebbmfoamkfnaaGreatDoorT22
import Derived.Test.YtgebbmfoamkfnaaGreatDoorT13
import Derived.Test.YtgebbmfoamkfnaaGreatDoorT17
namespace Go.Proofs.YtgebbmfoamkfnaaGreatDoor
open Go.RowKit
set_option linter.unusedVariables false
theorem Tryz.info87 : (Tryz.prog.info? 87).map (fun i => (i.zero, i.size, i.bytes)) = some (some (.agg #[.bool false, .int .u64 0, .int .u64 0]), 3, 24) := by kernel_rfl
def intL (x : WI) : List Value := [.bool x.neg, .int .u64 x.hi, .int .u64 x.lo]
theorem intL_at : ∀ (l : List WI) (i : Nat) (x : WI), l[i]? = some x → (l.flatMap intL)[i * 3]? = some (.bool x.neg) ∧ (l.flatMap intL)[i * 3 + 1]? = some (.int .u64 x.hi) ∧ (l.flatMap intL)[i * 3 + 2]? = some (.int .u64 x.lo)
 | [], _, _, h => by simp at h
 | y :: r, 0, x, h => by
  simp at h
  subst h
  exact ⟨rfl, rfl, rfl⟩
 | y :: r, i + 1, x, h => by
  obtain ⟨h1, h2, h3⟩ := intL_at r i x (by simpa using h)
  rw [show (i + 1) * 3 = i * 3 + 3 by omega]
  exact ⟨h1, h2, h3⟩
theorem own_ints {B : Nat} {w : World} {va : Option Addr} {n vc : Nat} {xs : List WI} (h : w.ownsRow B 87 3 (.slice va n vc) n (xs.flatMap intL)) (hn : xs.length = n) (hw : ∀ x ∈ xs, x.wf) : IntsAt w.heap.size w va n vc xs := by
 refine ⟨hn, ?_⟩
 rcases h.2 with ⟨he, rfl⟩ | ⟨g, cap, cur, he, hg, hc, h1, h2, h3, h4⟩
 ·cases he
  exact ⟨Nat.le_refl _, Nat.zero_le _, hw, .inl rfl⟩
 ·cases he
  refine ⟨h1, h2, hw, .inr ⟨g, 0, rfl, lt_some hc, fun i x hx => ?_⟩⟩
  obtain ⟨q0, q1, q2⟩ := intL_at xs i x hx
  have hat : ∀ (j : Nat) (u : Value), (xs.flatMap intL)[j]? = some u → w.cell? ⟨g, j, none⟩ = some u := by
   intro j u hu
   rw [cell_at hc]
   rw [← h4, List.getElem?_take] at hu
   split at hu
   ·simpa using hu
   ·cases hu
  refine ⟨?_, ?_, ?_⟩
  ·rw [Nat.zero_add]; exact hat _ _ q0
  ·rw [Nat.zero_add]; exact hat _ _ q1
  ·rw [Nat.zero_add]; exact hat _ _ q2
theorem take_flat {xs : List WI} {m : Nat} {x : WI} (h : xs[m]? = some x) : (xs.take (m + 1)).flatMap intL = (xs.take m).flatMap intL ++ intL x := by rw [take_snoc h, List.flatMap_append]; simp
theorem own_keep {w w' : World} {b : Nat} {e e' : TypeId} {s : Nat} {v : Value} {n : Nat} {xs : List Value} (h : w.ownsRow b e s v n xs) (hg : w.grownBy w' v.ownBlock) {g : Nat} {cs : Array Value} {fz : Nat × Nat} (hc : w.heap[g]? = some (.cells cs e' fz)) (hne : e' ≠ e) : w'.heap[g]? = some (.cells cs e' fz) :=
 keepG hg hc (ownsRow_ne_block h hc (fun cur he => by cases he; exact hne rfl))
theorem below_own {B : Nat} {w w' : World} {e : TypeId} {s : Nat} {v : Value} {n : Nat} {xs : List Value} (h : w.ownsRow B e s v n xs) (hg : w.grownBy w' v.ownBlock) (hB : B ≤ w.heap.size) : Below B w w' :=
 (Below.refl B w).grown hg hB (fun x hx => by
  rcases h.2 with ⟨rfl, _⟩ | ⟨g, cap, cur, rfl, hbg, _⟩
  ·simp [Value.ownBlock] at hx
  ·simp [Value.ownBlock] at hx; omega)
set_option maxRecDepth 100000 in
set_option maxHeartbeats 2000000 in
theorem unpack_ok (fs : List Fld) (a : Option Addr) (len cap : Nat) (val : List WI) (w : World) (hfs : FieldsAt w.heap.size w a len fs) (hc : len ≤ cap) (hwf : ∀ x ∈ val, x.wf) (hfit : fitF fs val = 0) :
  Calls Tryz.prog 164 #[.slice a len cap, .string ⟨(packF fs val).toArray⟩] w fun e w' => ∃ va vc, e = .returned (.tuple #[.slice va val.length vc, .int .i64 0]) ∧ w'.ownsRow w.heap.size 87 3 (.slice va val.length vc) val.length (val.flatMap intL) ∧ Below w.heap.size w w' := by
 have hmx : len ≤ maxLen := hfs.2.1
 have hlen := hfs.1
 obtain ⟨hl, hcn, hgo⟩ := fit_zero hfit
 obtain ⟨h8, hall, h256⟩ := layCheck_zero hl
 have hcl := cnt_le fs hall
 obtain ⟨i0, hi, hz0, hz1, hz2⟩ := info_parts Tryz.info87
 obtain ⟨s, hs⟩ : ∃ s, s = (⟨(packF fs val).toArray⟩ : ByteArray) := ⟨_, rfl⟩
 rw [← hs]
 obtain ⟨p0, p1, p2, p3⟩ := plan_bd h8 hall
 obtain ⟨u1, u2, u3⟩ := upF_eq p0 (by omega) p2 p3
 obtain ⟨N, hN⟩ : ∃ N : Nat, planSize fs = N := ⟨(planSize fs).toNat, by unfold planSize; omega⟩
 have hN1 : N ≤ 1000 := by unfold planSize at hN; omega
 have hss : s.size = N := by
  rw [hs]; show (packF fs val).toArray.size = N
  rw [List.size_toArray, packF_len hl (by omega), hN]; rfl
 unfold maxLen at hmx
 have HFS := Lib.hid hfs
 have HLN := Lib.hid hlen
 have HLC := Lib.hid hl
 have HCN := Lib.hid hcn
 have HFIT := Lib.hid hfit
 have HS := Lib.hid hs
 have HSS := Lib.hid hss
 have HN := Lib.hid hN
 have HA := Lib.hid hall
 have HWF := Lib.hid hwf
 clear hfs hlen hl hcn hfit hs hss hN hall hgo hwf p0 p1 p2 p3 u1 u2 u3
 go_enter Tryz.func164, Tryz.ntmps164
 go_wp2_with fail
 refine (layOf_any fs _ _ _ _ HFS.out).mono ?_
 rintro e w1 ⟨pa, pn, pc, rfl, hb1, hown⟩
 obtain ⟨hpr, hpn⟩ := hown HLC.out
 have hpn' : pn = len := by rw [hpn]; exact HLN.out
 subst hpn'
 rw [HLC.out, show layPlanOf fs = (N : Int) from by unfold layPlanOf; rw [if_pos HLC.out]; exact HN.out]
 have e1 : ((s.size : Int) != (N : Int)) = false := by rw [HSS.out]; simp
 have HP := Lib.hid (heap_alloc_new w1 (.cells #[.int .i64 N, .slice pa pn pc] 217))
 have HBW := Lib.hid ((hb1.alloc hb1.size (.cells #[.int .i64 N, .slice pa pn pc] 217)))
 have HR := Lib.hid (hpr.alloc (.cells #[.int .i64 N, .slice pa pn pc] 217))
 have HZ := Lib.hid (World.size_alloc w1 (.cells #[.int .i64 N, .slice pa pn pc] 217))
 have hsz1 := hb1.size
 clear hown hpr hpn hb1
 go_wp2_with fail
 generalize w1.alloc (.cells #[.int .i64 N, .slice pa pn pc] 217) = W at *
 generalize w1.heap.size = PB at *
 go_loopw [8, 33] (fun v j wr => ∃ k : Nat, k ≤ pn ∧ j = .int .i64 (k : Int) ∧ ∃ va n vc, v = .slice va n vc ∧ n = cnt (fs.take k) ∧ wr.ownsRow W.heap.size 87 3 v n ((val.take n).flatMap intL) ∧ Below W.heap.size W wr) (fun _ j _ => pn - (intOf j).toNat)
 case atStart => exact ⟨0, by omega, rfl, none, 0, 0, rfl, by simp [cnt], ⟨by simp, .inl ⟨rfl, rfl⟩⟩, Below.refl _ _⟩
 case round =>
  obtain ⟨k, hk, rfl, va, n, vc, rfl, hn, hown, hbr⟩ := hrel
  by_cases hlt : k < pn
  ·obtain ⟨b, off, f, rfl, hB, hf, c0, c1, c2'⟩ := HFS.out.get (HBW.out.trans (hbr.mono HBW.out.size)) hlt
   have hfo : fldOk f = true := by have h := HA.out; rw [List.all_eq_true] at h; exact h f (List.mem_of_getElem? hf)
   obtain ⟨ks1, ks2, f1, f2⟩ := fldOk_bd hfo
   obtain ⟨c, hc'⟩ : ∃ c : Nat, f.count = c := ⟨f.count.toNat, by omega⟩
   obtain ⟨cz, hcz⟩ : ∃ cz : Nat, kSize f.kind = cz := ⟨(kSize f.kind).toNat, by omega⟩
   have hct := cnt_take_succ hf
   have hcl2 := cnt_take_le (fs := fs) (k + 1)
   rw [hc', Int.toNat_natCast] at hct
   obtain ⟨q0, q1, q2, q3⟩ := plan_bd (show (fs.take k).length ≤ 8 by rw [List.length_take]; omega) (all_take HA.out k)
   obtain ⟨u1, u2, u3⟩ := upF_eq q0 (by omega) ks1 ks2
   obtain ⟨A, hA⟩ : ∃ A : Nat, upF (planF (fs.take k)).2.1 (kSize f.kind) = A := ⟨(upF (planF (fs.take k)).2.1 (kSize f.kind)).toNat, by omega⟩
   have hat := plan_at hf
   rw [hA] at hat
   have hel : ∀ m x, m < c → val[cnt (fs.take k) + m]? = some x → s.extract (A + m * cz) (A + m * cz + cz) = ⟨(putB f.kind x).toArray⟩ ∧ A + m * cz + cz ≤ N := by
    intro m x hm hx
    have := elem_at HFIT.out hf hA (m := m) (by rw [hc']; simpa using hm) hx
    rw [hcz, Int.toNat_natCast] at this
    refine ⟨?_, ?_⟩
    ·rw [HS.out, bytes_extract, this.1]
    ·have h2 := this.2
     rw [← List.size_toArray] at h2
     have h3 := HSS.out
     rw [HS.out] at h3
     have h4 : (packF fs val).toArray.size = N := h3
     omega
   have hel2 : ∀ m x, m < c → val[cnt (fs.take k) + m]? = some x → fitsF f.kind x = true := by
    intro m x hm hx
    have h := fitGo_at fs val k f (fit_zero HFIT.out).2.2 hf
    rw [List.all_eq_true] at h
    refine h x (List.mem_of_getElem? (i := m) ?_)
    rw [List.getElem?_take, if_pos (by rw [hc']; simpa using hm), List.getElem?_drop]
    exact hx
   have hpb := keep hbr HP.out
   have hz := hbr.size
   have hzW := HZ.out
   obtain ⟨q, rfl, hq, hqc⟩ : ∃ q, pa = some ⟨q, 0, none⟩ ∧ q < W.heap.size ∧ W.cell? ⟨q, k, none⟩ = some (.int .i64 A) := by
    obtain ⟨q, rfl, _, hq, hqc⟩ := row_block HR.out (by omega)
    exact ⟨q, rfl, hq, hqc k _ (by simp [hat])⟩
   rw [hc'] at f1 f2 c2'
   have HF := Lib.hid hf
   have HCZ := Lib.hid hcz
   have HEL := Lib.hid hel
   have HEL2 := Lib.hid hel2
   have HOW := Lib.hid (hown.alloc (.cells #[.string f.name, .int .i64 f.kind, .int .i64 (c : Int)] 79))
   have HBR := Lib.hid (hbr.alloc hz (.cells #[.string f.name, .int .i64 f.kind, .int .i64 (c : Int)] 79))
   have HH := Lib.hid (heap_alloc_new wr (.cells #[.string f.name, .int .i64 f.kind, .int .i64 (c : Int)] 79))
   have HQC := Lib.hid hqc
   have HNN := Lib.hid hn
   have HCT := Lib.hid hct
   have i1 : (0 : Int) ≤ (k : Int) := by omega
   have i2 : (k : Int) < (pn : Int) := by omega
   have z3 : b < wr.heap.size := by have := HBW.out.size; omega
   have hcz8 : 1 ≤ cz ∧ cz ≤ 8 := by omega
   clear hfo hc' hcz hct hA hat hel hel2 hpb hown hbr hn q0 q1 q2 q3 u1 u2 u3 hf hqc
   go_wp2_with fail
   have hbf := HBR.out
   have hof := HOW.out
   have hhf := HH.out
   have hzf := World.size_alloc wr (.cells #[.string f.name, .int .i64 f.kind, .int .i64 (c : Int)] 79)
   generalize wr.alloc (.cells #[.string f.name, .int .i64 f.kind, .int .i64 (c : Int)] 79) = wf at *
   obtain ⟨H, hH⟩ : ∃ H, wr.heap.size = H := ⟨_, rfl⟩
   rw [hH] at hhf hzf ⊢
   have hHW : W.heap.size ≤ H := by omega
   clear hH c0 c1 c2' z3 hz
   refine (size_any _ _).mono ?_
   rintro e w2 ⟨rfl, hb2⟩
   rw [HCZ.out]
   have HH2 := Lib.hid (keep hb2 hhf)
   have HO2 := Lib.hid (ownsRow_below hof hb2)
   have HB2 := Lib.hid (hbf.trans (hb2.mono hbf.size))
   have h2 := cell_at HH2.out 2
   simp at h2
   have hH2 := lt_some HH2.out
   clear hbf hof hhf hzf hb2 HH HOW HBR
   go_wp2_with fail
   clear h2
   go_loopw [8, 43] (fun v j ws => ∃ m : Nat, m ≤ c ∧ j = .int .i64 (m : Int) ∧ ∃ va n' vc, v = .slice va n' vc ∧ n' = n + m ∧ ws.ownsRow W.heap.size 87 3 v n' ((val.take n').flatMap intL) ∧ ws.heap[H]? = some (.cells #[.string f.name, .int .i64 f.kind, .int .i64 (c : Int)] 79 (0, 0)) ∧ Below W.heap.size W ws) (fun _ j _ => c - (intOf j).toNat)
   case atStart => exact ⟨0, by omega, rfl, va, n, vc, rfl, by omega, HO2.out, HH2.out, HB2.out⟩
   case round =>
    obtain ⟨m, hm, rfl, va, n', vc, rfl, hn', hown, hblk, hbs⟩ := hrel
    have hbelW := HBW.out.trans (hbs.mono HBW.out.size)
    have HOWN := Lib.hid hown
    have HBLK := Lib.hid hblk
    have HBS := Lib.hid hbs
    have HN' := Lib.hid hn'
    have hHs := lt_some hblk
    have hzs := hbs.size
    have hzW := HZ.out
    have hnn : n' ≤ 80 := by have := HCT.out; have := HNN.out; have := HCN.out; have := HLN.out; omega
    have k1 := cell_at hblk 1
    have k2 := cell_at hblk 2
    simp at k1 k2
    clear hown hblk hbs hn' hbelW
    by_cases hlt2 : m < c
    ·obtain ⟨x, hx⟩ : ∃ x, val[n']? = some x := ⟨_, List.getElem?_eq_getElem (show n' < val.length by have := HCT.out; have := HNN.out; have := HCN.out; have := HN'.out; omega)⟩
     have hx' : val[cnt (fs.take k) + m]? = some x := by have := HN'.out; have := HNN.out; rw [show cnt (fs.take k) + m = n' by omega]; exact hx
     obtain ⟨hex, hle⟩ := HEL.out m x hlt2 hx'
     have hfx := HEL2.out m x hlt2 hx'
     have hxw := HWF.out x (List.mem_of_getElem? hx)
     have htk := take_flat hx
     obtain ⟨mc, hmc⟩ : ∃ mc : Nat, mc = m * cz := ⟨_, rfl⟩
     have hmc' : (m : Int) * (cz : Int) = (mc : Int) := by rw [hmc]; push_cast; rfl
     rw [← hmc] at hex hle
     obtain ⟨A2, hA2⟩ : ∃ A2 : Nat, A2 = A + mc := ⟨_, rfl⟩
     have hA2' : (A : Int) + (mc : Int) = (A2 : Int) := by omega
     rw [← hA2] at hex hle
     obtain ⟨A3, hA3⟩ : ∃ A3 : Nat, A3 = A2 + cz := ⟨_, rfl⟩
     have hA3' : (A2 : Int) + (cz : Int) = (A3 : Int) := by omega
     rw [← hA3] at hex hle
     have hpb := cell_at (keepB HBS.out HP.out (by omega)) 1
     simp at hpb
     have hqr := (HBS.out.cell (p := ⟨q, k, none⟩) hq).trans HQC.out
     have s0 : (0 : Int) ≤ (A2 : Int) := by omega
     have s1 : (A2 : Int) ≤ (A3 : Int) := by omega
     have s2 : (A3 : Int) ≤ (s.size : Int) := by have := HSS.out; omega
     have s3 : A2 ≤ A3 := by omega
     have hw3 : IntKind.i64.wrap ((A2 : Int) + (cz : Int)) = (A3 : Int) := by rw [hA3']; exact IntWalk.i64_in _ (by omega)
     have hw4 : IntKind.i64.wrap (A3 : Int) = (A3 : Int) := IntWalk.i64_in _ (by omega)
     have s4 : A3 ≤ s.size := by omega
     have z1 : q < wr.heap.size := by omega
     have z2 : PB < wr.heap.size := by omega
     have i3 : (0 : Int) ≤ (m : Int) := by omega
     have i4 : (m : Int) < (c : Int) := by omega
     have HX := Lib.hid hex
     have HFX := Lib.hid hfx
     have HXW := Lib.hid hxw
     have HTK := Lib.hid htk
     clear hx hx' hex hfx hxw htk hmc hA2 hA3
     obtain ⟨xn, xh, xl⟩ := x
     have HG : Hid (∀ W', Calls Tryz.prog 195 #[.int .i64 f.kind, .string (s.extract A2 A3)] W' fun e w' => e = .returned (.tuple #[.agg #[.bool xn, .int .u64 xh, .int .u64 xl], .int .i64 0]) ∧ Below W'.heap.size W' w') := Lib.hid (fun W' => by rw [HX.out]; exact get_any f.kind ⟨xn, xh, xl⟩ W' HXW.out HFX.out)
     go_upto_region 15 with (fail)
     go_cut [14, 15] from 44 to 73 (fun s14 s15 wx => ∃ xb, s14 = .pointer (some ⟨xb, 0, none⟩) ∧ s15 = .int .i64 0 ∧ wr.heap.size ≤ xb ∧ wx.heap[xb]? = some (.cells #[.bool xn, .int .u64 xh, .int .u64 xl] 87 (0, 0)) ∧ Below wr.heap.size wr wx)
     case first =>
      go_region_with (go_at_call 195; refine (HG.out _).mono ?_; rintro e wf ⟨rfl, hbf⟩; first | (have hz2 : wf.heap[wr.heap.size]? = some (.cells #[.bool false, .int .u64 0, .int .u64 0] 87 (0, 0)) := keep hbf (heap_alloc_new wr.drew (.cells #[.bool false, .int .u64 0, .int .u64 0] 87)); have q0 := cell_at hz2 0; have q1 := cell_at hz2 1; have q2 := cell_at hz2 2; have g0 := free_at hz2 0; have g1 := free_at hz2 1; have g2 := free_at hz2 2; simp at q0 q1 q2) | skip)
      all_goals go_wp2_with fail
      all_goals go_meet
      all_goals first
       | exact ⟨wf.heap.size, rfl, rfl, (undrew hbf).size, heap_alloc_new _ _, (undrew hbf).alloc (undrew hbf).size _⟩
       | exact ⟨wr.heap.size, rfl, rfl, Nat.le_refl _, (by rw [hset _ _ _ _ _ _ _ (hset _ _ _ _ _ _ _ (hset _ _ _ _ _ _ _ (show wf.heap[wr.heap.size]? = some (.cells #[.bool false, .int .u64 0, .int .u64 0] 87 (0, 0)) from hz2)))]; rfl),
         ((((((Below.refl wr.heap.size wr).alloc (Nat.le_refl _) (.cells #[.bool false, .int .u64 0, .int .u64 0] 87)).trans ((undrew hbf).mono (by simp))).setCell (Nat.le_refl _) _).setCell (Nat.le_refl _) _).setCell (Nat.le_refl _) _)⟩
     case rest =>
      obtain ⟨xb, rfl, rfl, hxb, hxc, hbc⟩ := hcut
      have hown2 := ownsRow_below HOWN.out hbc
      have hblk2 := keep hbc HBLK.out
      have n0 := cell_at hxc 0
      have n1 := cell_at hxc 1
      have n2 := cell_at hxc 2
      simp at n0 n1 n2
      have hB2 := HBS.out.trans (hbc.mono hzs)
      have hzc := hB2.size
      have HOWN3 := Lib.hid (hown2.alloc (.cells #[.bool xn, .int .u64 xh, .int .u64 xl] 87))
      have HBLK3 := Lib.hid (keepA (.cells #[.bool xn, .int .u64 xh, .int .u64 xl] 87) hblk2)
      have HB3 := Lib.hid (hB2.alloc hzc (.cells #[.bool xn, .int .u64 xh, .int .u64 xl] 87))
      have HN1 := Lib.hid (And.intro (World.news_of_block (heap_alloc_new wc (.cells #[.bool xn, .int .u64 xh, .int .u64 xl] 87))) (show ∀ v ∈ (#[.bool xn, .int .u64 xh, .int .u64 xl] : Array Value).toList, v.oneCell' = true from List.all_eq_true.1 rfl))
      have hxl := lt_some hxc
      clear hown2 hblk2 hxc hbc hB2 k1 k2
      go_wp2_with (at_builtin; go_loud (refine wpList_append_own _ rfl (.tmp 69) (.tmp 71) 83 rfl W.heap.size 87 i0 (.agg #[.bool false, .int .u64 0, .int .u64 0]) 3 24 Tryz.underlying83 hi hz0 hz1 hz2 rfl (by decide) (.slice va n' vc) n' ((val.take n').flatMap intL) rfl HOWN3.out ⟨wc.heap.size, 0, none⟩ 1 1 (#[.bool xn, .int .u64 xh, .int .u64 xl] : Array Value).toList rfl rfl HN1.out.1 HN1.out.2 (by unfold maxLen; omega) (by omega) (by simp; omega) ?_))
      intro v' w4 hown4 hg4 _
      obtain ⟨vb', vd', hv'⟩ := ownsRow_slice hown4
      rw [hv'] at hown4 ⊢
      clear hv'
      have HOWN4 := Lib.hid hown4
      have HBLK4 := Lib.hid (own_keep HOWN3.out hg4 HBLK3.out (by decide))
      have HB4 := Lib.hid (HB3.out.trans (below_own HOWN3.out hg4 (by simp; omega)))
      clear hown4 hg4 n0 n1 n2 HOWN HOWN3 HBLK HBLK3
      go_wp2_with fail
      go_roundw
      case rel =>
       refine ⟨m + 1, by omega, by go_num, vb', n' + 1, vd', rfl, by have := HN'.out; omega, ?_, HBLK4.out, HB4.out⟩
       have h4 := HOWN4.out
       rw [← HZ.out] at h4
       rw [HTK.out]
       exact h4
      case measure => simp [intOf]; omega
    ·obtain rfl : m = c := by omega
     go_wp2_with fail
     go_roundw
     case rel => exact ⟨k + 1, by omega, by go_num, va, n', vc, rfl, by have := HCT.out; have := HNN.out; have := HN'.out; omega, HOWN.out, HBS.out⟩
     case measure => simp [intOf]; omega
  ·obtain rfl : k = pn := by omega
   rw [List.take_of_length_le (by have := HLN.out; omega)] at hn
   obtain rfl : n = val.length := by have := HCN.out; omega
   rw [List.take_length] at hown
   have hbw := HBW.out.trans (hbr.mono HBW.out.size)
   have hin := own_ints hown rfl HWF.out
   have HOWN := Lib.hid hown
   have HBB := Lib.hid hbw
   clear hown hbr hn
   go_wp2_with fail
   refine (pack_ok fs _ _ _ _ _ _ val wr ((HFS.out.below HBB.out).mono HBB.out.size) hc hin HFIT.out).mono ?_
   rintro e w5 ⟨rfl, hb5⟩
   rw [← HS.out]
   go_wp2_with fail
   go_ret2
   exact ⟨_, _, rfl, ownsRow_mono (ownsRow_below HOWN.out hb5) (by have := HBW.out.size; omega), HBB.out.trans (hb5.mono HBB.out.size)⟩
end Go.Proofs.YtgebbmfoamkfnaaGreatDoor
namespace Go.Proofs.YtgebbmfoamkfnaaGreatDoor
open Go.RowKit
set_option linter.unusedVariables false
def p16 (va : Option Addr) : List PW := [⟨1, va, 1, 1, [⟨false, 0, 7⟩]⟩]
def c16 : Cmp := ⟨1, ⟨#[97]⟩, [⟨⟨#[120]⟩, 6, 1⟩]⟩
theorem TabIn.not_foot {B : Nat} {w : World} {t : TD} (h : TabIn B w t) {b : Nat} {cs : Array Value} {ty : TypeId} {fr : Nat × Nat} (hb : w.heap[b]? = some (.cells cs ty fr)) (h1 : ty ≠ 178 ∧ ty ≠ 50 ∧ ty ≠ 223 ∧ ty ≠ 156 ∧ ty ≠ 5) : ¬ t.foot b := by
 obtain ⟨a1, a2, a3, a4, a5⟩ := h1
 rintro (rfl | hf | ⟨d, hd, hf⟩)
 ·rw [h.blk] at hb; cases hb; exact a1 rfl
 ·obtain ⟨cur, h2⟩ := row_type h.entsR hf
  rw [h2] at hb; cases hb; exact a2 rfl
 ·obtain ⟨cs', ty', fr', hh, ht⟩ := (h.colsA d hd).foot_ty hf
  rw [hh] at hb; cases hb
  rcases ht with rfl | rfl | rfl <;> contradiction
theorem parts16At {w : World} {pb ib : Nat} (hp : w.heap[pb]? = some (.cells #[.int .i64 1, .slice (some ⟨ib, 0, none⟩) 1 1] 85 (0, 0))) (hi : w.heap[ib]? = some (.cells #[.bool false, .int .u64 0, .int .u64 7] 87 (0, 0))) :
  PartsAt w.heap.size w (some ⟨pb, 0, none⟩) 1 1 (p16 (some ⟨ib, 0, none⟩)) := by
 refine ⟨rfl, Nat.le_refl _, by unfold maxLen; omega, fun p hpp => ?_, .inr ⟨pb, 0, rfl, lt_some hp, fun i p hpp => ?_⟩⟩
 ·simp only [p16, List.mem_cons, List.not_mem_nil, or_false] at hpp
  subst hpp
  refine ⟨rfl, Nat.le_refl _, by show 1 ≤ maxLen; unfold maxLen; omega, fun x hx => ?_, .inr ⟨ib, 0, rfl, lt_some hi, fun i x hx => ?_⟩⟩
  ·simp only [List.mem_cons, List.not_mem_nil, or_false] at hx
   subst hx
   exact wf_lo (by omega) (by omega)
  ·match i, hx with
   | 0, hx =>
    cases hx
    exact ⟨by rw [cell_at hi]; rfl, by rw [cell_at hi]; rfl, by rw [cell_at hi]; rfl⟩
   | n + 1, hx => simp at hx
 ·match i, hpp with
  | 0, hpp =>
   cases hpp
   exact ⟨by rw [cell_at hp]; rfl, by rw [cell_at hp]; rfl⟩
  | n + 1, hpp => simp [p16] at hpp
structure Aw (w0 : World) (B pb ib : Nat) (t : TD) (w : World) : Prop where
 tab : TabIn B w t
 hp : w.heap[pb]? = some (.cells #[.int .i64 1, .slice (some ⟨ib, 0, none⟩) 1 1] 85 (0, 0))
 hi : w.heap[ib]? = some (.cells #[.bool false, .int .u64 0, .int .u64 7] 87 (0, 0))
 bel : Below w0.heap.size w0 w
 hB : w0.heap.size ≤ B
 cs : t.cs = [c16]
 set : t.set = 2
 most : t.most = 2
theorem Aw.next {w0 w w' : World} {B pb ib : Nat} {t t' : TD} (h : Aw w0 B pb ib t w) (ho : Out t.foot w w') (ht : TabIn B w' t') (h1 : t'.cs = t.cs) (h2 : t'.set = t.set) (h3 : t'.most = t.most) : Aw w0 B pb ib t' w' :=
 ⟨ht, ho.keep h.hp (h.tab.not_foot h.hp (by decide)), ho.keep h.hi (h.tab.not_foot h.hi (by decide)), h.bel.trans (ho.below (fun b hb => Nat.le_trans h.hB (h.tab.foot_ge hb).1) h.bel.size), h.hB, h1.trans h.cs, h2.trans h.set, h3.trans h.most⟩
theorem Aw.below {w0 w w' : World} {B pb ib : Nat} {t : TD} (h : Aw w0 B pb ib t w) (hb : Below w.heap.size w w') : Aw w0 B pb ib t w' := h.next (Out.of hb) (h.tab.below hb) rfl rfl rfl
theorem Aw.parts {w0 w : World} {B pb ib : Nat} {t : TD} (h : Aw w0 B pb ib t w) : ∀ w', Out t.cfoot w w' → PartsAt w'.heap.size w' (some ⟨pb, 0, none⟩) 1 1 (p16 (some ⟨ib, 0, none⟩)) := by
 intro w' ho
 have ho' := ho.mono (G := t.foot) (fun x hx => .inl (TabIn.cfoot_foot hx))
 exact parts16At (ho'.keep h.hp (h.tab.not_foot h.hp (by decide))) (ho'.keep h.hi (h.tab.not_foot h.hi (by decide)))
theorem Aw.col {w0 w : World} {B pb ib : Nat} {t : TD} (h : Aw w0 B pb ib t w) : ∃ x d, t.cps = [x] ∧ x.c = c16 ∧ t.cols = [d] := by
 have hc := h.cs
 unfold TD.cs at hc
 have hl := congrArg List.length hc
 simp at hl
 obtain ⟨x, hx⟩ := List.length_eq_one_iff.1 hl
 have hl2 : t.cols.length = 1 := by rw [h.tab.len]; exact hl
 obtain ⟨d, hd⟩ := List.length_eq_one_iff.1 hl2
 rw [hx] at hc
 exact ⟨x, d, hx, by simpa using hc, hd⟩
end Go.Proofs.YtgebbmfoamkfnaaGreatDoor
namespace Go.Proofs.YtgebbmfoamkfnaaGreatDoor
open Go.RowKit
set_option linter.unusedVariables false
structure Vals (t : TD) (V : List (List (List WI))) : Prop where
 len : V.length = t.ents.length
 row : ∀ r ∈ V, r.length = t.cps.length
 at_ : ∀ (k i : Nat) (r : List (List WI)) (v : List WI) (x : CV) (d : CD), V[k]? = some r → r[i]? = some v → t.cps[i]? = some x → t.cols[i]? = some d → d.rows[k]? = some (packF x.c.fields v) ∧ fitF x.c.fields v = 0 ∧ ∀ y ∈ v, y.wf
theorem slice_le {w : World} {B : Nat} {e : TypeId} {s : Nat} {a : Option Addr} {n c : Nat} {xs : List Value} (h : w.ownsRow B e s (.slice a n c) n xs) : n ≤ c := by
 rcases h.2 with ⟨he, h0⟩ | ⟨g, cap, cur, he, _, _, h1, _⟩
 ·cases he; exact Nat.le_refl _
 ·cases he; exact h1
section
variable {B : Nat} {w : World} {t : TD}
set_option maxRecDepth 100000 in
theorem tabGet_ok (h : TabIn B w t) (k i : Nat) (x : CV) (d : CD) (v : List WI) (comp : Int) (hk : k < t.ents.length) (hc : colOf t.cps comp = some x) (hx : t.cps[i]? = some x) (hd : t.cols[i]? = some d) (hl : d.rows[k]? = some (packF x.c.fields v)) (hfit : fitF x.c.fields v = 0) (hwf : ∀ y ∈ v, y.wf) :
  Calls Tryz.prog 131 #[.pointer (some ⟨t.tb, 0, none⟩), .int .i64 (k : Int), .int .i64 comp] w fun e w' => ∃ va vc, e = .returned (.tuple #[.slice va v.length vc, .int .i64 0]) ∧ w'.ownsRow w.heap.size 87 3 (.slice va v.length vc) v.length (v.flatMap intL) ∧ Below w.heap.size w w' := by
 have hv : findVal t (k : Int) comp = .agg #[.int .i64 x.c.id, .string x.c.name, .slice x.fa x.fl x.fc, .pointer (some ⟨x.cb, 0, none⟩)] := by unfold findVal; rw [if_pos ⟨by omega, by omega⟩, hc]
 have he : findErr t (k : Int) comp = 0 := by unfold findErr; rw [if_pos ⟨by omega, by omega⟩, hc]; rfl
 have hf := tabFind_in h (k : Int) comp
 rw [hv, he] at hf
 obtain ⟨k1, _, _, _⟩ := h.col i x d hx hd
 have HF := Lib.hid hf
 have HG := Lib.hid (fun (W : World) (hW : ColAt B W d) => colGet_any B W d k _ hW hl)
 rw [k1] at HG
 have HC := Lib.hid (h.colsA d (List.mem_of_getElem? hd))
 have HFL := Lib.hid (h.fields x (List.mem_of_getElem? hx))
 have HFIT := Lib.hid hfit
 have HWF := Lib.hid hwf
 have HUN := Lib.hid (fun (W : World) (hW : CVF B W x) => unpack_ok x.c.fields x.fa x.fl x.fc v W (fieldsAt_row hW.row hW.len hW.max) (slice_le hW.row) hwf hfit)
 obtain ⟨s, hs⟩ : ∃ s, s = (⟨(packF x.c.fields v).toArray⟩ : ByteArray) := ⟨_, rfl⟩
 rw [← hs] at HG HUN
 clear h hv he hf hk hc hx hd hl k1 hs hfit hwf
 go_enter Tryz.func131, Tryz.ntmps131
 go_wp2_with fail
 refine HF.out.mono ?_
 rintro e w1 ⟨rfl, hb⟩
 have hz := hb.size
 have hb2 := hb.alloc hz (.cells #[.int .i64 x.c.id, .string x.c.name, .slice x.fa x.fl x.fc, .pointer (some ⟨x.cb, 0, none⟩)] 181)
 have HB2 := Lib.hid hb2
 have HC2 := Lib.hid (HC.out.out (F := fun _ => False) (Out.of hb2) (fun _ _ => id))
 have HFL2 := Lib.hid (HFL.out.below hb2)
 have HK2 := Lib.hid (heap_alloc_new w1 (.cells #[.int .i64 x.c.id, .string x.c.name, .slice x.fa x.fl x.fc, .pointer (some ⟨x.cb, 0, none⟩)] 181))
 clear hb hb2 HC HF HFL
 go_wp2_with fail
 refine (HG.out _ HC2.out).mono ?_
 rintro e w2 ⟨rfl, hb3⟩
 have hk3 := keep hb3 HK2.out
 have c2 := cell_at hk3 2
 simp at c2
 have hk3l := lt_some hk3
 have HB3 := Lib.hid (HB2.out.trans (hb3.mono HB2.out.size))
 have HFL3 := Lib.hid (HFL2.out.below hb3)
 clear hb3 hk3 HK2
 go_wp2_with fail
 refine (HUN.out _ HFL3.out).mono ?_
 rintro e w3 ⟨va, vc, rfl, hown, hb4⟩
 have HOWN := Lib.hid (ownsRow_mono hown HB3.out.size)
 have HB4 := Lib.hid (HB3.out.trans (hb4.mono HB3.out.size))
 clear hown hb4
 go_wp2_with fail
 go_ret2
 exact ⟨va, vc, rfl, HOWN.out, HB4.out⟩
end
end Go.Proofs.YtgebbmfoamkfnaaGreatDoor
namespace Go.Proofs.YtgebbmfoamkfnaaGreatDoor
open Go.RowKit
set_option linter.unusedVariables false
theorem Tryz.info85 : (Tryz.prog.info? 85).map (fun i => (i.zero, i.size, i.bytes)) = some (some (.agg #[.int .i64 0, .slice none 0 0]), 2, 32) := by kernel_rfl
def partL (p : PW) : List Value := [.int .i64 p.comp, .slice p.va p.vl p.vc]
theorem partL_at : ∀ (l : List PW) (i : Nat) (p : PW), l[i]? = some p → (l.flatMap partL)[i * 2]? = some (.int .i64 p.comp) ∧ (l.flatMap partL)[i * 2 + 1]? = some (.slice p.va p.vl p.vc)
 | [], _, _, h => by simp at h
 | y :: r, 0, x, h => by
  simp at h
  subst h
  exact ⟨rfl, rfl⟩
 | y :: r, i + 1, x, h => by
  obtain ⟨h1, h2⟩ := partL_at r i x (by simpa using h)
  rw [show (i + 1) * 2 = i * 2 + 2 by omega]
  exact ⟨h1, h2⟩
structure PO (B : Nat) (w : World) (a : Option Addr) (n c : Nat) (ps : List PW) : Prop where
 row : w.ownsRow B 85 2 (.slice a n c) n (ps.flatMap partL)
 vals : ∀ p ∈ ps, w.ownsRow B 87 3 (.slice p.va p.vl p.vc) p.vl (p.val.flatMap intL) ∧ p.val.length = p.vl ∧ ∀ y ∈ p.val, y.wf
 len : ps.length = n
def MutP (w : World) (b : Nat) : Prop := ∀ cs t fr, w.heap[b]? = some (.cells cs t fr) → t ≠ 85 ∧ t ≠ 87
theorem rowP {F : Nat → Prop} {w : World} {B s : Nat} {e : TypeId} {v : Value} {n : Nat} {xs : List Value} (h : w.ownsRow B e s v n xs) (he : e = 85 ∨ e = 87) (hM : ∀ b, F b → MutP w b) : ∀ x, v.ownBlock = some x → ¬ F x := by
 intro x hx hF
 obtain ⟨cur, hc⟩ := row_type h hx
 obtain ⟨h1, h2⟩ := hM x hF _ _ _ hc
 rcases he with rfl | rfl <;> contradiction
theorem PO.out {B : Nat} {w w' : World} {F : Nat → Prop} {a : Option Addr} {n c : Nat} {ps : List PW} (h : PO B w a n c ps) (ho : Out F w w') (hM : ∀ b, F b → MutP w b) : PO B w' a n c ps :=
 ⟨ownsRow_out h.row ho (rowP h.row (.inl rfl) hM), fun p hp => ⟨ownsRow_out (h.vals p hp).1 ho (rowP (h.vals p hp).1 (.inr rfl) hM), (h.vals p hp).2⟩, h.len⟩
theorem PO.below {B : Nat} {w w' : World} {a : Option Addr} {n c : Nat} {ps : List PW} (h : PO B w a n c ps) (hb : Below w.heap.size w w') : PO B w' a n c ps := h.out (F := fun _ => False) (Out.of hb) (fun _ => False.elim)
theorem PO.mono {B B' : Nat} {w : World} {a : Option Addr} {n c : Nat} {ps : List PW} (h : PO B w a n c ps) (hb : B' ≤ B) : PO B' w a n c ps := ⟨ownsRow_mono h.row hb, fun p hp => ⟨ownsRow_mono (h.vals p hp).1 hb, (h.vals p hp).2⟩, h.len⟩
theorem own_max {w : World} {B : Nat} {e : TypeId} {s : Nat} {a : Option Addr} {n c : Nat} {xs : List Value} (h : w.ownsRow B e s (.slice a n c) n xs) : n ≤ c ∧ c ≤ maxLen := by
 rcases h.2 with ⟨he, h0⟩ | ⟨g, cap, cur, he, _, _, h1, h2, _⟩
 ·cases he; exact ⟨Nat.le_refl _, Nat.zero_le _⟩
 ·cases he; exact ⟨h1, h2⟩
theorem PO.at {B : Nat} {w : World} {a : Option Addr} {n c : Nat} {ps : List PW} (h : PO B w a n c ps) : PartsAt w.heap.size w a n c ps := by
 obtain ⟨h1, h2⟩ := own_max h.row
 refine ⟨h.len, h1, h2, fun p hp => own_ints (h.vals p hp).1 (h.vals p hp).2.1 (h.vals p hp).2.2, ?_⟩
 rcases Nat.eq_zero_or_pos n with h0 | h0
 ·exact .inl h0
 ·obtain ⟨q, hq, _, hql, hqc⟩ := row_block h.row h0
  refine .inr ⟨q, 0, hq, hql, fun i p hp => ?_⟩
  obtain ⟨g0, g1⟩ := partL_at ps i p hp
  rw [Nat.zero_add]
  exact ⟨hqc _ _ g0, hqc _ _ g1⟩
def cv (ps : List PW) : List (Int × List WI) := ps.map fun p => (p.comp, p.val)
def rowCv (t : TD) (r : List (List WI)) : List (Int × List WI) := (t.cps.map (·.c.id)).zip r
def IsParts (cvs : List (Int × List WI)) (w : World) (e : Ending) (w' : World) : Prop := ∃ pa pc ps, e = .returned (.tuple #[.slice pa cvs.length pc, .int .i64 0]) ∧ PO w.heap.size w' pa cvs.length pc ps ∧ cv ps = cvs ∧ Below w.heap.size w w'
theorem find_cv {x : CV} : ∀ {l : List CV}, (l.map (·.c.id)).Nodup → x ∈ l → colOf l x.c.id = some x
 | [], _, h => by simp at h
 | y :: r, hn, h => by
  unfold colOf
  rw [List.find?_cons]
  rw [List.map_cons, List.nodup_cons] at hn
  rcases List.mem_cons.1 h with rfl | h
  ·simp
  ·have : ¬ y.c.id = x.c.id := fun he => hn.1 (by rw [he]; exact List.mem_map.2 ⟨x, h, rfl⟩)
   rw [decide_eq_false this]
   exact find_cv hn.2 h
theorem colOf_at {t : TD} {i : Nat} {x : CV} (hids : t.cps.map (·.c.id) = idsTo t.set 24) (hx : t.cps[i]? = some x) : colOf t.cps x.c.id = some x :=
 find_cv (by rw [hids]; exact idsTo_nodup _ _) (List.mem_of_getElem? hx)
theorem take_zip {α β : Type} {l : List α} {m : List β} {i : Nat} {x : α} {y : β} (h1 : l[i]? = some x) (h2 : m[i]? = some y) : (l.zip m).take (i + 1) = (l.zip m).take i ++ [(x, y)] :=
 take_snoc (by rw [List.getElem?_zip_eq_some]; exact ⟨h1, h2⟩)
theorem rowCv_len {t : TD} {r : List (List WI)} (h : r.length = t.cps.length) : (rowCv t r).length = t.cps.length := by simp [rowCv, h]
section
variable {B : Nat} {w : World} {t : TD}
set_option maxRecDepth 100000 in
set_option maxHeartbeats 1000000 in
theorem tabParts_ok (h : TabIn B w t) (V : List (List (List WI))) (hV : Vals t V) (k : Nat) (r : List (List WI)) (hk : V[k]? = some r) :
  Calls Tryz.prog 97 #[.pointer (some ⟨t.tb, 0, none⟩), .int .i64 (k : Int)] w (IsParts (rowCv t r) w) := by
 obtain ⟨i0, hi, hz0', hz1, hz2⟩ := info_parts Tryz.info85
 have hkl : k < t.ents.length := by rw [← hV.len]; exact (List.getElem?_eq_some_iff.1 hk).1
 have hrl := hV.row r (List.mem_of_getElem? hk)
 have hc := tabAt_in h (k : Int)
 rw [if_pos ⟨by omega, by omega⟩] at hc
 have HC := Lib.hid hc
 have HT := Lib.hid h
 have HV := Lib.hid hV
 have HK := Lib.hid hk
 have HKL := Lib.hid hkl
 have HRL := Lib.hid hrl
 obtain ⟨_, _, _, _, _, _, c6, _⟩ := h.cells
 have hn24 := h.n24
 have hlen := h.len
 unfold IsParts
 rw [rowCv_len hrl]
 obtain ⟨n, hn⟩ : ∃ n, t.cps.length = n := ⟨_, rfl⟩
 rw [hn] at c6 hn24 hrl hlen ⊢
 have HN := Lib.hid hn
 have HLEN := Lib.hid hlen
 have HRL2 := Lib.hid hrl
 clear h hV hk hkl hrl hc hn hlen
 go_enter Tryz.func97, Tryz.ntmps97
 go_wp2_with fail
 refine HC.out.mono ?_
 rintro e w1 ⟨rfl, rfl⟩
 go_wp2_with fail
 clear c6
 go_loopw [7, 23] (fun v j wr => ∃ m : Nat, m ≤ n ∧ j = .int .i64 (m : Int) ∧ ∃ pa pc ps, v = .slice pa m pc ∧ PO w.heap.size wr pa m pc ps ∧ cv ps = (rowCv t r).take m ∧ Below w.heap.size w wr) (fun _ j _ => n - (intOf j).toNat)
 case atStart => exact ⟨0, by omega, rfl, none, 0, [], rfl, ⟨⟨by simp, .inl ⟨rfl, rfl⟩⟩, by simp, rfl⟩, by simp [cv], Below.refl _ _⟩
 case round =>
  obtain ⟨m, hm, rfl, pa, pc, ps, rfl, hpo, hcv, hbr⟩ := hrel
  by_cases hlt : m < n
  ·obtain ⟨x, hx⟩ : ∃ x, t.cps[m]? = some x := ⟨_, List.getElem?_eq_getElem (by have := HN.out; omega)⟩
   obtain ⟨d, hd⟩ : ∃ d, t.cols[m]? = some d := ⟨_, List.getElem?_eq_getElem (by have := HLEN.out; omega)⟩
   obtain ⟨v, hv⟩ : ∃ v, r[m]? = some v := ⟨_, List.getElem?_eq_getElem (by have := HRL2.out; omega)⟩
   obtain ⟨a1, a2, a3⟩ := HV.out.at_ k m r v x d HK.out hv hx hd
   have htr := HT.out.below hbr
   have hcr := htr.colsR
   rw [HN.out] at hcr
   obtain ⟨q, hq, _, hql, hqc⟩ := row_block hcr (by omega)
   obtain ⟨g0, g1, g2, g3⟩ := colL_at t.cps hx
   have z0 := hqc _ _ g0
   have z1 := hqc _ _ g1
   have z2 := hqc _ _ g2
   have z3 := hqc _ _ g3
   rw [hq]
   have i1 : (0 : Int) ≤ (m : Int) := by omega
   have i2 : (m : Int) < (n : Int) := by omega
   have htA := htr.below ((Below.refl _ wr).alloc (Nat.le_refl _) (.cells #[.int .i64 x.c.id, .string x.c.name, .slice x.fa x.fl x.fc, .pointer (some ⟨x.cb, 0, none⟩)] 181))
   have HG := Lib.hid (tabGet_ok htA k m x d v x.c.id HKL.out (colOf_at htr.ids hx) hx hd a1 a2 a3)
   have HPO := Lib.hid (hpo.below ((Below.refl _ wr).alloc (Nat.le_refl _) (.cells #[.int .i64 x.c.id, .string x.c.name, .slice x.fa x.fl x.fc, .pointer (some ⟨x.cb, 0, none⟩)] 181)))
   have HBR := Lib.hid (hbr.alloc hbr.size (.cells #[.int .i64 x.c.id, .string x.c.name, .slice x.fa x.fl x.fc, .pointer (some ⟨x.cb, 0, none⟩)] 181))
   have HH := Lib.hid (heap_alloc_new wr (.cells #[.int .i64 x.c.id, .string x.c.name, .slice x.fa x.fl x.fc, .pointer (some ⟨x.cb, 0, none⟩)] 181))
   have HTZ := Lib.hid (take_zip (l := t.cps.map (·.c.id)) (by rw [List.getElem?_map, hx]; rfl) hv)
   have HCV := Lib.hid hcv
   have HWF := Lib.hid a3
   clear hx hd hv a1 a2 a3 htr hcr hqc g0 g1 g2 g3 htA hpo hcv hbr hq
   go_wp2_with fail
   refine HG.out.mono ?_
   rintro e w3 ⟨va, vc, rfl, hown, hb3⟩
   have hh3 := keep hb3 HH.out
   have c0 := cell_at hh3 0
   simp at c0
   have hh3l := lt_some hh3
   have hpo3 := HPO.out.below hb3
   have hb0 := HBR.out.trans (hb3.mono HBR.out.size)
   have hz0 := hb0.size
   have HOWN := Lib.hid ((ownsRow_mono hown HBR.out.size).alloc (.cells #[.int .i64 x.c.id, .slice va v.length vc] 85))
   have HPO3 := Lib.hid (hpo3.below ((Below.refl _ w3).alloc (Nat.le_refl _) (.cells #[.int .i64 x.c.id, .slice va v.length vc] 85)))
   have HB3 := Lib.hid (hb0.alloc hz0 (.cells #[.int .i64 x.c.id, .slice va v.length vc] 85))
   have HN1 := Lib.hid (And.intro (World.news_of_block (heap_alloc_new w3 (.cells #[.int .i64 x.c.id, .slice va v.length vc] 85))) (show ∀ u ∈ (#[.int .i64 x.c.id, .slice va v.length vc] : Array Value).toList, u.oneCell' = true from List.all_eq_true.1 rfl))
   clear hown hb3 hh3 hpo3 hb0 z0 z1 z2 z3 HG HH HPO HBR
   go_wp2_with (at_builtin; go_loud (refine wpList_append_own _ rfl (.tmp 36) (.tmp 42) 48 rfl w.heap.size 85 i0 (.agg #[.int .i64 0, .slice none 0 0]) 2 32 Tryz.underlying48 hi hz0' hz1 hz2 rfl (by decide) (.slice pa m pc) m (ps.flatMap partL) rfl HPO3.out.row ⟨w3.heap.size, 0, none⟩ 1 1 (#[.int .i64 x.c.id, .slice va v.length vc] : Array Value).toList rfl rfl HN1.out.1 HN1.out.2 (by unfold maxLen; omega) (by omega) (by simp; omega) ?_))
   intro v' w4 hown4 hg4 _
   obtain ⟨vb', vd', hv'⟩ := ownsRow_slice hown4
   rw [hv'] at hown4 ⊢
   clear hv'
   have hpo4 : PO w.heap.size w4 vb' (m + 1) vd' (ps ++ [⟨x.c.id, va, v.length, vc, v⟩]) := by
    refine ⟨by rw [List.flatMap_append]; exact hown4, fun p hp => ?_, by rw [List.length_append, HPO3.out.len]; rfl⟩
    rcases List.mem_append.1 hp with hp | hp
    ·exact ⟨(HPO3.out.vals p hp).1.kept hg4 (ownsRow_ne (HPO3.out.vals p hp).1 HPO3.out.row (by decide)), (HPO3.out.vals p hp).2⟩
    ·obtain rfl : p = _ := List.mem_singleton.1 hp
     exact ⟨HOWN.out.kept hg4 (ownsRow_ne HOWN.out HPO3.out.row (by decide)), rfl, HWF.out⟩
   have HPO4 := Lib.hid hpo4
   have HB4 := Lib.hid (HB3.out.trans (below_own HPO3.out.row hg4 (by simp; omega)))
   clear hown4 hg4 hpo4 HOWN HPO3 c0
   go_wp2_with fail
   go_roundw
   case rel => exact ⟨m + 1, by omega, by go_num, vb', vd', _, rfl, HPO4.out, by unfold cv at *; rw [List.map_append, HCV.out]; exact HTZ.out.symm, HB4.out⟩
   case measure => simp [intOf]; omega
  ·obtain rfl : m = n := by omega
   have HPO := Lib.hid hpo
   have HB := Lib.hid hbr
   have HCV := Lib.hid hcv
   clear hpo hbr hcv
   go_wp2_with fail
   go_ret2
   exact ⟨pa, pc, ps, rfl, HPO.out, by rw [HCV.out, List.take_of_length_le (by rw [rowCv_len (by rw [HRL2.out, HN.out]), HN.out]; exact Nat.le_refl _)], HB.out⟩
end
end Go.Proofs.YtgebbmfoamkfnaaGreatDoor
namespace Go.Proofs.YtgebbmfoamkfnaaGreatDoor
open Go.RowKit
set_option linter.unusedVariables false
def TD.put (t : TD) (i k : Nat) (d : CD) (row : List UInt8) : TD := { t with cols := t.cols.set i { d with rows := d.rows.set k row } }
end Go.Proofs.YtgebbmfoamkfnaaGreatDoor
