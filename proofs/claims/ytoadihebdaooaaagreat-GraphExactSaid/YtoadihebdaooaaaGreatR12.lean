/- table.Add(1, nil); graph.Schema. -/
import Derived.Test.YtoadihebdaooaaaGreatR11
namespace Go.Proofs.YtoadihebdaooaaaGreat
open Go.RowKit
set_option linter.unusedVariables false
theorem idsTo_zero : idsTo 0 24 = [] := by decide
set_option maxRecDepth 100000 in
theorem tcheck_nil (w : World) : Calls Tryz.prog 67 #[.pointer none, .int .u64 1, .slice none 0 0] w fun e w' => e = .returned (.int .i64 2) ∧ w = w' := by
  go_enter Tryz.func67, Tryz.ntmps67
  go_wp2_with fail
  go_returns
  exact ⟨rfl, rfl⟩
set_option maxRecDepth 100000 in
theorem tcheck_one (tb : Nat) (ver set most : Int) (w : World) (h : TableAt w tb ver set most) (h1 : 1 ≤ most) (h2 : most ≤ 256) : Calls Tryz.prog 67 #[.pointer (some ⟨tb, 0, none⟩), .int .u64 1, .slice none 0 0] w fun e w' => e = .returned (.int .i64 (if set = 0 then 0 else 4)) ∧ Below w.heap.size w w' := by
  have HT := Lib.hid h
  obtain ⟨ca, cc, la, lc, cps, h', _⟩ := h
  have HB := Lib.hid h'.blk
  have c2 := cell_at h'.blk 2
  simp at c2
  clear h'
  go_enter Tryz.func67, Tryz.ntmps67
  go_wp2_with fail
  refine (parts_nil _).mono ?_
  rintro e w1 ⟨rfl, hb1⟩
  have hk := keep hb1 HB.out
  have d2 := cell_at hk 2
  have d0 := cell_at hk 0
  have d1 := cell_at hk 1
  simp at d2 d0 d1
  have HB1 := Lib.hid hb1
  clear hb1 hk c2
  by_cases hs : set = 0
  · subst hs
    go_wp2_with fail
    refine (checkParts_nil _ _ _ _ _).mono ?_
    rintro e w2 ⟨rfl, hb2⟩
    have HB2 := Lib.hid (HB1.out.trans (hb2.mono HB1.out.size))
    have HT2 := Lib.hid (HT.out.kept (w' := w2) (fun b c e fz hh _ _ => keep HB2.out hh))
    clear hb2 d0 d1 d2
    go_wp2_with fail
    refine (troom_any _ _ _ _ _ HT2.out h1 h2).mono ?_
    rintro e w3 ⟨rfl, nq, rfl⟩
    have e1 : (most == 0) = false := by simp; omega
    go_wp2_with fail
    go_returns
    exact ⟨rfl, below_drewN HB2.out _⟩
  · have e1 : ((0 : Int) == set) = false := by simp; omega
    have HS := Lib.hid hs
    clear hs
    go_wp2_with fail
    go_returns
    exact ⟨rfl, HB1.out⟩
theorem Tryz.info61 : (Tryz.prog.info? 61).map (fun i => (i.zero, i.size, i.bytes)) = some (some (.int .u64 0), 1, 8) := by kernel_rfl
set_option maxRecDepth 100000 in
theorem tadd_nil (w : World) : Calls Tryz.prog 24 #[.pointer none, .int .u64 1, .slice none 0 0] w fun e w' => (∃ v, e = .returned v) ∧ w = w' := by
  go_enter Tryz.func24, Tryz.ntmps24
  go_wp2_with fail
  refine (tcheck_nil _).mono ?_
  rintro e w' ⟨rfl, rfl⟩
  go_wp2_with fail
  go_returns
  exact ⟨⟨_, rfl⟩, rfl⟩
set_option maxRecDepth 100000 in
theorem tadd_one (tb : Nat) (ver set most : Int) (w : World) (h : TableAt w tb ver set most) (h1 : 1 ≤ most) (h2 : most ≤ 256) : Calls Tryz.prog 24 #[.pointer (some ⟨tb, 0, none⟩), .int .u64 1, .slice none 0 0] w fun e w' => (∃ v, e = .returned v) ∧ Below tb w w' := by
  obtain ⟨i0, hi, hz0, hz1, hz2⟩ := info_parts Tryz.info61
  have HT := Lib.hid h
  have htb : tb < w.heap.size := by obtain ⟨ca, cc, la, lc, cps, h', _⟩ := h; exact lt_some h'.blk
  clear h
  go_enter Tryz.func24, Tryz.ntmps24
  go_wp2_with fail
  refine (tcheck_one _ _ _ _ _ HT.out h1 h2).mono ?_
  rintro e w1 ⟨rfl, hb1⟩
  have HB1 := Lib.hid hb1
  have HT1 := Lib.hid (HT.out.kept (w' := w1) (fun b c e fz hh _ _ => keep hb1 hh))
  clear hb1
  by_cases hs : set = 0
  · subst hs
    rw [if_pos rfl]
    obtain ⟨ca, cc, la, lc, cps, h', hn⟩ := HT1.out
    rw [idsTo_zero] at hn
    have hn0 : cps.length = 0 := hn
    have hblk := h'.blk
    rw [hn0] at hblk
    have c5 := cell_at hblk 5
    have c6 := cell_at hblk 6
    simp at c5 c6
    have HBL := Lib.hid hblk
    clear h' hn hblk hn0
    go_wp2_with fail
    go_loop [25] (fun i => i = .int .i64 0) (fun _ => 0)
    case atStart => rfl
    case round =>
      obtain rfl := hrel
      have hz1' : w.heap.size ≤ w1.heap.size := HB1.out.size
      have h1c : ∀ u ∈ ([.int .u64 1] : List Value), u.oneCell' = true := by intro u hu; simp at hu; subst hu; rfl
      go_wp2_with (at_builtin; refine wpList_append_own _ rfl (.tmp 50) (.tmp 52) 76 rfl w1.heap.size 61 i0 (.int .u64 0) 1 8 Tryz.underlying76 hi hz0 hz1 hz2 rfl (by decide) (.slice none 0 0) 0 [] rfl (World.ownsRow_nil _ _ _ _) ⟨w1.heap.size, 0, none⟩ 1 1 [.int .u64 1] rfl rfl (cell_one_new _ _ _) h1c (by unfold maxLen; omega) (by omega) (by simp) ?_)
      intro v' w4 hown4 hg4 _
      obtain ⟨va, vc, hv'⟩ := ownsRow_slice hown4
      rw [hv'] at hown4 ⊢
      clear hv'
      have kg := keepG hg4 (keepA _ HBL.out) (by simp [Value.ownBlock])
      have d4 := cell_at kg 5
      have f4 := free_at kg 5
      simp at d4
      have kg5 := hset w4 tb 5 (.slice va 1 vc) _ _ _ kg
      have s4 := cell_at kg5 5
      simp at s4
      have hb4 : Below w1.heap.size w1 w4 := ((Below.refl _ w1).alloc (Nat.le_refl _) (.cells #[.int .u64 1] 61)).grown hg4 (by simp) (fun x hx => by simp [Value.ownBlock] at hx)
      have HF : Hid (Below tb w (w4.setCell ⟨tb, 5, none⟩ (.slice va 1 vc))) := Lib.hid (Below.setCell ((HB1.out.trans (hb4.mono hz1')).mono (Nat.le_of_lt htb)) (Nat.le_refl _) _)
      clear kg kg5 hg4 hown4 hb4 c5 c6
      go_wp2_with fail
      go_returns
      exact ⟨⟨_, rfl⟩, HF.out⟩
  · rw [if_neg hs]
    clear hs
    go_wp2_with fail
    go_returns
    exact ⟨⟨_, rfl⟩, HB1.out.mono (Nat.le_of_lt htb)⟩
set_option maxRecDepth 100000 in
/-- graph.Schema: a copy of the schema. -/
theorem gschema_any (B1 gb : Nat) (g : GS) (w : World) (h : Graph B1 gb g w) : Calls Tryz.prog 21 #[.pointer (some ⟨gb, 0, none⟩)] w fun e w' => ∃ va vc, e = .returned (.agg #[.int .i64 g.ver, .slice va g.cs.length vc]) ∧ CompsAt w'.heap.size w' va g.cs.length g.cs ∧ Below w.heap.size w w' := by
  obtain ⟨mb, wb, ca, cl, cc, ta, tc, bs, ws, h⟩ := h
  have hcl : g.cs.length = cl := h.comps.1
  have hb0 : Below w.heap.size w (w.alloc (.cells #[.int .i64 0, .slice none 0 0] 24)) := by go_grown
  have hU := heap_alloc_new w (.cells #[.int .i64 0, .slice none 0 0] 24)
  have h' := h.below hb0
  have c0 := cell_at h'.blk 0
  have c1 := cell_at h'.blk 1
  simp at c0 c1
  have H := Lib.hid (And.intro h' (And.intro hU hb0))
  have HL := Lib.hid hcl
  clear h h' hU hb0 hcl
  go_enter Tryz.func21, Tryz.ntmps21
  go_wp2_with fail
  refine (schemaClone_any _ _ _ _ _ _ H.out.1.comps H.out.1.cn.2 H.out.1.wf.2.1 H.out.1.cn.1).mono ?_
  rintro e w2 ⟨va, vc, rfl, hcs2, hvn, hb2, hty2⟩
  have hU2 := keep hb2 H.out.2.1
  have f0 := free_at hU2 0
  have f1 := free_at hU2 1
  have u0 := cell_at hU2 0
  have u1 := cell_at hU2 1
  simp at u0 u1
  have HC := Lib.hid hcs2
  have HTY := Lib.hid hty2
  have HU2 := Lib.hid hU2
  have HB := Lib.hid hb2
  clear hcs2 hb2 hU2 hty2
  have hb3 : Below w.heap.size w ((w2.setCell ⟨w.heap.size, 0, none⟩ (.int .i64 g.ver)).setCell ⟨w.heap.size, 1, none⟩ (.slice va cl vc)) := ((H.out.2.2.trans (HB.out.mono H.out.2.2.size)).setCell (by simp) _).setCell (by simp) _
  have k2 := hset _ _ 1 (.slice va cl vc) _ _ _ (hset _ _ 0 (.int .i64 g.ver) _ _ _ HU2.out)
  simp at k2
  have r0 := cell_at (hset _ _ 0 (.int .i64 g.ver) _ _ _ HU2.out) 0
  have r1 := cell_at k2 1
  simp at r0 r1
  have hty : KeepsTy w2 ((w2.setCell ⟨w.heap.size, 0, none⟩ (.int .i64 g.ver)).setCell ⟨w.heap.size, 1, none⟩ (.slice va cl vc)) := by
    intro b c e fz hb he
    have hne : b ≠ w.heap.size := fun e' => by subst e'; rw [HU2.out] at hb; cases hb; rcases he with h | h <;> cases h
    rw [hset_ne _ _ _ _ hne, hset_ne _ _ _ _ hne]
    exact hb
  have HF := Lib.hid (And.intro hb3 ((HC.out.ty HTY.out hty)))
  clear hb3 k2 hty
  go_wp2_with fail
  refine bodyPost_ret (v := .agg #[.int .i64 g.ver, .slice va cl vc]) (by simp [results, Tryz.results21, go_sem, r0, r1]) rfl ?_
  refine ⟨va, vc, by rw [HL.out], ?_, HF.out.1⟩
  rw [HL.out]
  simpa [World.setCell] using HF.out.2
end Go.Proofs.YtoadihebdaooaaaGreat
