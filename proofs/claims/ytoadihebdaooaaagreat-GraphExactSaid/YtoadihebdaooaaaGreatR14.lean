/- Contract of graph.Clone. -/
import Derived.Test.YtoadihebdaooaaaGreatR13
namespace Go.Proofs.YtoadihebdaooaaaGreat
open Go.RowKit Go.Maps
set_option linter.unusedVariables false
set_option maxRecDepth 100000 in
set_option maxHeartbeats 4000000 in
theorem gclone_any (B1 gb : Nat) (g : GS) (w : World) (h : Graph B1 gb g w) : Calls Tryz.prog 20 #[.pointer (some ⟨gb, 0, none⟩)] w fun e w' => ∃ ts', e = .returned (.pointer (some ⟨w.heap.size, 0, none⟩)) ∧ ts'.map (·.2) = g.ts.map (·.2) ∧ Graph w.heap.size w.heap.size { g with ts := ts' } w' ∧ Below w.heap.size w w' := by
  obtain ⟨i0, hi, hz0, hz1, hz2⟩ := info_parts Tryz.info42
  obtain ⟨mb, wb, ca, cl, cc, ta, tc, bs, ws, h⟩ := h
  have c0 := cell_at h.blk 0
  have c1 := cell_at h.blk 1
  have c2 := cell_at h.blk 2
  have c3 := cell_at h.blk 3
  have c4 := cell_at h.blk 4
  have c5 := cell_at h.blk 5
  have c6 := cell_at h.blk 6
  simp at c0 c1 c2 c3 c4 c5 c6
  have hlen : g.ts.length ≤ 64 := by have := h.wf; omega
  have hb0 : Below w.heap.size w (w.alloc (.cells #[.int .i64 g.ver, .slice ca cl cc, .int .i64 g.archs, .int .i64 g.rows, .slice ta g.ts.length tc, .map (some mb), .map (some wb)] 119)) := by go_grown
  have hU := heap_alloc_new w (.cells #[.int .i64 g.ver, .slice ca cl cc, .int .i64 g.archs, .int .i64 g.rows, .slice ta g.ts.length tc, .map (some mb), .map (some wb)] 119)
  have H := Lib.hid h
  clear h
  go_enter Tryz.func20, Tryz.ntmps20
  go_wp2_with fail
  clear c0 c1 c2 c3 c4 c5 c6
  have HV := Lib.hid (And.intro hU hb0)
  clear hU hb0
  generalize w.alloc (.cells #[.int .i64 g.ver, .slice ca cl cc, .int .i64 g.archs, .int .i64 g.rows, .slice ta g.ts.length tc, .map (some mb), .map (some wb)] 119) = V at *
  refine wp_region_mem (by kernel_rfl) (by kernel_rfl) (by kernel_rfl) (by kernel_rfl) (fun i => ([(.pointer (some ⟨gb, 0, none⟩)), (.pointer (some ⟨gb, 0, none⟩)), (.pointer (some ⟨gb, 0, none⟩)), (.agg #[.int .i64 g.ver, .slice ca cl cc]), undef, (.pointer (some ⟨gb, 0, none⟩)), (.pointer (some ⟨gb, 0, none⟩)), (.pointer (some ⟨gb, 5, none⟩)), (.map (some mb)), undef, (.pointer (some ⟨gb, 0, none⟩)), (.pointer (some ⟨gb, 0, none⟩)), (.pointer (some ⟨gb, 6, none⟩)), (.map (some wb)), undef, (.pointer (some ⟨w.heap.size, 0, none⟩)), undef, (.pointer (some ⟨w.heap.size, 5, none⟩)), undef, (.pointer (some ⟨w.heap.size, 6, none⟩)), undef] : List Value).getD i undef) memC (GC w.heap.size g cl (.slice ta g.ts.length tc) bs ws w) (fun f g vs us w hs h => GC.congr f g vs us w hs h) (fun i hi => by unfold memC at hi; simp at hi; simp; omega) ?_ ?_ ?_ ?_
  · intro vs
    exact ⟨HV.out.2.drew, ⟨_, _, _, _, HV.out.1, fun h => Bool.noConfusion h, fun h => Bool.noConfusion h, fun h => Bool.noConfusion h⟩, fun h => Bool.noConfusion h, fun h => Bool.noConfusion h, fun h => Bool.noConfusion h, fun h => Bool.noConfusion h, fun h => Bool.noConfusion h, fun h => Bool.noConfusion h, fun h => Bool.noConfusion h⟩
  · intro f vs w' i o hS hMw ho hd
    simp only [putAll, Act.put, List.setIfInBounds_toArray, List.set_cons_succ, List.set_cons_zero]
    have hk := keep hMw.bel H.out.blk
    have a0 := cell_at hk 0
    have a1 := cell_at hk 1
    have a5 := cell_at hk 5
    have a6 := cell_at hk 6
    simp at a0 a1 a5 a6
    clear hMw hk
    revert hS ho hd
    match i with
    | 0 =>
      intro _ ho hd
      obtain rfl := (Option.some.inj ho).symm
      clear ho hd
      go_simp
    | 1 =>
      intro _ ho hd
      obtain rfl := (Option.some.inj ho).symm
      have d0 : vs 0 = (.pointer (some ⟨gb, 0, none⟩)) := (hd ⟨0, .data⟩ (by simp) rfl).2 rfl
      clear ho hd
      rw [d0]
      go_simp
    | 2 =>
      intro _ ho hd
      obtain rfl := (Option.some.inj ho).symm
      have d1 : vs 1 = (.pointer (some ⟨gb, 0, none⟩)) := (hd ⟨1, .data⟩ (by simp) rfl).2 rfl
      clear ho hd
      rw [d1]
      go_simp
    | 3 =>
      intro _ ho hd
      obtain rfl := (Option.some.inj ho).symm
      have d2 : vs 2 = (.pointer (some ⟨gb, 0, none⟩)) := (hd ⟨2, .data⟩ (by simp) rfl).2 rfl
      clear ho hd
      rw [d2]
      go_simp
    | 4 => intro hS; exact Bool.noConfusion hS
    | 5 =>
      intro _ ho hd
      obtain rfl := (Option.some.inj ho).symm
      clear ho hd
      go_simp
    | 6 =>
      intro _ ho hd
      obtain rfl := (Option.some.inj ho).symm
      have d5 : vs 5 = (.pointer (some ⟨gb, 0, none⟩)) := (hd ⟨5, .data⟩ (by simp) rfl).2 rfl
      clear ho hd
      rw [d5]
      go_simp
    | 7 =>
      intro _ ho hd
      obtain rfl := (Option.some.inj ho).symm
      have d6 : vs 6 = (.pointer (some ⟨gb, 0, none⟩)) := (hd ⟨6, .data⟩ (by simp) rfl).2 rfl
      clear ho hd
      rw [d6]
      go_simp
    | 8 =>
      intro _ ho hd
      obtain rfl := (Option.some.inj ho).symm
      have d7 : vs 7 = (.pointer (some ⟨gb, 5, none⟩)) := (hd ⟨7, .data⟩ (by simp) rfl).2 rfl
      clear ho hd
      rw [d7]
      go_simp
    | 9 => intro hS; exact Bool.noConfusion hS
    | 10 =>
      intro _ ho hd
      obtain rfl := (Option.some.inj ho).symm
      clear ho hd
      go_simp
    | 11 =>
      intro _ ho hd
      obtain rfl := (Option.some.inj ho).symm
      have d10 : vs 10 = (.pointer (some ⟨gb, 0, none⟩)) := (hd ⟨10, .data⟩ (by simp) rfl).2 rfl
      clear ho hd
      rw [d10]
      go_simp
    | 12 =>
      intro _ ho hd
      obtain rfl := (Option.some.inj ho).symm
      have d11 : vs 11 = (.pointer (some ⟨gb, 0, none⟩)) := (hd ⟨11, .data⟩ (by simp) rfl).2 rfl
      clear ho hd
      rw [d11]
      go_simp
    | 13 =>
      intro _ ho hd
      obtain rfl := (Option.some.inj ho).symm
      have d12 : vs 12 = (.pointer (some ⟨gb, 6, none⟩)) := (hd ⟨12, .data⟩ (by simp) rfl).2 rfl
      clear ho hd
      rw [d12]
      go_simp
    | 14 => intro hS; exact Bool.noConfusion hS
    | 15 =>
      intro _ ho hd
      obtain rfl := (Option.some.inj ho).symm
      clear ho hd
      go_simp
    | 16 => intro hS; exact Bool.noConfusion hS
    | 17 =>
      intro _ ho hd
      obtain rfl := (Option.some.inj ho).symm
      clear ho hd
      go_simp
    | 18 => intro hS; exact Bool.noConfusion hS
    | 19 =>
      intro _ ho hd
      obtain rfl := (Option.some.inj ho).symm
      clear ho hd
      go_simp
    | 20 => intro hS; exact Bool.noConfusion hS
    | n + 21 =>
      intro _ ho
      simp at ho
  · intro f vs w' i o hS hMw hfi ho hd
    simp only [putAll, Act.put, List.setIfInBounds_toArray, List.set_cons_succ, List.set_cons_zero]
    revert hS hfi ho hd
    match i with
    | 0 => intro hS; exact Bool.noConfusion hS
    | 1 => intro hS; exact Bool.noConfusion hS
    | 2 => intro hS; exact Bool.noConfusion hS
    | 3 => intro hS; exact Bool.noConfusion hS
    | 4 =>
      intro _ hfi ho hd
      obtain rfl := (Option.some.inj ho).symm
      have g3 := (hd ⟨3, .data⟩ (by simp) rfl).1
      have d3 : vs 3 = (.agg #[.int .i64 g.ver, .slice ca cl cc]) := (hd ⟨3, .data⟩ (by simp) rfl).2 rfl
      clear ho hd
      rw [d3]
      have hcs : CompsAt w'.heap.size w' ca cl g.cs := (H.out.comps.below hMw.bel).mono hMw.bel.size
      go_simp
      refine (schemaClone_any _ _ _ _ _ _ hcs H.out.cn.2 H.out.wf.2.1 H.out.cn.1).mono ?_
      rintro e w2 ⟨va, vc, rfl, hcs2, hvn, hb2, hty2⟩
      exact hMw.do4 hfi hb2 hcs2 hty2 hvn
    | 5 => intro hS; exact Bool.noConfusion hS
    | 6 => intro hS; exact Bool.noConfusion hS
    | 7 => intro hS; exact Bool.noConfusion hS
    | 8 => intro hS; exact Bool.noConfusion hS
    | 9 =>
      intro _ hfi ho hd
      obtain rfl := (Option.some.inj ho).symm
      have g8 := (hd ⟨8, .data⟩ (by simp) rfl).1
      have d8 : vs 8 = (.map (some mb)) := (hd ⟨8, .data⟩ (by simp) rfl).2 rfl
      clear ho hd
      rw [d8]
      go_simp
      refine (mclone1_any _ _ _ _ (H.out.bySet.below hMw.bel)).mono ?_
      rintro e w2 ⟨rfl, hm2, hb2⟩
      exact hMw.do9 hfi hb2 hm2
    | 10 => intro hS; exact Bool.noConfusion hS
    | 11 => intro hS; exact Bool.noConfusion hS
    | 12 => intro hS; exact Bool.noConfusion hS
    | 13 => intro hS; exact Bool.noConfusion hS
    | 14 =>
      intro _ hfi ho hd
      obtain rfl := (Option.some.inj ho).symm
      have g13 := (hd ⟨13, .data⟩ (by simp) rfl).1
      have d13 : vs 13 = (.map (some wb)) := (hd ⟨13, .data⟩ (by simp) rfl).2 rfl
      clear ho hd
      rw [d13]
      go_simp
      refine (mclone2_any _ _ _ _ (H.out.byWay.below hMw.bel)).mono ?_
      rintro e w2 ⟨rfl, hm2, hb2⟩
      exact hMw.do14 hfi hb2 hm2
    | 15 => intro hS; exact Bool.noConfusion hS
    | 16 =>
      intro _ hfi ho hd
      obtain rfl := (Option.some.inj ho).symm
      have g15 := (hd ⟨15, .data⟩ (by simp) rfl).1
      have d15 : vs 15 = (.pointer (some ⟨w.heap.size, 0, none⟩)) := (hd ⟨15, .data⟩ (by simp) rfl).2 rfl
      have g4 := (hd ⟨4, .data⟩ (by simp) rfl).1
      clear ho hd
      rw [d15]
      obtain ⟨va, vc, hv4, _⟩ := hMw.r4 g4
      obtain ⟨v0, v1, v5, v6, hblk, _⟩ := hMw.blk
      have u0 := cell_at hblk 0
      have u1 := cell_at hblk 1
      have f0 := free_at hblk 0
      have f1 := free_at hblk 1
      simp at u0 u1
      have hd := hMw.do16 g4 hfi undef hv4
      rw [hv4]
      clear hMw hblk
      go_simp
      exact ⟨undef, hd⟩
    | 17 => intro hS; exact Bool.noConfusion hS
    | 18 =>
      intro _ hfi ho hd
      obtain rfl := (Option.some.inj ho).symm
      have g17 := (hd ⟨17, .data⟩ (by simp) rfl).1
      have d17 : vs 17 = (.pointer (some ⟨w.heap.size, 5, none⟩)) := (hd ⟨17, .data⟩ (by simp) rfl).2 rfl
      have g9 := (hd ⟨9, .data⟩ (by simp) rfl).1
      clear ho hd
      rw [d17]
      obtain ⟨b, hv9, _⟩ := hMw.r9 g9
      obtain ⟨v0, v1, v5, v6, hblk, _⟩ := hMw.blk
      have u0 := cell_at hblk 5
      have f0 := free_at hblk 5
      simp at u0
      have hd := hMw.do18 g9 undef
      rw [hv9] at hd ⊢
      clear hMw hblk
      go_simp
      exact ⟨undef, hd⟩
    | 19 => intro hS; exact Bool.noConfusion hS
    | 20 =>
      intro _ hfi ho hd
      obtain rfl := (Option.some.inj ho).symm
      have g19 := (hd ⟨19, .data⟩ (by simp) rfl).1
      have d19 : vs 19 = (.pointer (some ⟨w.heap.size, 6, none⟩)) := (hd ⟨19, .data⟩ (by simp) rfl).2 rfl
      have g14 := (hd ⟨14, .data⟩ (by simp) rfl).1
      clear ho hd
      rw [d19]
      obtain ⟨b, hv14, _⟩ := hMw.r14 g14
      obtain ⟨v0, v1, v5, v6, hblk, _⟩ := hMw.blk
      have u0 := cell_at hblk 6
      have f0 := free_at hblk 6
      simp at u0
      have hd := hMw.do20 g14 undef
      rw [hv14] at hd ⊢
      clear hMw hblk
      go_simp
      exact ⟨undef, hd⟩
    | n + 21 =>
      intro _ _ ho
      simp at ho
  · intro vs w' hMw hcs
    obtain ⟨v0, v1, v5, v6, hblk, b16, b18, b20⟩ := hMw.blk
    obtain ⟨va, vc, hv4, hc4, ht4, hn4⟩ := hMw.r4 rfl
    obtain ⟨m1, hv9, hm1, hM1⟩ := hMw.r9 rfl
    obtain ⟨m2, hv14, hm2, hM2⟩ := hMw.r14 rfl
    have hne := hMw.ne rfl rfl m1 m2 hv9 hv14
    have e4 := (b16 rfl).symm.trans hv4
    have e9 := (b18 rfl).symm.trans hv9
    have e14 := (b20 rfl).symm.trans hv14
    simp at e4
    obtain ⟨rfl, rfl⟩ := e4
    subst e9 e14
    have u4 := cell_at hblk 4
    have f4 := free_at hblk 4
    simp at u4
    have hk0 := keepsTy_set hblk 4 (.slice none 0 0)
    have hL0 : GL w.heap.size g va cl vc m1 m2 bs ws w none 0 0 [] (w'.setCell ⟨w.heap.size, 4, none⟩ (.slice none 0 0)) :=
      { bel := hMw.bel.setCell (Nat.le_refl _) _, blk := by have := hset _ _ 4 (.slice none 0 0) _ _ _ hblk; simpa using this,
        comps := by rw [show (w'.setCell ⟨w.heap.size, 4, none⟩ (.slice none 0 0)).heap.size = w'.heap.size by simp [World.setCell]]; exact hc4.ty ht4 hk0, cty := ht4.hk hk0, cn := hn4, u1 := hm1, u2 := hm2, ne := hne, m1 := hM1.setCell (by simp; omega) _, m2 := hM2.setCell (by simp; omega) _,
        row := World.ownsRow_nil _ _ _ _, len := rfl, sets := rfl, tab := (fun t ht => by cases ht), tlo := (fun t ht => by cases ht) }
    have hk := keep hL0.bel H.out.blk
    have a4 := cell_at hk 4
    simp at a4
    have HL0 := Lib.hid hL0
    clear hMw hcs hblk b16 b18 b20 hv4 hc4 ht4 hn4 hv9 hM1 hv14 hM2 hne hm1 hm2 hk0 hL0 hk HV
    simp only [putAll, Act.put, List.setIfInBounds_toArray, List.set_cons_succ, List.set_cons_zero, Nat.zero_add, Nat.reduceAdd]
    go_wp2_with fail
    clear u4 f4 a4
    generalize w'.setCell ⟨w.heap.size, 4, none⟩ (.slice none 0 0) = V2 at *
    go_loopw [35] (fun i wr => ∃ (k : Nat) (ta' : Option Addr) (tc' : Nat) (out : List (Nat × Int)), k ≤ g.ts.length ∧ i = .int .i64 k ∧ GL w.heap.size g va cl vc m1 m2 bs ws w ta' tc' k out wr) (fun i _ => g.ts.length - (intOf i).toNat)
    case atStart => exact ⟨0, none, 0, [], Nat.zero_le _, rfl, HL0.out⟩
    case round =>
      obtain ⟨k, ta', tc', out, hk, rfl, hst⟩ := hrel
      have HST := Lib.hid hst
      clear hst
      have hbw := HST.out.bel
      by_cases hlt : k < g.ts.length
      · obtain ⟨t, ht⟩ : ∃ t, g.ts[k]? = some t := ⟨_, List.getElem?_eq_getElem hlt⟩
        obtain ⟨q, rfl, _, hql, hqc⟩ := row_block H.out.row (by omega)
        have z0 : wr.cell? ⟨q, k, none⟩ = some (.pointer (some ⟨t.1, 0, none⟩)) := (hbw.cell (p := ⟨q, k, none⟩) hql).trans (hqc k _ (by rw [List.getElem?_map, ht]; rfl))
        obtain ⟨htab, ht0, ht1⟩ := H.out.tab t (List.mem_of_getElem? ht)
        have htw : TableAt wr.drew t.1 g.ver t.2 g.rows := (htab.kept (w' := wr) (fun b c e fz hh _ _ => keep hbw hh)).drewN 1
        have HTW := Lib.hid htw
        have HT := Lib.hid (And.intro ht (And.intro ht0 ht1))
        have i1 : (0 : Int) ≤ (k : Int) := by omega
        have i2 : (k : Int) < (g.ts.length : Int) := by omega
        have t0 := cell_at HST.out.blk 4
        have t2 := free_at HST.out.blk 4
        simp at t0
        have hUz := lt_some HST.out.blk
        clear ht htab ht0 ht1 htw hqc hbw hql
        have hd : ∀ w6, Below wr.drew.heap.size wr.drew w6 → w6.cell? ⟨w.heap.size, 4, none⟩ = some (.slice ta' k tc') ∧ ∀ o, (w6.alloc o).cell? ⟨w.heap.size, 4, none⟩ = some (.slice ta' k tc') := by
          intro w6 hb6
          have st := HST.out.keepB (w' := wr.drew) (Below.refl _ _).drew |>.keepB hb6
          exact ⟨by rw [cell_at st.blk]; rfl, fun o => by rw [cell_at (keepA _ st.blk)]; rfl⟩
        have HD := Lib.hid hd
        clear hd
        have he : ∀ w6 o w7, Below wr.drew.heap.size wr.drew w6 → (w6.alloc o).grownBy w7 (Value.slice ta' k tc').ownBlock → w7.cell? ⟨w.heap.size, 4, none⟩ = some (.slice ta' k tc') ∧ w7.frozen? ⟨w.heap.size, 4, none⟩ = false := by
          intro w6 o w7 hb6 hg7
          have st := HST.out.keepB (w' := wr.drew) (Below.refl _ _).drew |>.keepB hb6
          have hT6 := keepG hg7 (keepA _ st.blk) (ownsRow_ne_block st.row st.blk (fun cur he => by cases he))
          exact ⟨by rw [cell_at hT6]; rfl, free_at hT6 _⟩
        have HE := Lib.hid he
        clear he
        have hfin : ∀ (w6 : World) (o : Obj) (w7 : World) (q cap ub : Nat), Below wr.drew.heap.size wr.drew w6 → (wr.heap.size ≤ ub ∧ TableAt w6 ub g.ver t.2 g.rows) → (w6.alloc o).grownBy w7 (Value.slice ta' k tc').ownBlock → w7.ownsRow (w.heap.size + 1) 42 1 (.slice (some ⟨q, 0, none⟩) (k + 1) cap) (k + 1) ((out.map fun t => .pointer (some ⟨t.1, 0, none⟩)) ++ [.pointer (some ⟨ub, 0, none⟩)]) → _ :=
          fun w6 o w7 q cap ub hb6 hcb hg7 hown7 => ((HST.out.keepB (w' := wr.drew) (Below.refl _ _).drew |>.keepB hb6).keepB ((Below.refl _ _).alloc (Nat.le_refl _) o)).app (by rw [HT.out.1]; rfl) HT.out.2.1 HT.out.2.2 (by omega) (hcb.2.kept (w' := w6.alloc o) (fun b c e fz hh _ _ => keepA o hh)) hg7 hown7
        have HFIN := Lib.hid hfin
        clear hfin
        have hob : ∀ w6 o, Below wr.drew.heap.size wr.drew w6 → (w6.alloc o).ownsRow (w.heap.size + 1) 42 1 (.slice ta' k tc') k (out.map fun t => .pointer (some ⟨t.1, 0, none⟩)) := by
          intro w6 o hb6
          exact (HST.out.keepB (w' := wr.drew) (Below.refl _ _).drew |>.keepB hb6).row.alloc o
        have HOB := Lib.hid hob
        clear hob
        have hnw : ∀ (w6 : World) (pc : Option Addr) j u, ([.pointer pc] : List Value)[j]? = some u → (w6.alloc (.cells #[.pointer pc] 42)).cell? ((⟨w6.heap.size, 0, none⟩ : Addr).add j) = some u :=
          fun w6 pc => World.news_of_block (cs := #[.pointer pc]) (t := 42) (fr := (0, 0)) (heap_alloc_new w6 _)
        have HNW := Lib.hid hnw
        clear hnw
        have h1c : ∀ (pc : Option Addr) (u : Value), u ∈ ([.pointer pc] : List Value) → u.oneCell' = true := by
          intro pc u hu; simp at hu; subst hu; rfl
        have H1C := Lib.hid h1c
        clear h1c
        have hm1 : k + 1 ≤ maxLen := by unfold maxLen; omega
        have hm2 : (k + 1) * 8 ≤ 140737488355328 := by omega
        have hm3 : ∀ w6 o, Below wr.drew.heap.size wr.drew w6 → w.heap.size + 1 ≤ (w6.alloc o).heap.size := by
          intro w6 o hb6
          have : wr.heap.size ≤ w6.heap.size := hb6.size
          simp; omega
        have HM3 := Lib.hid hm3
        clear hm3
        have HLT := Lib.hid hlt
        clear hlt
        go_wp2_with fail
        go_region_law (first | (refine step_append_lies _ (by rfl) _ _ 117 (by rfl) (w.heap.size + 1) 42 i0 _ 1 8 Tryz.underlying117 hi hz0 hz1 hz2 rfl (by omega) (.slice ta' k tc') k (out.map fun t => .pointer (some ⟨t.1, 0, none⟩)) (by rfl) (HOB.out _ _ hb6) ⟨w6.heap.size, 0, none⟩ 1 1 [.pointer (some ⟨ub, 0, none⟩)] (by rfl) (by rfl) (HNW.out w6 (some ⟨ub, 0, none⟩)) (H1C.out (some ⟨ub, 0, none⟩)) (by omega) hm1 hm2 (HM3.out _ _ hb6) (w6.heap.size + 1) (by simp) ?_; intro g cap w7 hown7 hg7 hat7 hlt7; obtain ⟨d5, d6⟩ := HE.out _ _ _ hb6 hg7) | (go_simp; go_at_call 46; refine (tabClone_any _ _ _ _ _ HTW.out).mono ?_; rintro e w6 ⟨ub, rfl, hub, htab, hb6⟩; have HCB := Lib.hid (show wr.heap.size ≤ ub ∧ TableAt w6 ub g.ver t.2 g.rows from ⟨hub, htab⟩); clear hub htab; obtain ⟨d0, d4⟩ := HD.out _ hb6))
        all_goals
          have HST3 := Lib.hid (HFIN.out _ _ _ _ _ _ hb6 HCB.out hg7 hown7)
          clear hb6 hg7 hown7 d0 d4 d5 d6 t0 t2 hat7 hlt7
          go_wp2_with fail
          go_roundw
          case rel => exact ⟨k + 1, _, _, _, by have := HLT.out; omega, by go_num, HST3.out⟩
          case measure => have := HLT.out; simp [intOf]; omega
      · obtain rfl : k = g.ts.length := by omega
        obtain ⟨hs, hgr⟩ := HST.out.fin rfl H.out.hbs H.out.hws ⟨H.out.wf.1, H.out.wf.2.1, H.out.wf.2.2.1, H.out.wf.2.2.2.1, H.out.wf.2.2.2.2.1, H.out.wf.2.2.2.2.2.2⟩ H.out.wok H.out.cn.2
        have HF := Lib.hid (And.intro hs (And.intro hgr hbw))
        clear hs hgr hbw
        go_wp2_with fail
        go_returns
        exact ⟨rfl, out, HF.out⟩
end Go.Proofs.YtoadihebdaooaaaGreat
