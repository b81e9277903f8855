/- Contract of table.Clone without rows. -/
import Derived.Test.YtoadihebdaooaaaGreatR10
namespace Go.Proofs.YtoadihebdaooaaaGreat
open Go.RowKit
set_option linter.unusedVariables false
def bare (x : CV) : CV := { x with cb := 0 }
/-- What a round of table.Clone keeps. -/
structure TCl (w0 : World) (U : Nat) (ver set most : Int) (ca : Option Addr) (cc : Nat) (cps : List CV) (la : Option Addr) (lc k : Nat) (out : List CV) (wx : World) : Prop where
  t : wx.heap[U]? = some (.cells #[.int .i64 ver, .slice ca cps.length cc, .int .u32 set, .int .i64 most, .int .i64 0, .slice none 0 0, .slice la k lc] 139 (0, 0))
  cols : wx.ownsRow (U + 1) 142 4 (.slice la k lc) k (out.flatMap colL)
  below : Below w0.heap.size w0 wx
  len : out.length = k
  like : out.map bare = (cps.take k).map bare
  good : ∀ x ∈ out, CVE (U + 1) wx x most
  nodup : (out.map (·.cb)).Nodup
section
variable {w0 : World} {U : Nat} {ver set most : Int} {ca : Option Addr} {cc : Nat} {cps : List CV} {la : Option Addr} {lc k : Nat} {out : List CV} {wx : World}
theorem TCl.keepB (h : TCl w0 U ver set most ca cc cps la lc k out wx) {w' : World} (hb : Below wx.heap.size wx w') : TCl w0 U ver set most ca cc cps la lc k out w' :=
  ⟨keep hb h.t, ownsRow_below h.cols hb, h.below.trans (hb.mono h.below.size), h.len, h.like, fun x hx => (h.good x hx).below hb, h.nodup⟩
theorem TCl.app (h : TCl w0 U ver set most ca cc cps la lc k out wx) (hU : w0.heap.size ≤ U) {y : CV} (hy : cps[k]? = some y) {cb : Nat} (hcb : wx.heap[cb]? = some (.cells #[.int .i64 (planSize y.c.fields), .int .i64 most, .int .i64 0, .slice none 0 0] 207 (0, 0))) (hlt : U + 1 ≤ cb) (hne : ∀ x ∈ out, x.cb ≠ cb)
    {w' : World} {g cap : Nat} (hg : wx.grownBy w' (Value.slice la k lc).ownBlock) (ho : w'.ownsRow (U + 1) 142 4 (.slice (some ⟨g, 0, none⟩) (k + 1) cap) (k + 1) (out.flatMap colL ++ colL { y with cb := cb })) :
    TCl w0 U ver set most ca cc cps (some ⟨g, 0, none⟩) cap (k + 1) (out ++ [{ y with cb := cb }]) (w'.setCell ⟨U, 6, none⟩ (.slice (some ⟨g, 0, none⟩) (k + 1) cap)) := by
  have ht' := keepG hg h.t (ownsRow_ne_block h.cols h.t (fun cur he => by cases he))
  refine ⟨?_, ?_, ?_, ?_, ?_, ?_, ?_⟩
  · exact hset _ _ _ _ _ _ _ ht'
  · rw [List.flatMap_append]
    have e : ([{ y with cb := cb }] : List CV).flatMap colL = colL { y with cb := cb } := by simp
    rw [e]
    exact ownsRow_setCell_below ho (by simp) _
  · refine (h.below.grown hg h.below.size (fun x hx => ?_)).setCell hU _
    have := (h.cols.lt x hx).1; omega
  · rw [List.length_append, h.len]; rfl
  · rw [List.map_append, h.like, take_snoc hy, List.map_append]; rfl
  · intro x hx
    rcases List.mem_append.1 hx with hx | hx
    · exact ((h.good x hx).kept h.cols (by decide) hg).setCell (by simp) _
    · obtain rfl : x = { y with cb := cb } := by simpa using hx
      exact (CVE.kept (x := { y with cb := cb }) ⟨hlt, hcb⟩ h.cols (by decide) hg).setCell (by simp) _
  · rw [List.map_append, List.nodup_append]
    refine ⟨h.nodup, by simp, fun a ha b hb => ?_⟩
    obtain ⟨x, hx, rfl⟩ := List.mem_map.1 ha
    obtain rfl : b = cb := by simpa using hb
    exact hne x hx
theorem TCl.fin (h : TCl w0 U ver set most ca cc cps la lc k out wx) {tb : Nat} {la0 : Option Addr} {lc0 : Nat} (ht : TableHas w0 0 tb ver set most ca cc la0 lc0 cps) (hk : k = cps.length) (hn : cps.length = (idsTo set 24).length) : TableAt wx U ver set most := by
  have e : out.map bare = cps.map bare := by rw [h.like, List.take_of_length_le (by omega)]
  have ec : out.flatMap compL = cps.flatMap compL := by
    have h1 : ∀ l : List CV, l.flatMap compL = (l.map bare).flatMap compL := by intro l; rw [List.flatMap_map]; rfl
    rw [h1 out, h1 cps, e]
  have hl : out.length = cps.length := by have := h.len; omega
  refine ⟨ca, cc, la, lc, out, ⟨?_, ?_, ?_, ?_, h.nodup⟩, by rw [hl, hn]⟩
  · rw [hl]; have := h.t; rw [hk] at this; exact this
  · rw [hl, ec]; exact ownsRow_below ht.comps h.below
  · rw [hl]; have := h.cols; rw [hk] at this; exact ownsRow_mono this (by omega)
  · intro x hx
    refine ⟨?_, ⟨Nat.zero_le _, (h.good x hx).blk⟩⟩
    have hx' : bare x ∈ cps.map bare := by rw [← e]; exact List.mem_map_of_mem hx
    obtain ⟨y, hy, hyx⟩ := List.mem_map.1 hx'
    have hf := (ht.good y hy).1.below h.below
    obtain ⟨yc, ya, yl, yk, yb⟩ := y
    obtain ⟨xc, xa, xl, xk, xb⟩ := x
    simp only [bare, CV.mk.injEq, and_true] at hyx
    obtain ⟨rfl, rfl, rfl, rfl⟩ := hyx
    exact ⟨hf.row, hf.len, hf.max, hf.nil⟩
end
theorem colL_get (l : List CV) {k : Nat} {y : CV} (h : l[k]? = some y) : (l.flatMap colL)[k * 4]? = some (.int .i64 y.c.id) ∧ (l.flatMap colL)[k * 4 + 1]? = some (.string y.c.name) ∧ (l.flatMap colL)[k * 4 + 2]? = some (.slice y.fa y.fl y.fc) ∧ (l.flatMap colL)[k * 4 + 3]? = some (.pointer (some ⟨y.cb, 0, none⟩)) := by
  induction l generalizing k with
  | nil => cases h
  | cons x r ih =>
    cases k with
    | zero => cases h; simp [colL]
    | succ k =>
      have hr := ih (k := k) (by simpa using h)
      have e : ((x :: r).flatMap colL) = colL x ++ r.flatMap colL := by simp
      have hl : (colL x).length = 4 := rfl
      rw [e]
      refine ⟨?_, ?_, ?_, ?_⟩
      · rw [List.getElem?_append_right (by omega), hl, show (k + 1) * 4 - 4 = k * 4 by omega]; exact hr.1
      · rw [List.getElem?_append_right (by omega), hl, show (k + 1) * 4 + 1 - 4 = k * 4 + 1 by omega]; exact hr.2.1
      · rw [List.getElem?_append_right (by omega), hl, show (k + 1) * 4 + 2 - 4 = k * 4 + 2 by omega]; exact hr.2.2.1
      · rw [List.getElem?_append_right (by omega), hl, show (k + 1) * 4 + 3 - 4 = k * 4 + 3 by omega]; exact hr.2.2.2
set_option maxRecDepth 100000 in
set_option maxHeartbeats 4000000 in
theorem tabClone_any (tb : Nat) (ver set most : Int) (w : World) (h : TableAt w tb ver set most) : Calls Tryz.prog 46 #[.pointer (some ⟨tb, 0, none⟩)] w fun e w' => ∃ ub, e = .returned (.pointer (some ⟨ub, 0, none⟩)) ∧ w.heap.size ≤ ub ∧ TableAt w' ub ver set most ∧ Below w.heap.size w w' := by
  obtain ⟨i1, hi', hy0, hy1, hy2⟩ := info_parts Tryz.info142
  obtain ⟨ca, cc, la, lc, cps, h, hn⟩ := h
  have hn24 : cps.length ≤ 24 := by have := idsTo_len set 24; omega
  have c0 := cell_at h.blk 0
  have c1 := cell_at h.blk 1
  have c2 := cell_at h.blk 2
  have c3 := cell_at h.blk 3
  have c4 := cell_at h.blk 4
  have c5 := cell_at h.blk 5
  have c6 := cell_at h.blk 6
  simp at c0 c1 c2 c3 c4 c5 c6
  have H := Lib.hid h
  have HN := Lib.hid hn
  clear h hn
  have hU := heap_alloc_new w (.cells #[.int .i64 ver, .slice ca cps.length cc, .int .u32 set, .int .i64 most, .int .i64 0, .slice none 0 0, .slice la cps.length lc] 139)
  have hb0 : Below w.heap.size w (w.alloc (.cells #[.int .i64 ver, .slice ca cps.length cc, .int .u32 set, .int .i64 most, .int .i64 0, .slice none 0 0, .slice la cps.length lc] 139)) := by go_grown
  have hT := keep hb0 H.out.blk
  have HV := Lib.hid (And.intro hU hb0)
  go_enter Tryz.func46, Tryz.ntmps46
  go_upto_region 4 with (fail)
  clear c0 c1 c2 c3 c4 c5 c6 hb0
  generalize w.alloc (.cells #[.int .i64 ver, .slice ca cps.length cc, .int .u32 set, .int .i64 most, .int .i64 0, .slice none 0 0, .slice la cps.length lc] 139) = V at *
  have d5 := cell_at hT 5
  have d6 := cell_at hT 6
  have u5 := cell_at hU 5
  have u6 := cell_at hU 6
  have f5 := free_at hU 5
  have f6 := free_at hU 6
  simp at d5 d6 u5 u6
  clear hT hU
  go_wp2_with fail
  refine (entsClone_nil _).mono ?_
  rintro e w' ⟨rfl, rfl⟩
  go_upto_region 6 with (fail)
  have hU2 := hset _ _ 6 (.slice none 0 0) _ _ _ (hset V w.heap.size 5 (.slice none 0 0) _ _ _ HV.out.1)
  have hb2 : Below w.heap.size w ((V.setCell ⟨w.heap.size, 5, none⟩ (.slice none 0 0)).setCell ⟨w.heap.size, 6, none⟩ (.slice none 0 0)) := (HV.out.2.setCell (by simp) _).setCell (by simp) _
  clear u5 u6 f5 f6 d5 d6
  generalize (V.setCell ⟨w.heap.size, 5, none⟩ (.slice none 0 0)).setCell ⟨w.heap.size, 6, none⟩ (.slice none 0 0) = V2 at *
  have hT := keep hb2 H.out.blk
  have d6 := cell_at hT 6
  simp at d6 hU2
  clear hT
  have HV2 := Lib.hid (And.intro hU2 hb2)
  clear hU2 hb2 HV
  generalize hgU : w.heap.size = U at *
  have HGU := Lib.hid hgU
  clear hgU
  generalize hgn : cps.length = n at *
  have HGN := Lib.hid hgn
  clear hgn
  go_wp2_with fail
  go_loopw [23] (fun i wr => ∃ (k : Nat) (la' : Option Addr) (lc' : Nat) (out : List CV), k ≤ n ∧ i = .int .i64 k ∧ TCl w U ver set most ca cc cps la' lc' k out wr) (fun i _ => n - (intOf i).toNat)
  case atStart =>
    exact ⟨0, none, 0, [], Nat.zero_le _, rfl, by rw [HGN.out]; exact HV2.out.1, World.ownsRow_nil _ _ _ _, by rw [HGU.out]; exact HV2.out.2, rfl, rfl, (fun x hx => by cases hx), by simp⟩
  case round =>
    obtain ⟨k, la', lc', out, hk, rfl, hst⟩ := hrel
    have HST := Lib.hid hst
    clear hst
    have hbw := HST.out.below
    by_cases hlt : k < n
    · obtain ⟨y, hy⟩ : ∃ y, cps[k]? = some y := ⟨_, List.getElem?_eq_getElem (by have := HGN.out; omega)⟩
      obtain ⟨g0, g1, g2, g3⟩ := colL_get cps hy
      have hrow := ownsRow_below H.out.cols hbw
      rw [HGN.out] at hrow
      obtain ⟨q, rfl, _, hql, hqc⟩ := row_block hrow (by omega)
      have z0 := hqc _ _ g0
      have z1 := hqc _ _ g1
      have z2 := hqc _ _ g2
      have z3 := hqc _ _ g3
      have i1 : (0 : Int) ≤ (k : Int) := by omega
      have i2 : (k : Int) < (n : Int) := by omega
      have HCOL := Lib.hid ((H.out.good y (List.mem_of_getElem? hy)).2.blk)
      have HY := Lib.hid hy
      clear hrow hqc g0 g1 g2 g3 hy hbw
      go_upto_region 9 with (fail)
      have ST0 := HST.out.keepB (w' := wr.alloc (.cells #[.int .i64 y.c.id, .string y.c.name, .slice y.fa y.fl y.fc, .pointer (some ⟨y.cb, 0, none⟩)] 142)) ((Below.refl _ _).alloc (Nat.le_refl _) _)
      have hBx := heap_alloc_new wr (.cells #[.int .i64 y.c.id, .string y.c.name, .slice y.fa y.fl y.fc, .pointer (some ⟨y.cb, 0, none⟩)] 142)
      have hne : ∀ x ∈ out, x.cb < wr.heap.size := fun x hx => lt_some (HST.out.good x hx).blk
      have hUz := lt_some HST.out.t
      have hzW := World.size_alloc wr (.cells #[.int .i64 y.c.id, .string y.c.name, .slice y.fa y.fl y.fc, .pointer (some ⟨y.cb, 0, none⟩)] 142)
      have HLT := Lib.hid hlt
      clear z0 z1 z2 z3 i1 i2 hlt d6
      generalize wr.alloc (.cells #[.int .i64 y.c.id, .string y.c.name, .slice y.fa y.fl y.fc, .pointer (some ⟨y.cb, 0, none⟩)] 142) = W at *
      generalize hPB : wr.heap.size = PB at *
      have HST2 := Lib.hid ST0
      have HBX := Lib.hid hBx
      have HNE := Lib.hid hne
      have t0 := cell_at HST2.out.t 6
      have t2 := free_at HST2.out.t 6
      have q0 := cell_at hBx 0
      have q1 := cell_at hBx 1
      have q2 := cell_at hBx 2
      have q3 := cell_at hBx 3
      simp at t0 q0 q1 q2 q3
      clear ST0 hBx hne HST hPB
      have hd : ∀ w6, Below W.drew.heap.size W.drew w6 → w6.cell? ⟨U, 6, none⟩ = some (.slice la' k lc') ∧ w6.cell? ⟨PB, 0, none⟩ = some (.int .i64 y.c.id) ∧ w6.cell? ⟨PB, 1, none⟩ = some (.string y.c.name) ∧ w6.cell? ⟨PB, 2, none⟩ = some (.slice y.fa y.fl y.fc) ∧ w6.cell? ⟨PB, 3, none⟩ = some (.pointer (some ⟨y.cb, 0, none⟩)) ∧ ∀ o, (w6.alloc o).cell? ⟨U, 6, none⟩ = some (.slice la' k lc') := by
        intro w6 hb6
        have st := HST2.out.keepB (w' := W.drew) (Below.refl _ _).drew |>.keepB hb6
        have hbx := keep hb6 (show W.drew.heap[PB]? = _ from HBX.out)
        exact ⟨by rw [cell_at st.t]; rfl, by rw [cell_at hbx]; rfl, by rw [cell_at hbx]; rfl, by rw [cell_at hbx]; rfl, by rw [cell_at hbx]; rfl, fun o => by rw [cell_at (keepA _ st.t)]; rfl⟩
      have HD := Lib.hid hd
      clear hd
      have he : ∀ w6 o w7, Below W.drew.heap.size W.drew w6 → (w6.alloc o).grownBy w7 (Value.slice la' k lc').ownBlock → w7.cell? ⟨U, 6, none⟩ = some (.slice la' k lc') ∧ w7.frozen? ⟨U, 6, none⟩ = false := by
        intro w6 o w7 hb6 hg7
        have st := HST2.out.keepB (w' := W.drew) (Below.refl _ _).drew |>.keepB hb6
        have hT6 := keepG hg7 (keepA _ st.t) (ownsRow_ne_block st.cols st.t (fun cur he => by cases he))
        exact ⟨by rw [cell_at hT6]; rfl, free_at hT6 _⟩
      have HE := Lib.hid he
      clear he
      have hcol : W.drew.heap[y.cb]? = some (.cells #[.int .i64 (planSize y.c.fields), .int .i64 most, .int .i64 0, .slice none 0 0] 207 (0, 0)) := keep (show Below w.heap.size w W.drew from HST2.out.below.drew) HCOL.out
      have HCO := Lib.hid hcol
      clear hcol
      have hfin : ∀ (w6 : World) (o : Obj) (w7 : World) (g cap cb : Nat), Below W.drew.heap.size W.drew w6 → (W.heap.size ≤ cb ∧ w6.heap[cb]? = some (.cells #[.int .i64 (planSize y.c.fields), .int .i64 most, .int .i64 0, .slice none 0 0] 207 (0, 0))) → (w6.alloc o).grownBy w7 (Value.slice la' k lc').ownBlock → w7.ownsRow (U + 1) 142 4 (.slice (some ⟨g, 0, none⟩) (k + 1) cap) (k + 1) (out.flatMap colL ++ [.int .i64 y.c.id, .string y.c.name, .slice y.fa y.fl y.fc, .pointer (some ⟨cb, 0, none⟩)]) → _ :=
        fun w6 o w7 g cap cb hb6 hcb hg7 hown7 => ((HST2.out.keepB (w' := W.drew) (Below.refl _ _).drew |>.keepB hb6).keepB ((Below.refl _ _).alloc (Nat.le_refl _) o)).app (by rw [HGU.out]; exact Nat.le_refl _) HY.out (cb := cb) (keepA o hcb.2) (by omega) (fun x hx => by have := HNE.out x hx; omega) hg7 hown7
      have HFIN := Lib.hid hfin
      clear hfin
      have hob : ∀ w6 o, Below W.drew.heap.size W.drew w6 → (w6.alloc o).ownsRow (U + 1) 142 4 (.slice la' k lc') k (out.flatMap colL) := by
        intro w6 o hb6
        exact (HST2.out.keepB (w' := W.drew) (Below.refl _ _).drew |>.keepB hb6).cols.alloc o
      have HOB := Lib.hid hob
      clear hob
      have hnw : ∀ (w6 : World) (pc : Option Addr) j u, ([.int .i64 y.c.id, .string y.c.name, .slice y.fa y.fl y.fc, .pointer pc] : List Value)[j]? = some u → (w6.alloc (.cells #[.int .i64 y.c.id, .string y.c.name, .slice y.fa y.fl y.fc, .pointer pc] 142)).cell? ((⟨w6.heap.size, 0, none⟩ : Addr).add j) = some u :=
        fun w6 pc => World.news_of_block (cs := #[.int .i64 y.c.id, .string y.c.name, .slice y.fa y.fl y.fc, .pointer pc]) (t := 142) (fr := (0, 0)) (heap_alloc_new w6 _)
      have HNW := Lib.hid hnw
      clear hnw
      have h1c : ∀ (pc : Option Addr) (u : Value), u ∈ ([.int .i64 y.c.id, .string y.c.name, .slice y.fa y.fl y.fc, .pointer pc] : List Value) → u.oneCell' = true := by
        intro pc u hu; simp at hu; rcases hu with rfl | rfl | rfl | rfl <;> rfl
      have H1C := Lib.hid h1c
      clear h1c
      have hm1 : k + 1 ≤ maxLen := by unfold maxLen; omega
      have hm2 : (k + 1) * 56 ≤ 140737488355328 := by omega
      have hm3 : ∀ w6 o, Below W.drew.heap.size W.drew w6 → U + 1 ≤ (w6.alloc o).heap.size := by
        intro w6 o hb6
        have : W.heap.size ≤ w6.heap.size := hb6.size
        simp; omega
      have HM3 := Lib.hid hm3
      clear hm3
      have HZ := Lib.hid (And.intro hUz hzW)
      clear hUz hzW
      go_wp2_with fail
      go_region_law (first | (refine step_append_lies _ (by rfl) _ _ 137 (by rfl) (U + 1) 142 i1 _ 4 56 Tryz.underlying137 hi' hy0 hy1 hy2 rfl (by omega) (.slice la' k lc') k (out.flatMap colL) (by rfl) (HOB.out _ _ hb6) ⟨w6.heap.size, 0, none⟩ 1 1 [.int .i64 y.c.id, .string y.c.name, .slice y.fa y.fl y.fc, .pointer (some ⟨cb, 0, none⟩)] (by rfl) (by rfl) (HNW.out w6 (some ⟨cb, 0, none⟩)) (H1C.out (some ⟨cb, 0, none⟩)) (by omega) hm1 hm2 (HM3.out _ _ hb6) (w6.heap.size + 1) (by simp) ?_; intro g cap w7 hown7 hg7 hat7 hlt7; obtain ⟨d5, d6⟩ := HE.out _ _ _ hb6 hg7) | (go_simp; go_at_call 86; refine (colClone_any _ _ _ _ HCO.out).mono ?_; rintro e w6 ⟨cb, rfl, hcb, hblk, hb6⟩; have HCB := Lib.hid (show W.heap.size ≤ cb ∧ w6.heap[cb]? = some (.cells #[.int .i64 (planSize y.c.fields), .int .i64 most, .int .i64 0, .slice none 0 0] 207 (0, 0)) from ⟨hcb, hblk⟩); clear hcb hblk; obtain ⟨d0, d1, d2, d3, d4, d4'⟩ := HD.out _ hb6))
      all_goals
        have HST3 := Lib.hid (HFIN.out _ _ _ _ _ _ hb6 HCB.out hg7 hown7)
        clear hb6 hg7 hown7 d0 d1 d2 d3 d4 d4' d5 d6 t0 t2 q0 q1 q2 q3 hat7 hlt7
        go_wp2_with fail
        go_roundw
        case rel => exact ⟨k + 1, _, _, _, by have := HLT.out; omega, by go_num, HST3.out⟩
        case measure => have := HLT.out; simp [intOf]; omega
    · obtain rfl : k = n := by omega
      go_wp2_with fail
      go_returns
      refine ⟨U, rfl, by rw [HGU.out]; exact Nat.le_refl _, HST.out.fin H.out HGN.out.symm (by rw [HGN.out]; exact HN.out), by have := HST.out.below; rwa [HGU.out] at this⟩
end Go.Proofs.YtoadihebdaooaaaGreat
