/- Contract of column.Append. · Contracts of column.Swap and Set. -/
import Derived.Test.YtnhlnnehpmjeiaaGreatDoorP12
import Derived.Deep.RegionLaw
namespace Go.Proofs.YtnhlnnehpmjeiaaGreatDoor
open Go.RowKit
set_option linter.unusedVariables false
theorem Tryz.info113 : (Tryz.prog.info? 113).map (fun i => (i.zero, i.size, i.bytes)) = some (some (.slice none 0 0), 1, 24) := by kernel_rfl
theorem ColMem.drewN {B : Nat} {w : World} {size cap n cb : Nat} {va : Option Addr} {vc : Nat} {gs : List Nat} {cf : Nat → Nat} (h : ColMem B w size cap n cb va vc gs cf) (m : Nat) : ColMem B (w.drewN m) size cap n cb va vc gs cf := h.out ((Out.refl (fun _ => False) w).drewN m) (by simp) (by simp) (by simp)
theorem RowsIn.drewN {w : World} {size : Nat} {rows : List (List UInt8)} {gs : List Nat} (h : RowsIn w size rows gs) (m : Nat) : RowsIn (w.drewN m) size rows gs := h
/-- The chunk that is wanted is there: the bytes are laid, and counted. -/
theorem col_push {B : Nat} {w w2 : World} {d : CD} {va : Option Addr} {vc : Nat} {gs : List Nat} {cf : Nat → Nat} {g : Nat} {arr : Array Value} (l : List UInt8) (hm : ColMem B w d.size d.cap d.rows.length d.cb va vc gs cf) (hR : RowsIn w d.size d.rows gs) (hsz : ∀ r ∈ d.rows, r.length = d.size)
    (hnum : gs.length = (d.rows.length + 1 + 15) / 16) (hcap : d.rows.length < d.cap) (hg : gs[d.rows.length / 16]? = some g) (ha : w.heap[g]? = some (.cells arr 5 (0, 0))) (hal : arr.size = cf g) (hone : ∀ u ∈ arr.toList.take (16 * d.size), u.oneCell' = true) (hl : l.length = d.size) (ho : Only g w w2)
    (hw : w2.heap[g]? = some (.cells (splice arr.toList (d.rows.length % 16 * d.size) (Lib.byteCells l)).toArray 5 (0, 0))) :
    ColAt B (w2.setCell ⟨d.cb, 2, none⟩ (.int .i64 ((d.rows.length + 1 : Nat) : Int))) { d with rows := d.rows ++ [l], va := va, vc := vc, gs := gs, cf := cf } := by
  have hgm := List.mem_of_getElem? hg
  have hoff : d.rows.length % 16 * d.size ≤ 15 * d.size := Nat.mul_le_mul_right _ (by omega)
  have hcf := hm.hcf g hgm
  have hm2 := hm.only hgm ho hw (by
    have h1 : (Lib.byteCells l).length = l.length := Lib.byteCells_length l
    have h2 : arr.toList.length = arr.size := Array.length_toList
    rw [List.size_toArray, length_splice _ _ _ (by omega)]; omega) (by
    have h1 : (Lib.byteCells l).length = l.length := Lib.byteCells_length l
    have h2 : arr.toList.length = arr.size := Array.length_toList
    rw [List.toList_toArray]; exact splice_one hone (bytes_one l) (show d.rows.length % 16 * d.size + (Lib.byteCells l).length ≤ arr.toList.length by omega))
  have hR2 : RowsIn w2 d.size (d.rows ++ [l]) gs := hR.lay hm.nd hsz hg ha hl (by omega) ho hw _ (fun i row hr => by
    by_cases h1 : i < d.rows.length
    · rw [List.getElem?_append_left h1] at hr; exact .inl ⟨by omega, hr⟩
    · rw [List.getElem?_append_right (by omega)] at hr
      by_cases h2 : i = d.rows.length
      · subst h2; simp at hr; exact .inr ⟨rfl, hr.symm⟩
      · have : i - d.rows.length ≠ 0 := by omega
        obtain ⟨j, hj⟩ : ∃ j, i - d.rows.length = j + 1 := ⟨i - d.rows.length - 1, by omega⟩
        rw [hj] at hr; simp at hr)
  have hc := hm.hcap
  have hm3 := hm2.setN (m := d.rows.length + 1) (by omega)
  have hR3 := RowsIn.setN hm2 hR2 2 (.int .i64 ((d.rows.length + 1 : Nat) : Int))
  refine ⟨by simpa using hm3, by simpa using hnum, hR3, fun r hr => ?_, by simp; omega⟩
  rcases List.mem_append.1 hr with hr | hr
  · exact hsz r hr
  · simp at hr; rw [hr]; exact hl
/-- A chunk more. -/
theorem ColMem.chunkMore {B : Nat} {w w1 : World} {size cap n cb : Nat} {va : Option Addr} {vc : Nat} {gs : List Nat} {cf : Nat → Nat} (h : ColMem B w size cap n cb va vc gs cf) {gn q vc' : Nat} (hgn : w.heap.size ≤ gn) (hB : B ≤ w.heap.size) (hl : gs.length + 1 ≤ 4097)
    {arr : Array Value} (hgr : ∀ k o, w.heap[k]? = some o → some k ≠ (Value.slice va gs.length vc).ownBlock → w1.heap[k]? = some o) (hnew : w1.heap[gn]? = some (.cells arr 5 (0, 0))) (har : arr.size = 16 * size) (h1c : ∀ u ∈ arr.toList.take (16 * size), u.oneCell' = true)
    (hown : w1.ownsRow B 113 1 (.slice (some ⟨q, 0, none⟩) (gs.length + 1) vc') (gs.length + 1) (gs.map (chunkV size cf) ++ [.slice (some ⟨gn, 0, none⟩) (16 * size) (16 * size)])) :
    ColMem B (w1.setCell ⟨cb, 3, none⟩ (.slice (some ⟨q, 0, none⟩) (gs.length + 1) vc')) size cap n cb (some ⟨q, 0, none⟩) vc' (gs ++ [gn]) (fun x => if x = gn then 16 * size else cf x) := by
  have hb1 := hgr cb _ h.blk (ownsRow_ne_block3 h.own h.blk (fun cur he => by cases he))
  have ho := Only.at w1 cb 3 (.slice (some ⟨q, 0, none⟩) (gs.length + 1) vc')
  have hno : ∀ x ∈ gs, x ≠ gn := fun x hx e => by
    subst e
    obtain ⟨_, arr', h2, _⟩ := h.chunk x hx
    have := lt_some h2
    omega
  refine ⟨?_, ?_, h.hcb, ?_, fun x hx => ?_, h.hsz, h.hn, h.hcap, by rw [List.length_append]; exact hl, fun x hx => ?_⟩
  · rw [List.length_append]
    simpa using hset w1 cb 3 (.slice (some ⟨q, 0, none⟩) (gs.length + 1) vc') _ _ _ hb1
  · rw [List.length_append, List.map_append]
    have e1 : gs.map (chunkV size fun x => if x = gn then 16 * size else cf x) = gs.map (chunkV size cf) := List.map_congr_left (fun x hx => by unfold chunkV; simp only [if_neg (hno x hx)])
    have e2 : [gn].map (chunkV size fun x => if x = gn then 16 * size else cf x) = [.slice (some ⟨gn, 0, none⟩) (16 * size) (16 * size)] := by simp [chunkV]
    rw [e1, e2]
    refine ownsRow_out hown (Out.only (F := fun b => b = cb) ho rfl) (fun x hx e => ?_)
    subst e
    exact ownsRow_ne_block3 hown hb1 (fun cur he => by cases he) hx.symm
  · rw [List.nodup_append]
    refine ⟨h.nd, by simp, fun a ha b hb => ?_⟩
    simp at hb
    subst hb
    obtain ⟨_, arr', h2, _⟩ := h.chunk a ha
    have := lt_some h2
    omega
  · rcases List.mem_append.1 hx with hx | hx
    · obtain ⟨h1, a, h2, h3⟩ := h.chunk x hx
      have := hgr x _ h2 (ownsRow_ne_block3 h.own h2 (fun cur he => by cases he))
      exact ⟨h1, a, keepO ho this (fun e => by subst e; rw [h.blk] at h2; cases h2), by simp only [if_neg (hno x hx)]; exact h3.1, h3.2⟩
    · simp at hx
      subst hx
      exact ⟨by omega, arr, keepO ho hnew (fun e => by subst e; have := lt_some h.blk; omega), by simp only [if_pos]; exact har, h1c⟩
  · rcases List.mem_append.1 hx with hx | hx
    · simp only [if_neg (hno x hx)]; exact h.hcf x hx
    · simp at hx
      subst hx
      simp only [if_pos]
      exact Nat.le_refl _
theorem make_bytes (n : Nat) (h : n ≤ 100000) (w : World) : (Instr.makeSlice 113 (.int .i64 (n : Int)) (.int .i64 (n : Int))).run Tryz.prog w = .ok (.slice (some ⟨w.heap.size, 0, none⟩) n n) (w.alloc (.cells (madeCells #[.int .u8 0] n) 5)) := by
  obtain ⟨i0, hi, hz0, hz1, hz2⟩ := info_parts Tryz.info5
  have := run_makeSlice (P := Tryz.prog) w 113 5 i0 (.int .u8 0) Tryz.underlying113 hi hz0 .i64 .i64 (n : Int) (n : Int) (by omega) (Int.le_refl _) (by rw [hz1, Int.toNat_natCast]; omega) (by rw [hz2]; omega) (by omega)
  rw [hz1, Int.toNat_natCast, Nat.mul_one] at this
  exact this
set_option maxRecDepth 100000 in
set_option maxHeartbeats 4000000 in
theorem colAppend_any (B : Nat) (w : World) (d : CD) (s : ByteArray) (h : ColAt B w d) (hs : s.size = d.size) (hc : d.rows.length < d.cap) (hB : B ≤ w.heap.size) :
    Calls Tryz.prog 177 #[.pointer (some ⟨d.cb, 0, none⟩), .string s] w fun e w' => e = .returned (.int .i64 0) ∧ ∃ va vc gs cf, ColAt B w' { d with rows := d.rows ++ [s.data.toList], va := va, vc := vc, gs := gs, cf := cf } ∧ Out d.foot w w' ∧ (∀ b, CD.foot { d with rows := d.rows ++ [s.data.toList], va := va, vc := vc, gs := gs, cf := cf } b → d.foot b ∨ w.heap.size ≤ b) := by
  obtain ⟨size, cap, rows, cb, va, vc, gs, cf⟩ := d
  simp only at hs hc ⊢
  obtain ⟨hm, hnum, hcell, hsz, hle⟩ := h
  simp only at hm hnum hcell hsz hle
  have hcap := hm.hcap
  have hsz256 := hm.hsz
  have hgl := hm.hgl
  have c0 := cell_at hm.blk 0
  have c1 := cell_at hm.blk 1
  have c2 := cell_at hm.blk 2
  have c3 := cell_at hm.blk 3
  simp at c0 c1 c2 c3
  have e1 : ((s.size : Int) != (size : Int)) = false := by rw [hs]; simp
  obtain ⟨n, hn⟩ : ∃ n, rows.length = n := ⟨_, rfl⟩
  obtain ⟨G, hG⟩ : ∃ G, gs.length = G := ⟨_, rfl⟩
  have e2 : ((n : Int) == (cap : Int)) = false := by rw [beq_eq_false_iff_ne]; omega
  rw [hn] at c2
  rw [hG] at c3
  have w1 : IntKind.i64.wrap ((G : Int) * 16) = (G : Int) * 16 := IntWalk.i64_in _ (by omega)
  rw [hn] at hnum hm hc hle
  rw [hG] at hnum
  have HM := Lib.hid hm
  have HR := Lib.hid (show RowsIn w size rows gs from hcell)
  have HSZ := Lib.hid hsz
  have HN := Lib.hid hn
  have HG := Lib.hid hG
  have HS := Lib.hid hs
  have HNUM := Lib.hid hnum
  clear hnum
  by_cases hch : n = G * 16
  · have e3 : ((n : Int) == (G : Int) * 16) = true := by rw [beq_iff_eq]; omega
    obtain ⟨i0, hi, hz0, hz1, hz2⟩ := info_parts Tryz.info113
    obtain ⟨K, hK⟩ : ∃ K, 16 * size = K := ⟨_, rfl⟩
    have hK1 : IntKind.i64.wrap (16 * (size : Int)) = (K : Int) := by rw [IntWalk.i64_in _ (by omega)]; omega
    have hK2 : K ≤ 5000 := by omega
    have hmk := make_bytes K (by omega)
    have HZ := Lib.hid (show (madeCells #[.int .u8 0] K).size = K from size_madeCells _ _)
    have HZ1 := Lib.hid (show ∀ u ∈ (madeCells #[.int .u8 0] K).toList.take (16 * size), u.oneCell' = true from fun u hu => by have hu := List.mem_of_mem_take hu; rw [toList_madeCells_one] at hu; rw [List.eq_of_mem_replicate hu]; rfl)
    generalize madeCells #[.int .u8 0] K = Z at *
    have HK := Lib.hid hK
    have HCH := Lib.hid hch
    clear hch hm hcell hsz hn hG hs hK
    go_enter Tryz.func177, Tryz.ntmps177
    go_wp2_with fail
    go_quiet (fail)
    obtain ⟨n1, rfl⟩ : ∃ n1, n1 = nq := ⟨_, rfl⟩
    go_wp2_with fail
    go_quiet (fail)
    obtain ⟨n2, rfl⟩ : ∃ n2, n2 = nq := ⟨_, rfl⟩
    go_wp2_with fail
    have hMW := (HM.out.drewN n1).drewN n2
    have hRW := (HR.out.drewN n1).drewN n2
    have hOW := ((Out.refl (CD.foot ⟨size, cap, rows, cb, va, vc, gs, cf⟩) w).drewN n1).drewN n2
    have hBW : B ≤ ((w.drewN n1).drewN n2).heap.size := hB
    clear c0 c1 c2 c3
    generalize (w.drewN n1).drewN n2 = W at *
    have c0 := cell_at hMW.blk 0
    have c3 := cell_at hMW.blk 3
    rw [HG.out] at c3
    simp at c0 c3
    have hcbW := lt_some hMW.blk
    have HMW := Lib.hid hMW
    have HRW := Lib.hid hRW
    have HOW := Lib.hid hOW
    have hown : (((W.alloc (.cells Z 5)).alloc (.cells #[.slice (some ⟨W.heap.size, 0, none⟩) K K] 113)).drew).ownsRow B 113 1 (.slice va G vc) G (gs.map (chunkV size cf)) := by
      have := ((hMW.own.alloc (.cells Z 5)).alloc (.cells #[.slice (some ⟨W.heap.size, 0, none⟩) K K] 113))
      rw [HG.out] at this
      exact this
    have hnews : ∀ j u, ([.slice (some ⟨W.heap.size, 0, none⟩) K K] : List Value)[j]? = some u → (((W.alloc (.cells Z 5)).alloc (.cells #[.slice (some ⟨W.heap.size, 0, none⟩) K K] 113)).drew).cell? ((⟨W.heap.size + 1, 0, none⟩ : Addr).add j) = some u := by
      have := World.news_of_block (w := ((W.alloc (.cells Z 5)).alloc (.cells #[.slice (some ⟨W.heap.size, 0, none⟩) K K] 113)).drew) (cs := #[.slice (some ⟨W.heap.size, 0, none⟩) K K]) (t := 113) (fr := (0, 0)) (heap_alloc_new (W.alloc (.cells Z 5)) _)
      rw [World.size_alloc] at this
      exact this
    have hd : ∀ w6, (((W.alloc (.cells Z 5)).alloc (.cells #[.slice (some ⟨W.heap.size, 0, none⟩) K K] 113)).drew).grownBy w6 (Value.slice va G vc).ownBlock → w6.cell? ⟨cb, 3, none⟩ = some (.slice va G vc) ∧ w6.cell? ⟨cb, 0, none⟩ = some (.int .i64 size) ∧ w6.frozen? ⟨cb, 3, none⟩ = false := by
      intro w6 hg6
      have hb6 := keepG hg6 (show (((W.alloc (.cells Z 5)).alloc (.cells #[.slice (some ⟨W.heap.size, 0, none⟩) K K] 113)).drew).heap[cb]? = _ from keepA _ (keepA _ HMW.out.blk)) (by
        have := ownsRow_ne_block3 HMW.out.own HMW.out.blk (fun cur he => by cases he)
        rw [HG.out] at this
        exact this)
      refine ⟨?_, ?_, free_at hb6 3⟩
      · rw [cell_at hb6, HG.out]; rfl
      · rw [cell_at hb6]; rfl
    have HOWN := Lib.hid hown
    have HNEWS := Lib.hid hnews
    have HD := Lib.hid hd
    clear hMW hRW hOW hown hnews hd
    have hG4 : G ≤ 4097 := by have := HG.out; omega
    have hm1 : G + 1 ≤ maxLen := by unfold maxLen; omega
    have hm2 : (G + 1) * 24 ≤ 140737488355328 := by omega
    go_region_law (first | (refine step_append_lies _ (by rfl) _ _ 281 (by rfl) B 113 i0 _ 1 24 Tryz.underlying281 hi hz0 hz1 hz2 rfl (by omega) (.slice va G vc) G (gs.map (chunkV size cf)) (by rfl) HOWN.out ⟨W.heap.size + 1, 0, none⟩ 1 1 [.slice (some ⟨W.heap.size, 0, none⟩) K K] (by rfl) (by rfl) HNEWS.out (by intro u hu; simp at hu; subst hu; rfl) (by omega) hm1 hm2 (by simp; omega) (W.heap.size + 2) (by simp) ?_; intro gq cap6 w6 hown6 hg6 hat6 hlt6; obtain ⟨d0, d1, d2⟩ := HD.out _ hg6))
    all_goals
      have hblk6 : ∀ k o, W.heap[k]? = some o → some k ≠ (Value.slice va gs.length vc).ownBlock → w6.heap[k]? = some o := by
        intro k o hk hne
        rw [HG.out] at hne
        exact keepG hg6 (keepA _ (keepA _ hk)) hne
      have hnew6 : w6.heap[W.heap.size]? = some (.cells Z 5 (0, 0)) := keepG hg6 (keepA _ (heap_alloc_new W _)) (fun e => by have := HOWN.out.lt _ e.symm; rw [← HG.out] at e; have h2 := HMW.out.own.lt _ e.symm; omega)
      have hm3 := HMW.out.chunkMore (Nat.le_refl _) hBW (by have h1 := HCH.out; have h2 := HG.out; omega) hblk6 hnew6 (by rw [HZ.out, HK.out]) HZ1.out (by
        rw [HG.out]
        rw [HK.out]
        exact hown6)
      rw [HG.out] at hm3
      have hout3 : Out (CD.foot ⟨size, cap, rows, cb, va, vc, gs, cf⟩) w (w6.setCell ⟨cb, 3, none⟩ (.slice (some ⟨gq, 0, none⟩) (G + 1) cap6)) := by
        have h1 : Out (CD.foot ⟨size, cap, rows, cb, va, vc, gs, cf⟩) W w6 := ⟨hg6.os, hg6.tape, hg6.output, by have := hg6.size; simp at this; omega, fun k hk hF => (hg6.block k (by simp; omega) (fun e => hF (.inr (.inl (by rw [HG.out]; exact e.symm))))).trans (by
          show (((W.alloc (.cells Z 5)).alloc (.cells #[.slice (some ⟨W.heap.size, 0, none⟩) K K] 113)).drew).heap[k]? = _
          show ((W.alloc (.cells Z 5)).alloc (.cells #[.slice (some ⟨W.heap.size, 0, none⟩) K K] 113)).heap[k]? = _
          rw [halloc, if_neg (by simp; omega), halloc, if_neg (by omega)])⟩
        exact (HOW.out.trans h1 (fun x h => .inl h)).trans (Out.only (Only.at w6 cb 3 _) (.inl rfl)) (fun x h => .inl h)
      have hrow3 : RowsIn (w6.setCell ⟨cb, 3, none⟩ (.slice (some ⟨gq, 0, none⟩) (G + 1) cap6)) size rows (gs ++ [W.heap.size]) := by
        intro i row hr g hg k x hx
        have hi := (List.getElem?_eq_some_iff.1 hr).1
        have h1 := HNUM.out
        have h2 := HN.out
        have h3 := HG.out
        rw [List.getElem?_append_left (by omega)] at hg
        have h4 := HRW.out i row hr g hg k x hx
        obtain ⟨_, a, h5, _⟩ := HMW.out.chunk g (List.mem_of_getElem? hg)
        have h6 := hblk6 g _ h5 (ownsRow_ne_block3 HMW.out.own h5 (fun cur he => by cases he))
        have h7 : g ≠ cb := fun e => by subst e; have := HMW.out.blk; rw [this] at h5; cases h5
        rw [cell_at h5] at h4
        rw [cell_at (keepO (Only.at w6 cb 3 _) h6 h7)]
        exact h4
      have hszW := HOW.out.size
      have hgn : ∃ gn, W.heap.size = gn := ⟨_, rfl⟩
      obtain ⟨gn, hgn⟩ := hgn
      rw [hgn] at hm3 hrow3 hat6 hszW
      have hlen3 : (gs ++ [gn]).length = G + 1 := by rw [List.length_append, HG.out]; rfl
      have hnG : n / 16 < G + 1 := by have := HCH.out; omega
      generalize w6.setCell ⟨cb, 3, none⟩ (.slice (some ⟨gq, 0, none⟩) (G + 1) cap6) = W3 at *
      obtain ⟨GS, hGS⟩ : ∃ GS, gs ++ [gn] = GS := ⟨_, rfl⟩
      rw [hGS] at hm3 hrow3 hlen3
      obtain ⟨cf2, hcf2⟩ : ∃ cf2 : Nat → Nat, (fun x => if x = gn then 16 * size else cf x) = cf2 := ⟨_, rfl⟩
      rw [hcf2] at hm3
      clear hcf2
      have c2 := cell_at hm3.blk 2
      simp at c2
      have HM3 := Lib.hid hm3
      have HR3 := Lib.hid hrow3
      have HO3 := Lib.hid hout3
      have HL3 := Lib.hid hlen3
      have HGS := Lib.hid hGS
      have HAT := Lib.hid hat6
      clear hm3 hrow3 hout3 hlen3 hGS hgn hat6 hblk6 hnew6 d0 d1 d2 c0 c3 hg6 hown6
      go_wp2_with fail
      obtain ⟨g, hgg⟩ : ∃ g, GS[n / 16]? = some g := ⟨_, List.getElem?_eq_getElem (by rw [HL3.out]; omega)⟩
      have HGG := Lib.hid hgg
      refine (colCell_any B _ size cap n cb _ _ GS cf2 n g HM3.out hgg).mono ?_
      rintro e w1 ⟨rfl, q, rfl⟩
      clear hgg
      obtain ⟨arr, harr, hal, hone⟩ := (HM3.out.chunk g (List.mem_of_getElem? HGG.out)).2
      have hcfg := HM3.out.hcf g (List.mem_of_getElem? HGG.out)
      have hoff : n % 16 * size + s.size ≤ arr.size := by
        have h1 : n % 16 * size ≤ 15 * size := Nat.mul_le_mul_right _ (by omega)
        have h2 := HS.out
        omega
      obtain ⟨w2, hr, ho, hh⟩ := copy_str (W3.drewN q) 3 g (n % 16 * size) (cf2 g - n % 16 * size) s arr harr hoff
      rw [HS.out] at hr
      have hm2 : ColMem B w2 size cap n cb _ _ GS cf2 := (HM3.out.drewN q).only (List.mem_of_getElem? HGG.out) ho hh (by
        have h3 : (Lib.byteCells s.data.toList).length = s.size := by rw [Lib.byteCells_length]; rfl
        have h4 : arr.toList.length = arr.size := Array.length_toList
        rw [List.size_toArray, length_splice _ _ _ (by omega)]; omega) (by
        have h3 : (Lib.byteCells s.data.toList).length = s.size := by rw [Lib.byteCells_length]; rfl
        have h4 : arr.toList.length = arr.size := Array.length_toList
        rw [List.toList_toArray]; exact splice_one hone (bytes_one s.data.toList) (show n % 16 * size + (Lib.byteCells s.data.toList).length ≤ arr.toList.length by omega))
      have d2 := cell_at hm2.blk 2
      have d3 := free_at hm2.blk 2
      simp at d2
      have HHR := Lib.hid hr
      have HHO := Lib.hid ho
      have HHH := Lib.hid hh
      have HAR := Lib.hid harr
      have HAL := Lib.hid hal
      have HONE := Lib.hid hone
      clear hr ho hh hm2 harr hal hoff hone
      go_wp2_with (first | (refine Lib.wpList_copy_run _ rfl _ _ 113 9 rfl _ _ rfl rfl HHR.out ?_))
      go_returns
      have hsl : s.data.toList.length = size := by have := HS.out; exact this
      have hcol := col_push (d := ⟨size, cap, rows, cb, va, vc, gs, cf⟩) s.data.toList (by simpa [HN.out] using HM3.out.drewN q) (HR3.out.drewN q) HSZ.out (by simp only [HN.out]; have h1 := HL3.out; have h2 := HCH.out; omega) (by simp only [HN.out]; exact hc) (by simpa [HN.out] using HGG.out) HAR.out HAL.out HONE.out hsl HHO.out (by simp only [HN.out]; exact HHH.out)
      simp only [HN.out] at hcol
      refine ⟨rfl, _, _, GS, cf2, hcol, ?_, ?_⟩
      · have hcbw := lt_some HM.out.blk
        refine ((HO3.out.drewN q).trans (Out.only (F := fun b => b ∈ GS) HHO.out (List.mem_of_getElem? HGG.out)) (fun x h => ?_)).trans (Out.only (Only.at w2 cb 2 _) (.inl rfl)) (fun x h => .inl h)
        rw [← HGS.out] at h
        rcases List.mem_append.1 h with h | h
        · exact .inl (.inr (.inr h))
        · simp at h; exact .inr (by omega)
      · intro b hb
        rcases hb with rfl | hb | hb
        · exact .inl (.inl rfl)
        · have hb' : gq = b := by simpa [Value.ownBlock] using hb
          subst hb'
          rcases HAT.out with h | h
          · exact .inl (.inr (.inl (by rw [HG.out]; exact h)))
          · exact .inr (by omega)
        · have hb' : b ∈ GS := hb
          rw [← HGS.out] at hb'
          rcases List.mem_append.1 hb' with h | h
          · exact .inl (.inr (.inr h))
          · simp at h; exact .inr (by omega)
  · have e3 : ((n : Int) == (G : Int) * 16) = false := by rw [beq_eq_false_iff_ne]; omega
    have hnG : n / 16 < G := by have := HNUM.out; omega
    clear hm hcell hsz hn hG hs hch
    go_enter Tryz.func177, Tryz.ntmps177
    go_wp2_with fail
    go_quiet (fail)
    obtain ⟨n1, rfl⟩ : ∃ n1, n1 = nq := ⟨_, rfl⟩
    go_wp2_with fail
    go_quiet (fail)
    obtain ⟨n2, rfl⟩ : ∃ n2, n2 = nq := ⟨_, rfl⟩
    have HMW := Lib.hid (HM.out.drewN (n1 + n2))
    have HRW := Lib.hid (HR.out.drewN (n1 + n2))
    go_wp2_with fail
    obtain ⟨g, hgg⟩ : ∃ g, gs[n / 16]? = some g := ⟨_, List.getElem?_eq_getElem (by have := HG.out; omega)⟩
    have HGG := Lib.hid hgg
    refine (colCell_any B _ size cap n cb _ _ gs cf n g HMW.out hgg).mono ?_
    rintro e w1 ⟨rfl, q, rfl⟩
    clear hgg
    obtain ⟨arr, harr, hal, hone⟩ := (HMW.out.chunk g (List.mem_of_getElem? HGG.out)).2
    have hcfg := HMW.out.hcf g (List.mem_of_getElem? HGG.out)
    obtain ⟨w2, hr, ho, hh⟩ := copy_str (w.drewN (n1 + n2 + q)) 3 g (n % 16 * size) (cf g - n % 16 * size) s arr harr (by
      have h1 : n % 16 * size ≤ 15 * size := Nat.mul_le_mul_right _ (by omega)
      have h2 := HS.out
      omega)
    rw [HS.out] at hr
    have hm2 : ColMem B w2 size cap n cb _ _ gs cf := (HM.out.drewN (n1 + n2 + q)).only (List.mem_of_getElem? HGG.out) ho hh (by
      have h1 : n % 16 * size ≤ 15 * size := Nat.mul_le_mul_right _ (by omega)
      have h2 := HS.out
      have h3 : (Lib.byteCells s.data.toList).length = s.size := by rw [Lib.byteCells_length]; rfl
      have h4 : arr.toList.length = arr.size := Array.length_toList
      rw [List.size_toArray, length_splice _ _ _ (by omega)]; omega) (by
      have h1 : n % 16 * size ≤ 15 * size := Nat.mul_le_mul_right _ (by omega)
      have h2 := HS.out
      have h3 : (Lib.byteCells s.data.toList).length = s.size := by rw [Lib.byteCells_length]; rfl
      have h4 : arr.toList.length = arr.size := Array.length_toList
      rw [List.toList_toArray]; exact splice_one hone (bytes_one s.data.toList) (show n % 16 * size + (Lib.byteCells s.data.toList).length ≤ arr.toList.length by omega))
    have d2 := cell_at hm2.blk 2
    have d3 := free_at hm2.blk 2
    simp at d2
    have HHR := Lib.hid hr
    have HHO := Lib.hid ho
    have HHH := Lib.hid hh
    have HAR := Lib.hid harr
    have HAL := Lib.hid hal
    have HONE := Lib.hid hone
    clear hr ho hh hm2 harr hal hone
    go_wp2_with (first | (refine Lib.wpList_copy_run _ rfl _ _ 113 9 rfl _ _ rfl rfl HHR.out ?_))
    go_returns
    have hsl : s.data.toList.length = size := by have := HS.out; exact this
    have hcol := col_push (d := ⟨size, cap, rows, cb, va, vc, gs, cf⟩) s.data.toList (by simpa [HN.out] using HM.out.drewN (n1 + n2 + q)) (HR.out.drewN (n1 + n2 + q)) HSZ.out (by simp only [HN.out]; have h1 := HNUM.out; have h2 := HG.out; omega) (by simp only [HN.out]; exact hc) (by simpa [HN.out] using HGG.out) HAR.out HAL.out HONE.out hsl HHO.out (by simp only [HN.out]; exact HHH.out)
    simp only [HN.out] at hcol
    refine ⟨rfl, _, _, gs, cf, hcol, ?_, ?_⟩
    · exact (((Out.refl (CD.foot ⟨size, cap, rows, cb, va, vc, gs, cf⟩) w).drewN _).trans (Out.only HHO.out (.inr (.inr (List.mem_of_getElem? HGG.out)))) (fun x h => .inl h)).trans (Out.only (Only.at w2 cb 2 _) (.inl rfl)) (fun x h => .inl h)
    · exact fun b hb => .inl hb
end Go.Proofs.YtnhlnnehpmjeiaaGreatDoor
namespace Go.Proofs.YtnhlnnehpmjeiaaGreatDoor
open Go.RowKit
set_option linter.unusedVariables false
theorem Out.drew {F : Nat → Prop} {a b : World} (h : Out F a b) : Out F a b.drew := ⟨h.os, h.tape, h.output, h.size, h.block⟩
theorem copy_sl (w : World) (ty : TypeId) (g off cap g2 off2 cap2 : Nat) (l : List UInt8) (arr : Array Value) (hg : w.heap[g]? = some (.cells arr 5 (0, 0))) (hfit : off + l.length ≤ arr.size) (hsrc : ∀ (k : Nat) (x : UInt8), l[k]? = some x → w.cell? ⟨g2, off2 + k, none⟩ = some (.int .u8 x.toNat)) :
    ∃ w', (Builtin.copy_ #[113, 113] ty #[.slice (some ⟨g, off, none⟩) l.length cap, .slice (some ⟨g2, off2, none⟩) l.length cap2]).run Tryz.prog w = .ok (goInt l.length) w' ∧ Only g w w' ∧ w'.heap[g]? = some (.cells (splice arr.toList off (Lib.byteCells l)).toArray 5 (0, 0)) := by
  have hlen : (Lib.byteCells l).length = l.length := Lib.byteCells_length l
  have hr := run_copy_row (P := Tryz.prog) w 113 113 ty 5 g off l.length cap ⟨g2, off2, none⟩ l.length cap2 arr 5 (Lib.byteCells l) Tryz.underlying113 (by kernel_rfl) hg (by rw [hlen]; exact (Nat.min_self _).symm) (fun j v hv => by
    have : (⟨g2, off2, none⟩ : Addr).add j = ⟨g2, off2 + j, none⟩ := by simp [Addr.add]
    rw [this]
    simp only [Lib.byteCells, List.getElem?_map, Option.map_eq_some_iff] at hv
    obtain ⟨x, hx, rfl⟩ := hv
    exact hsrc j x hx) (by rw [hlen]; exact hfit) (Lib.byteCells_one l)
  rw [hlen] at hr
  refine ⟨_, hr, Only.setRow _ _ _, ?_⟩
  rw [setRow_heap w g _ _ _ _ hg]
  simp [splice, hlen]
theorem ownsRow_shrink {w : World} {b : Nat} {e : TypeId} {va : Option Addr} {n vc m : Nat} {xs : List Value} (h : w.ownsRow b e 1 (.slice va n vc) n xs) (hm : m ≤ n) (h0 : 0 < n) : w.ownsRow b e 1 (.slice va m vc) m (xs.take m) := by
  obtain ⟨h1, h2⟩ := h
  refine ⟨by rw [List.length_take]; omega, ?_⟩
  rcases h2 with ⟨_, h3⟩ | ⟨g, cap, cur, hv, hg, hh, hc1, hc2, hc3, hc4⟩
  · omega
  · cases hv
    exact .inr ⟨g, vc, cur, rfl, hg, hh, by omega, hc2, hc3, by rw [← hc4, List.take_take]; congr 1; omega⟩
theorem ColMem.shrink {B : Nat} {w : World} {size cap n cb : Nat} {va : Option Addr} {vc : Nat} {gs : List Nat} {cf : Nat → Nat} {G : Nat} (h : ColMem B w size cap n cb va vc gs cf) (hG : gs.length = G + 1) : ColMem B (w.setCell ⟨cb, 3, none⟩ (.slice va G vc)) size cap n cb va vc (gs.take G) cf := by
  have ho := Only.at w cb 3 (.slice va G vc)
  have hl : (gs.take G).length = G := by rw [List.length_take]; omega
  refine ⟨?_, ?_, h.hcb, h.nd.sublist (List.take_sublist _ _), fun x hx => ?_, h.hsz, h.hn, h.hcap, by rw [hl]; have := h.hgl; omega, fun x hx => h.hcf x (List.mem_of_mem_take hx)⟩
  · rw [hl]
    simpa using hset w cb 3 (.slice va G vc) _ _ _ h.blk
  · rw [hl]
    have := ownsRow_shrink h.own (show G ≤ gs.length by omega) (by omega)
    rw [← List.map_take] at this
    refine ownsRow_out this (Out.only (F := fun b => b = cb) ho rfl) (fun x hx e => ?_)
    subst e
    exact ownsRow_ne_block3 this h.blk (fun cur he => by cases he) hx.symm
  · obtain ⟨h1, a, h2, h3⟩ := h.chunk x (List.mem_of_mem_take hx)
    exact ⟨h1, a, keepO ho h2 (fun e => by subst e; rw [h.blk] at h2; cases h2), h3⟩
theorem RowsIn.sub {w : World} {size : Nat} {rows rows' : List (List UInt8)} {gs gs' : List Nat} (h : RowsIn w size rows gs) (h1 : ∀ (i : Nat) (r : List UInt8), rows'[i]? = some r → rows[i]? = some r) (h2 : ∀ (i g : Nat), gs'[i]? = some g → gs[i]? = some g) : RowsIn w size rows' gs' :=
  fun i row hr g hg k x hx => h i row (h1 i row hr) g (h2 _ g hg) k x hx
theorem take_sub {α : Type} {l : List α} {m i : Nat} {x : α} (h : (l.take m)[i]? = some x) : l[i]? = some x := by
  rw [List.getElem?_take] at h
  split at h
  · exact h
  · cases h
set_option maxRecDepth 100000 in
set_option maxHeartbeats 400000 in
theorem colSwap_any (B : Nat) (w : World) (d : CD) (i m : Nat) (l : List UInt8) (h : ColAt B w d) (hi : i ≤ m) (hm : d.rows.length = m + 1) (hl : d.rows[m]? = some l) :
    Calls Tryz.prog 179 #[.pointer (some ⟨d.cb, 0, none⟩), .int .i64 (i : Int)] w fun e w' => e = .returned (.tuple #[.int .i64 (m : Int), .int .i64 0]) ∧ ∃ gs, ColAt B w' { d with rows := (d.rows.set i l).take m, gs := gs } ∧ Out d.foot w w' ∧ (∀ b, CD.foot { d with rows := (d.rows.set i l).take m, gs := gs } b → d.foot b) := by
  obtain ⟨size, cap, rows, cb, va, vc, gs, cf⟩ := d
  simp only at hm hl ⊢
  obtain ⟨hmm, hnum, hcell, hsz, hle⟩ := h
  simp only at hmm hnum hcell hsz hle
  have hchk := colCheck_any size cap rows.length cb _ (i : Int) w hmm.blk
  rw [if_pos ⟨by omega, by omega⟩] at hchk
  have HCHK := Lib.hid hchk
  have hsz256 := hmm.hsz
  have hcap := hmm.hcap
  have c2 := cell_at hmm.blk 2
  rw [hm] at c2
  simp at c2
  obtain ⟨g, hgg⟩ : ∃ g, gs[i / 16]? = some g := ⟨_, List.getElem?_eq_getElem (by omega)⟩
  obtain ⟨g2, hgg2⟩ : ∃ g2, gs[m / 16]? = some g2 := ⟨_, List.getElem?_eq_getElem (by omega)⟩
  obtain ⟨arr, harr, hal, hone⟩ := (hmm.chunk g (List.mem_of_getElem? hgg)).2
  have hsl : l.length = size := hsz l (List.mem_of_getElem? hl)
  have hcfg := hmm.hcf g (List.mem_of_getElem? hgg)
  have hoff : i % 16 * size + l.length ≤ arr.size := by
    have h1 : i % 16 * size ≤ 15 * size := Nat.mul_le_mul_right _ (by omega)
    omega
  have hmem : g ∈ gs := List.mem_of_getElem? hgg
  have hsrc : ∀ (k : Nat) (x : UInt8), l[k]? = some x → w.cell? ⟨g2, m % 16 * size + k, none⟩ = some (.int .u8 x.toNat) := hcell m l hl g2 hgg2
  have HM := Lib.hid hmm
  have HR := Lib.hid (show RowsIn w size rows gs from hcell)
  have HSZ := Lib.hid hsz
  have HSL := Lib.hid hsl
  have HLM := Lib.hid hm
  have HNUM := Lib.hid hnum
  have HGG := Lib.hid hgg
  have HGG2 := Lib.hid hgg2
  have HAR := Lib.hid harr
  have HAL := Lib.hid hal
  have HONE := Lib.hid hone
  have HSRC := Lib.hid hsrc
  have HLE := Lib.hid hle
  have hmb : m < 65536 := by omega
  clear hmm hcell hsz hsl hnum hgg hgg2 harr hal hchk hsrc hl hm hle hone
  go_enter Tryz.func179, Tryz.ntmps179
  go_wp2_with fail
  refine HCHK.out.mono ?_
  rintro e w1 ⟨rfl, rfl⟩
  clear HCHK
  go_wp2_with fail
  refine (colCell_any B _ size cap rows.length cb _ _ gs cf i g HM.out HGG.out).mono ?_
  rintro e w1 ⟨rfl, q, rfl⟩
  go_wp2_with fail
  refine (colCell_any B _ size cap rows.length cb _ _ gs cf m g2 (HM.out.drewN q) HGG2.out).mono ?_
  rintro e w1 ⟨rfl, q2, rfl⟩
  obtain ⟨w2, hr, ho, hh⟩ := copy_sl (w.drewN (q + q2)) 3 g (i % 16 * size) (cf g - i % 16 * size) g2 (m % 16 * size) (cf g2 - m % 16 * size) l arr HAR.out hoff HSRC.out
  rw [HSL.out] at hr
  have hasz : (splice arr.toList (i % 16 * size) (Lib.byteCells l)).toArray.size = cf g := by
    have h3 : (Lib.byteCells l).length = l.length := Lib.byteCells_length l
    have h4 : arr.toList.length = arr.size := Array.length_toList
    have h5 := HAL.out
    rw [List.size_toArray, length_splice _ _ _ (by omega)]; omega
  have hm2 := (HM.out.drewN (q + q2)).only hmem ho hh hasz (by
    have h3 : (Lib.byteCells l).length = l.length := Lib.byteCells_length l
    have h4 : arr.toList.length = arr.size := Array.length_toList
    rw [List.toList_toArray]; exact splice_one HONE.out (bytes_one l) (show i % 16 * size + (Lib.byteCells l).length ≤ arr.toList.length by omega))
  have d2 := cell_at hm2.blk 2
  have d3 := cell_at hm2.blk 3
  have f2 := free_at hm2.blk 2
  have f3 := free_at hm2.blk 3
  simp at d2 d3
  have HHR := Lib.hid hr
  have HHO := Lib.hid ho
  have HHH := Lib.hid hh
  have HM2 := Lib.hid hm2
  clear hr ho hh hm2
  go_wp2_with (first | (refine Lib.wpList_copy_run _ rfl _ _ 113 113 rfl _ _ rfl rfl HHR.out ?_))
  all_goals
    have hrow2 : RowsIn w2 size (rows.set i l) gs := (HR.out.drewN (q + q2)).lay HM.out.nd HSZ.out HGG.out HAR.out HSL.out (by have := HAL.out; omega) HHO.out HHH.out _ (fun j row hj => by
      by_cases e : j = i
      · subst e
        rw [List.getElem?_set_self (by have := HLM.out; omega)] at hj
        cases hj
        exact .inr ⟨rfl, rfl⟩
      · rw [List.getElem?_set_ne (Ne.symm e)] at hj
        exact .inl ⟨e, hj⟩)
    have hm3 := HM2.out.setN (m := m) (by omega)
    have hrow3 := RowsIn.setN HM2.out hrow2 2 (.int .i64 (m : Int))
    have hout3 : Out (CD.foot ⟨size, cap, rows, cb, va, vc, gs, cf⟩) w (w2.setCell ⟨cb, 2, none⟩ (.int .i64 (m : Int))) := (((Out.refl _ w).drewN _).trans (Out.only HHO.out (.inr (.inr hmem))) (fun x h => .inl h)).trans (Out.only (Only.at w2 cb 2 _) (.inl rfl)) (fun x h => .inl h)
    have hsz3 : ∀ r ∈ (rows.set i l).take m, r.length = size := fun r hr => by
      rcases List.mem_or_eq_of_mem_set (List.mem_of_mem_take hr) with hr | rfl
      · exact HSZ.out r hr
      · exact HSL.out
    have hlen3 : ((rows.set i l).take m).length = m := by rw [List.length_take, List.length_set]; have := HLM.out; omega
    generalize w2.setCell ⟨cb, 2, none⟩ (.int .i64 (m : Int)) = W3 at *
    have HM3 := Lib.hid hm3
    have HR3 := Lib.hid hrow3
    have HO3 := Lib.hid hout3
    have HS3 := Lib.hid hsz3
    have HL3 := Lib.hid hlen3
    clear hrow2 hm3 hrow3 hout3 hsz3 hlen3 HHR HHO HHH HM2 d2 d3 f2 f3
  · have hdiv : m % 16 = 0 := by
      have : ((m : Int) % 16 == 0) = true := by assumption
      rw [beq_iff_eq] at this; omega
    obtain ⟨G, hG⟩ : ∃ G, gs.length = G + 1 := ⟨gs.length - 1, by have := HGG.out; have := (List.getElem?_eq_some_iff.1 this).1; omega⟩
    have hGm : G * 16 = m := by have h1 := HNUM.out; have h2 := HLM.out; omega
    have c3 := cell_at HM3.out.blk 3
    have f3 := free_at HM3.out.blk 3
    rw [hG] at c3
    simp at c3
    have hgl := HM3.out.hgl
    have hG1 : G ≤ 5000 := by omega
    have hw1 : IntKind.i64.wrap (G : Int) = (G : Int) := IntWalk.i64_in _ (by omega)
    have i1 : (0 : Int) ≤ (G : Int) := by omega
    have hvc : G + 1 ≤ vc := by
      rcases HM3.out.own.2 with ⟨_, h0⟩ | ⟨q0, cap', cur', h1, _, _, h4, _⟩
      · omega
      · cases h1; omega
    have i2 : (G : Int) ≤ (vc : Int) := by omega
    have HGL := Lib.hid hG
    have HGM := Lib.hid hGm
    have HDIV := Lib.hid hdiv
    clear hG hGm hdiv hgl
    go_region_law (fail)
    all_goals
      go_wp2_with fail
      go_ret2
      have hms := (HM3.out.shrink HGL.out).out ((Out.refl (fun _ => False) _).drew) (by simp) (by simp) (by simp)
      have hrs := RowsIn.setN HM3.out HR3.out 3 (.slice va G vc)
      have hlg : (gs.take G).length = G := by rw [List.length_take]; have := HGL.out; omega
      refine ⟨rfl, gs.take G, ⟨by simpa [HL3.out] using hms, by simp only [HL3.out]; have h1 := HGM.out; omega, RowsIn.sub hrs (fun i r h => take_sub h) (fun i g h => take_sub h), HS3.out, by simp only [HL3.out]; have h1 := HLE.out; have h2 := HLM.out; omega⟩, ?_, fun b hb => ?_⟩
      · exact (HO3.out.trans (Out.only (Only.at W3 cb 3 _) (.inl rfl)) (fun x h => .inl h)).drew
      · rcases hb with rfl | hb | hb
        · exact .inl rfl
        · refine .inr (.inl ?_)
          show (Value.slice va gs.length vc).ownBlock = some b
          cases va with
          | none => cases hb
          | some a => exact hb
        · exact .inr (.inr (List.mem_of_mem_take hb))
  · have hdiv : ¬ m % 16 = 0 := by
      have : ((m : Int) % 16 == 0) = false := by assumption
      rw [beq_eq_false_iff_ne] at this; omega
    go_ret2
    refine ⟨rfl, gs, ⟨by simpa [HL3.out] using HM3.out, by simp only [HL3.out]; have h1 := HNUM.out; have h2 := HLM.out; omega, HR3.out.sub (fun i r h => take_sub h) (fun i g h => h), HS3.out, by simp only [HL3.out]; have h1 := HLE.out; have h2 := HLM.out; omega⟩, HO3.out, fun b hb => hb⟩
end Go.Proofs.YtnhlnnehpmjeiaaGreatDoor
