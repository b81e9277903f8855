/- Contract of the document's graph's Make. -/
import Derived.Test.YtoadihebdaooaaaGreatR5
import Derived.Laws.AppendOwnNone
namespace Go.Proofs.YtoadihebdaooaaaGreat
open Go.RowKit
set_option linter.unusedVariables false
theorem gby_setCell (w : World) (a : Addr) (u : Value) : w.grownBy (w.setCell a u) (some a.block) := ⟨rfl, rfl, rfl, by simp [World.setCell], fun k _ hk => hset_ne w a u k (fun e => hk (by rw [e]))⟩
theorem gby_trans {a b c : World} {row : Option Nat} (h : a.grownBy b row) (k : b.grownBy c row) : a.grownBy c row :=
  ⟨k.os.trans h.os, k.tape.trans h.tape, k.output.trans h.output, Nat.le_trans h.size k.size, fun i hi hn => (k.block i (Nat.lt_of_lt_of_le hi h.size) hn).trans (h.block i hi hn)⟩
theorem gby_below {a b : World} (h : Below a.heap.size a b) (row : Option Nat) : a.grownBy b row := ⟨h.os, h.tape, h.output, h.size, fun k hk _ => h.block k hk⟩
def idsOk (cs : List Cmp) (l : List Int) : Bool := l.all fun i => decide (0 ≤ idxF i 0 cs)
/-- The document's Make. -/
def makeR (r : RG) (s : Int) : RG × Int × Int :=
  match posOf s r.L with
  | some i => (r, (i : Int), 0)
  | none => if is10 s = true ∧ idsOk r.cs (ids10 s 24) = true then (if r.archs ≤ r.L.length then (r, 0, 5) else ({ r with L := r.L ++ [s] }, (r.L.length : Int), 0)) else (r, 0, 6)
def IsMake17 (B ub : Nat) (r : RG) (s : Int) (w : World) (e : Ending) (w' : World) : Prop :=
  e = .returned (.tuple #[.int .i64 (makeR r s).2.1, .int .i64 (makeR r s).2.2]) ∧ RGr B ub (makeR r s).1 w' ∧ w.grownBy w' (some ub)
def mk17R (ub ig k n ic cl cc : Nat) (ca : Option Addr) (ver x z : Int) : List (Value → World → Prop) :=
  [ IsV (.pointer (some ⟨ub, 0, none⟩)),
    IsV (.pointer (some ⟨ub, 0, none⟩)),
    IsV (.pointer (some ⟨ub, 0, none⟩)),
    IsV (.agg #[.int .i64 ver, .slice ca cl cc]),
    IsV (.slice (some ⟨ig, 0, none⟩) n ic),
    IsV (.int .i64 k),
    IsV (.pointer (some ⟨ig, k, none⟩)),
    IsV (.int .i64 x),
    IsV (.int .i64 z),
    IsV (.bool (decide (z < 0))) ]
theorem mk17R_lasts (ub ig k n ic cl cc : Nat) (ca : Option Addr) (ver x z : Int) : ∀ p ∈ mk17R ub ig k n ic cl cc ca ver x z, Lasts p := by
  simp only [mk17R, List.mem_cons, List.not_mem_nil, or_false]
  rintro p (rfl | rfl | rfl | rfl | rfl | rfl | rfl | rfl | rfl | rfl) <;> exact lasts_v _
theorem Tryz.info34 : (Tryz.prog.info? 34).map (fun i => (i.zero, i.size, i.bytes)) = some (some (.int .u32 0), 1, 4) := by kernel_rfl
theorem row_news {w : World} {base : Nat} {e : TypeId} {ad : Addr} {n vc : Nat} {xs : List Value} (h : w.ownsRow base e 1 (.slice (some ad) n vc) n xs) : ∀ j u, xs[j]? = some u → w.cell? (ad.add j) = some u := by
  intro j u hj
  obtain ⟨q, hq, hc⟩ := row_get h hj
  cases hq
  rw [show (⟨q, 0, none⟩ : Addr).add j = ⟨q, j, none⟩ by unfold Addr.add; split <;> simp_all]
  exact hc
theorem ownsRow_setCell_ne {w : World} {base : Nat} {e : TypeId} {size : Nat} {v : Value} {n : Nat} {xs : List Value} (h : w.ownsRow base e size v n xs) {a : Addr} (hn : v.ownBlock = none ∨ v.ownBlock ≠ some a.block) (u : Value) : (w.setCell a u).ownsRow base e size v n xs := h.kept (gby_setCell w a u) hn
/-- What Make leaves when it has laid a new row. -/
theorem rg_put {B ub : Nat} {r : RG} {w w' : World} {ca : Option Addr} {cl cc : Nat} {la : Option Addr} {lc : Nat} {wa : Option Addr} {wc : Nat} (h : RGAt B ub r w ca cl cc la lc wa wc) (hb : Below w.heap.size w w') {s : Int} {va : Option Addr} {vc : Nat}
    (ho : w'.ownsRow w.heap.size 34 1 (.slice va (r.L.length + 1) vc) (r.L.length + 1) (r.L.map (.int .u32) ++ [.int .u32 s])) (hl : r.L.length ≤ 900) : RGr B ub { r with L := r.L ++ [s] } (w'.setCell ⟨ub, 3, none⟩ (.slice va (r.L.length + 1) vc)) := by
  have h' := h.below hb
  have hlt := lt_some h.blk
  have hBw : B ≤ w.heap.size := by have := h.lt; omega
  refine ⟨ca, cl, cc, va, vc, wa, wc, ⟨?_, ?_, ?_, ?_, h.lt, by simp; omega, h.sW, h.nw⟩⟩
  · rw [List.length_append]
    exact (hset _ _ _ _ _ _ _ h'.blk).trans rfl
  · exact h'.comps.below (Below.setCell (Below.refl _ _) h.lt _)
  · rw [List.length_append, List.map_append]
    exact ownsRow_mono (ownsRow_setCell_below ho (by simpa using hlt) _) hBw
  · refine ownsRow_setCell_ne h'.ways ?_ _
    refine .inr (fun e => ?_)
    exact (ownsRow_ne_block h'.ways h'.blk (fun cur hc => by cases hc)) e.symm
set_option maxRecDepth 100000 in
set_option maxHeartbeats 4000000 in
theorem make17_any (B ub : Nat) (r : RG) (s : Int) (w : World) (h : RGr B ub r w) (h0 : 0 ≤ s) (hs : s ≤ 4294967295) (hL : r.L.length ≤ 900) : Calls Tryz.prog 22 #[.pointer (some ⟨ub, 0, none⟩), .int .u32 s] w (IsMake17 B ub r s w) := by
  obtain ⟨i0, hi, hz0, hz1, hz2⟩ := info_parts Tryz.info34
  have HR := Lib.hid h
  clear h
  go_enter Tryz.func22, Tryz.ntmps22
  go_wp2_with fail
  refine (find17_any B ub r s _ HR.out).mono ?_
  rintro e w' ⟨rfl, rfl⟩
  cases hp : posOf s r.L with
  | some i =>
    have HZ : Hid (posZ s r.L = i) := Lib.hid (by unfold posZ; rw [hp])
    have HM : Hid (makeR r s = (r, (i : Int), 0)) := Lib.hid (by unfold makeR; rw [hp])
    clear hp
    rw [HZ.out]
    have t1 : (0 : Int) ≤ (i : Int) := by omega
    go_wp2_with fail
    go_returns
    unfold IsMake17; rw [HM.out]; exact ⟨rfl, HR.out, gby_below (Below.refl _ _) _⟩
  | none =>
    have HZ : Hid (posZ s r.L = -1) := Lib.hid (by unfold posZ; rw [hp])
    have HM : Hid (makeR r s = if is10 s = true ∧ idsOk r.cs (ids10 s 24) = true then (if r.archs ≤ r.L.length then (r, 0, 5) else ({ r with L := r.L ++ [s] }, (r.L.length : Int), 0)) else (r, 0, 6)) := Lib.hid (by unfold makeR; rw [hp])
    clear hp
    rw [HZ.out]
    go_wp2_with fail
    refine (is10_any s _ h0 hs).mono ?_
    rintro e w1 ⟨rfl, hb1⟩
    cases his : is10 s
    · have H6 : Hid (makeR r s = (r, 0, 6)) := Lib.hid (by rw [HM.out, if_neg (by rw [his]; simp)])
      clear his
      go_wp2_with fail
      go_returns
      unfold IsMake17; rw [H6.out]; exact ⟨rfl, HR.out.below hb1, gby_below hb1 _⟩
    · have HIS := Lib.hid his
      clear his
      go_wp2_with fail
      refine (ids10_any s _ h0 hs).mono ?_
      rintro e w2 ⟨ia, n, ic, rfl, hn, hids, hb2⟩
      have hn24 : n ≤ 24 := by have := ids10_len s 24; omega
      have HN := Lib.hid hn
      have hb12 := hb1.trans (hb2.mono hb1.size)
      have HR2 := Lib.hid (HR.out.below hb12)
      have HI := Lib.hid hids
      have HB := Lib.hid hb12
      clear hn hids hb12 hb1 hb2
      go_wp2_with fail
      go_loopw [8] (fun i wr => ∃ k : Nat, k ≤ n ∧ i = .int .i64 k ∧ (∀ j x, j < k → (ids10 s 24)[j]? = some x → 0 ≤ idxF x 0 r.cs) ∧ Below w2.heap.size w2 wr) (fun i _ => n - (intOf i).toNat)
      case atStart => exact ⟨0, by omega, rfl, fun j x h => by omega, Below.refl _ _⟩
      case round =>
        obtain ⟨k, hk, rfl, hall, hbw⟩ := hrel
        have HALL := Lib.hid hall
        have HBW := Lib.hid hbw
        obtain ⟨ca, cl, cc, la, lc, wa, wc, hg⟩ := HR2.out.below hbw
        have HG := Lib.hid hg
        clear hall hbw hg
        by_cases hlt : k < n
        · obtain ⟨x, hx⟩ : ∃ x, (ids10 s 24)[k]? = some x := ⟨_, List.getElem?_eq_getElem (by have := HN.out; omega)⟩
          have hrow := ownsRow_below HI.out HBW.out
          obtain ⟨ig, rfl, hiq⟩ := row_get hrow (k := k) (u := .int .i64 x) (by rw [List.getElem?_map, hx]; rfl)
          have HX := Lib.hid hx
          have HQ := Lib.hid hiq
          have hql := World.block_lt_of_cell? wr _ hiq
          obtain ⟨z, hz⟩ : ∃ z, idxF x 0 r.cs = z := ⟨_, rfl⟩
          have HZ := Lib.hid hz
          have i1 : (0 : Int) ≤ (k : Int) := by omega
          have i2 : (k : Int) < (n : Int) := by omega
          clear hx hrow hiq hz
          go_wp2_with fail
          refine wp_region_grow (by kernel_rfl) (by kernel_rfl) (by kernel_rfl) (byList (mk17R ub ig k n ic cl cc ca r.ver x z)) (lasts_list (mk17R_lasts ub ig k n ic cl cc ca r.ver x z)) ?_ ?_
          · intro vs w1' i o hb ho hd
            simp only [putAll, Act.put, List.setIfInBounds_toArray, List.set_cons_succ, List.set_cons_zero]
            have hg := HG.out.below hb
            have c0 := cell_at hg.blk 0
            have c1 := cell_at hg.blk 1
            simp at c0 c1
            have q0 := (hb.cell (p := ⟨ig, k, none⟩) hql).trans HQ.out
            have HCS : Hid (CompsAt w1'.heap.size w1' ca cl r.cs) := Lib.hid (hg.comps.mono (by have := lt_some hg.blk; have := hg.lt; omega))
            clear hb hg
            revert ho hd
            match i with
            | 0 =>
              intro ho hd
              obtain rfl := (Option.some.inj ho).symm
              clear hd ho
              refine step_open rfl ?_
              go_simp
              exact ⟨rfl, Below.refl _ _⟩
            | 1 =>
              intro ho hd
              obtain rfl := (Option.some.inj ho).symm
              have d0 : vs 0 = (.pointer (some ⟨ub, 0, none⟩)) := hd ⟨0, .data⟩ (by simp) rfl
              clear hd ho
              rw [d0]
              refine step_open rfl ?_
              go_simp
              exact ⟨rfl, Below.refl _ _⟩
            | 2 =>
              intro ho hd
              obtain rfl := (Option.some.inj ho).symm
              have d1 : vs 1 = (.pointer (some ⟨ub, 0, none⟩)) := hd ⟨1, .data⟩ (by simp) rfl
              clear hd ho
              rw [d1]
              refine step_open rfl ?_
              go_simp
              exact ⟨rfl, Below.refl _ _⟩
            | 3 =>
              intro ho hd
              obtain rfl := (Option.some.inj ho).symm
              have d2 : vs 2 = (.pointer (some ⟨ub, 0, none⟩)) := hd ⟨2, .data⟩ (by simp) rfl
              clear hd ho
              rw [d2]
              refine step_open rfl ?_
              go_simp
              exact ⟨rfl, Below.refl _ _⟩
            | 4 =>
              intro ho hd
              obtain rfl := (Option.some.inj ho).symm
              clear hd ho
              refine step_open rfl ?_
              go_simp
              exact ⟨rfl, Below.refl _ _⟩
            | 5 =>
              intro ho hd
              obtain rfl := (Option.some.inj ho).symm
              clear hd ho
              refine step_open rfl ?_
              go_simp
              exact ⟨rfl, Below.refl _ _⟩
            | 6 =>
              intro ho hd
              obtain rfl := (Option.some.inj ho).symm
              have d4 : vs 4 = (.slice (some ⟨ig, 0, none⟩) n ic) := hd ⟨4, .data⟩ (by simp) rfl
              have d5 : vs 5 = (.int .i64 k) := hd ⟨5, .data⟩ (by simp) rfl
              clear hd ho
              rw [d4, d5]
              refine step_open rfl ?_
              go_simp
              exact ⟨rfl, Below.refl _ _⟩
            | 7 =>
              intro ho hd
              obtain rfl := (Option.some.inj ho).symm
              have d6 : vs 6 = (.pointer (some ⟨ig, k, none⟩)) := hd ⟨6, .data⟩ (by simp) rfl
              clear hd ho
              rw [d6]
              refine step_open rfl ?_
              go_simp
              exact ⟨rfl, Below.refl _ _⟩
            | 8 =>
              intro ho hd
              obtain rfl := (Option.some.inj ho).symm
              have d3 : vs 3 = (.agg #[.int .i64 r.ver, .slice ca cl cc]) := hd ⟨3, .data⟩ (by simp) rfl
              have d7 : vs 7 = (.int .i64 x) := hd ⟨7, .data⟩ (by simp) rfl
              clear hd ho
              rw [d3, d7]
              refine step_open rfl ?_
              go_simp
              refine (find07_any _ _ r.cs _ _ _ w1' HCS.out).mono ?_
              rintro e w2 ⟨rfl, hb2⟩
              rw [HZ.out]
              exact ⟨rfl, hb2⟩
            | 9 =>
              intro ho hd
              obtain rfl := (Option.some.inj ho).symm
              have d8 : vs 8 = (.int .i64 z) := hd ⟨8, .data⟩ (by simp) rfl
              clear hd ho
              rw [d8]
              refine step_open rfl ?_
              go_simp
              exact ⟨rfl, Below.refl _ _⟩
            | n + 10 =>
              intro ho hd
              simp at ho
          · intro vs w1' hb hR
            have hv : vs 9 = .bool (decide (z < 0)) := hR 9 (by simp)
            have HB2 := Lib.hid (HBW.out.trans (hb.mono HBW.out.size))
            simp only [putAll, Act.put, List.setIfInBounds_toArray, List.set_cons_succ, List.set_cons_zero]
            rw [hv]
            clear hR hb hv
            rcases (by omega : z < 0 ∨ 0 ≤ z) with hz | hz
            · have e1 : decide (z < 0) = true := by simp; omega
              have H6 : Hid (makeR r s = (r, 0, 6)) := Lib.hid (by
                rw [HM.out, if_neg]
                rintro ⟨_, hk⟩
                unfold idsOk at hk
                rw [List.all_eq_true] at hk
                have := hk x (List.mem_of_getElem? HX.out)
                simp [HZ.out] at this
                omega)
              go_wp2_with fail
              go_returns
              unfold IsMake17; rw [H6.out]; exact ⟨rfl, HR2.out.below HB2.out, gby_below (HB.out.trans (HB2.out.mono HB.out.size)) _⟩
            · have e1 : decide (z < 0) = false := by simp; omega
              go_wp2_with fail
              go_roundw
              case rel =>
                refine ⟨k + 1, by omega, by go_num, fun j y hj hy => ?_, HB2.out⟩
                rcases (by omega : j < k ∨ j = k) with h | rfl
                · exact HALL.out j y h hy
                · rw [HX.out] at hy; cases hy; rw [HZ.out]; exact hz
              case measure => simp [intOf]; omega
        · obtain rfl : k = n := by omega
          have HOK : Hid (idsOk r.cs (ids10 s 24) = true) := Lib.hid (by
            unfold idsOk; rw [List.all_eq_true]; intro x hx
            obtain ⟨j, hj⟩ := List.getElem?_of_mem hx
            have := HALL.out j x (by have := (List.getElem?_eq_some_iff.1 hj).1; have := HN.out; omega) hj
            simpa using this)
          have c2 := cell_at HG.out.blk 2
          have c3 := cell_at HG.out.blk 3
          have f3 := free_at HG.out.blk 3
          simp at c2 c3
          have HM2 : Hid (makeR r s = if r.archs ≤ r.L.length then (r, 0, 5) else ({ r with L := r.L ++ [s] }, (r.L.length : Int), 0)) := Lib.hid (by rw [HM.out, if_pos ⟨HIS.out, HOK.out⟩])
          have HBX := Lib.hid (HB.out.trans (HBW.out.mono HB.out.size))
          generalize hLn : r.L.length = m at *
          have HLn := Lib.hid hLn
          clear hLn HALL
          rcases (by omega : r.archs ≤ (m : Int) ∨ (m : Int) < r.archs) with hr | hr
          · have H5 : Hid (makeR r s = (r, 0, 5)) := Lib.hid (by rw [HM2.out, if_pos hr])
            go_wp2_with fail
            go_quiet (fail)
            go_wp2_with fail
            go_returns
            unfold IsMake17; rw [H5.out]; exact ⟨rfl, ⟨ca, cl, cc, la, lc, wa, wc, HG.out.below (below_drewN (Below.refl _ _) _)⟩, gby_below (below_drewN HBX.out _) _⟩
          · have H0 : Hid (makeR r s = ({ r with L := r.L ++ [s] }, (m : Int), 0)) := Lib.hid (by rw [HM2.out, if_neg (by omega)])
            have hr' : ¬ r.archs ≤ (m : Int) := by omega
            go_wp2_with fail
            go_quiet (fail)
            go_upto_region 14 with (fail)
            have hg2 := HG.out.below (below_drewN (Below.refl _ wr) nq)
            have hB0 : Below w.heap.size w (wr.drewN nq) := below_drewN HBX.out _
            generalize wr.drewN nq = W0 at *
            have r0 := World.ownsRow_lit (base := W0.heap.size) (e := 34) (size := 1) W0 #[] 0 (Nat.le_refl _) (by unfold maxLen; omega) rfl
            have hW01 : Below W0.heap.size W0 (W0.alloc (.cells #[] 34)) := by go_grown
            have HR0 := Lib.hid r0
            have HG2 := Lib.hid hg2
            have HB0 := Lib.hid hB0
            have HW01 := Lib.hid hW01
            have hone : ∀ u ∈ r.L.map (Value.int .u32), u.oneCell' = true := by intro u hu; obtain ⟨y, _, rfl⟩ := List.mem_map.1 hu; rfl
            have HONE := Lib.hid hone
            have hlm : (r.L.map (Value.int .u32)).length = m * 1 := by simp [HLn.out]
            have HLM := Lib.hid hlm
            have c3 := cell_at hg2.blk 3
            simp at c3
            rw [HLn.out] at c3
            have hml : m ≤ 900 := hL
            have hub : ub < W0.heap.size := lt_some hg2.blk
            clear r0 hg2 hB0 hW01 hone hlm c2 f3
            have fin : ∀ (w3 : World) (va : Option Addr) (vc : Nat), Below W0.heap.size W0 w3 → w3.ownsRow W0.heap.size 34 1 (.slice va (m + 1) vc) (m + 1) (r.L.map (.int .u32) ++ [.int .u32 s]) →
                IsMake17 B ub r s w (.returned (.tuple #[.int .i64 (m : Int), .int .i64 0])) (w3.setCell ⟨ub, 3, none⟩ (.slice va (m + 1) vc)) := by
              intro w3 va vc hb3 ho
              rw [← HLn.out] at ho ⊢
              unfold IsMake17
              rw [H0.out, ← HLn.out]
              exact ⟨rfl, rg_put HG2.out hb3 ho (by rw [HLn.out]; exact hml), gby_trans (gby_below (HB0.out.trans (hb3.mono HB0.out.size)) _) (gby_setCell _ _ _)⟩
            have FIN := Lib.hid fin
            clear fin
            have hrow := HG2.out.row
            rw [HLn.out] at hrow
            rcases hrow.2 with ⟨hv, hm0⟩ | ⟨g, cap, cur, hv, _⟩
            · cases hv
              have hnil : r.L.map (Value.int .u32) = [] := by rw [List.length_eq_zero_iff.1 HLn.out]; rfl
              rw [hnil, List.nil_append] at FIN
              have hown4 := HR0.out.alloc (.cells #[.int .u32 s] 34)
              have HB4 := Lib.hid (HW01.out.alloc (by simp) (.cells #[.int .u32 s] 34))
              clear hnil hrow
              go_wp2_with (at_builtin; first | (refine wpList_append_own_none rfl (.tmp 47) (.tmp 51) 48 rfl W0.heap.size 34 i0 1 Tryz.underlying48 hi (.slice (some ⟨W0.heap.size, 0, none⟩) 0 0) 0 [] rfl HR0.out rfl ?_) | (refine wpList_append_own _ rfl (.tmp 52) (.tmp 54) 48 rfl W0.heap.size 34 i0 (.int .u32 0) 1 4 Tryz.underlying48 hi hz0 hz1 hz2 rfl (by decide) (.slice (some ⟨W0.heap.size, 0, none⟩) 0 0) 0 [] rfl hown4 ⟨W0.heap.size + 1, 0, none⟩ 1 1 [.int .u32 s] rfl rfl (by have h := cell_one_new (W0.alloc (.cells #[] 34)) (.int .u32 s) 34; simpa using h) (ints_oneCell .u32 [s]) (by unfold maxLen; omega) (by omega) (by simp; omega) ?_))
              intro v' w5 hown5 hg5 _
              obtain ⟨vb, vd, hv'⟩ := ownsRow_slice hown5
              rw [hv'] at hown5 ⊢
              clear hv'
              have hb5 : Below W0.heap.size W0 w5 := HB4.out.grown hg5 (by simp; omega) (fun x hx => (hown4.lt x hx).1)
              have f3 := free_at (keep hb5 HG2.out.blk) 3
              have c5 := cell_at (keep hb5 HG2.out.blk) 3
              simp at c5
              rw [HLn.out] at c5
              have HF := Lib.hid (FIN.out w5 vb vd hb5 hown5)
              clear hown4 hown5 hg5 hb5
              go_wp2_with fail
              go_returns
              exact HF.out
            · cases hv
              have hnw := row_news (ownsRow_below hrow HW01.out)
              have HNW := Lib.hid hnw
              clear hnw hrow
              go_wp2_with (at_builtin; refine wpList_append_own _ rfl (.tmp 47) (.tmp 51) 48 rfl W0.heap.size 34 i0 (.int .u32 0) 1 4 Tryz.underlying48 hi hz0 hz1 hz2 rfl (by decide) (.slice (some ⟨W0.heap.size, 0, none⟩) 0 0) 0 [] rfl HR0.out ⟨g, 0, none⟩ m lc (r.L.map (.int .u32)) rfl HLM.out HNW.out HONE.out (by unfold maxLen; omega) (by omega) (by simp) ?_)
              intro v' w3 hown3 hg3 _
              obtain ⟨va', vc', hv'⟩ := ownsRow_slice hown3
              rw [hv'] at hown3 ⊢
              clear hv'
              try rw [Nat.zero_add, List.nil_append] at hown3
              try rw [Nat.zero_add]
              have hb3 : Below W0.heap.size W0 w3 := HW01.out.grown hg3 (by simp) (fun x hx => by cases hx; exact Nat.le_refl _)
              have hb4 : Below W0.heap.size W0 (w3.alloc (.cells #[.int .u32 s] 34)) := hb3.alloc hb3.size _
              have hown4 := hown3.alloc (.cells #[.int .u32 s] 34)
              have HB4 := Lib.hid hb4
              have hz3 := hb3.size
              clear hown3 hg3 hb3 hb4
              go_wp2_with (at_builtin; refine wpList_append_own _ rfl (.tmp 52) (.tmp 54) 48 rfl W0.heap.size 34 i0 (.int .u32 0) 1 4 Tryz.underlying48 hi hz0 hz1 hz2 rfl (by decide) (.slice va' m vc') m (r.L.map (.int .u32)) rfl hown4 ⟨w3.heap.size, 0, none⟩ 1 1 [.int .u32 s] rfl rfl (cell_one_new _ _ _) (ints_oneCell .u32 [s]) (by unfold maxLen; omega) (by omega) (by simp; omega) ?_)
              intro v' w5 hown5 hg5 _
              obtain ⟨vb, vd, hv'⟩ := ownsRow_slice hown5
              rw [hv'] at hown5 ⊢
              clear hv'
              have hb5 : Below W0.heap.size W0 w5 := HB4.out.grown hg5 (by simp; omega) (fun x hx => (hown4.lt x hx).1)
              have f3 := free_at (keep hb5 HG2.out.blk) 3
              have c5 := cell_at (keep hb5 HG2.out.blk) 3
              simp at c5
              rw [HLn.out] at c5
              have HF := Lib.hid (FIN.out w5 vb vd hb5 hown5)
              clear hown4 hown5 hg5 hb5
              go_wp2_with fail
              go_returns
              exact HF.out
end Go.Proofs.YtoadihebdaooaaaGreat
