/- Contract of the document's graph's Step. -/
import Derived.Test.YtoadihebdaooaaaGreatR7
namespace Go.Proofs.YtoadihebdaooaaaGreat
open Go.RowKit
set_option linter.unusedVariables false
theorem wp_append_none {P : Program} {w : World} {o : Oper} {a : Go.Act} {K : Go.Act → World → Prop} {Q : Exit → Go.Act → World → Prop} (s x : Operand) (t : TypeId) (ho : o.op = .call { callee := .builtin .append, args := #[s, x], argTypes := #[t, t] })
    (base : Nat) (e : TypeId) (i : TypeInfo) (size : Nat) (ht : P.underlying t = some (.slice e)) (hi : P.info? e = some i) (v : Value) (n : Nat) (xs : List Value) (hs : a.eval s = v) (hown : w.ownsRow base e size v n xs) (hx : a.eval x = .slice none 0 0)
    (h : K (a.put o.dst v) w) : o.wp P a w K Q := by
  have hrun := run_append_owned_none (P := P) (w := w) base t o.type e i size ht hi v n xs hown
  unfold Oper.wp
  simp [execOp, ho, resolve, invoke, builtin, hs, hx, hrun, Result.andThen]
  exact h
theorem wayL_len (l : List (Int × Int × Bool)) : (l.flatMap wayL).length = l.length * 3 := flat3_len (fun y : Int × Int × Bool => Value.int .i64 y.1) (fun y => .int .i64 y.2.1) (fun y => .bool y.2.2) l
theorem wayL_one (y : Int × Int × Bool) : ∀ u ∈ wayL y, u.oneCell' = true := by
  intro u hu; simp [wayL] at hu; rcases hu with rfl | rfl | rfl <;> rfl
theorem wayL_ones (l : List (Int × Int × Bool)) : ∀ u ∈ l.flatMap wayL, u.oneCell' = true := by
  intro u hu
  obtain ⟨y, _, hy⟩ := List.mem_flatMap.1 hu
  exact wayL_one y u hy
/-- What is left when a way more has been laid. -/
theorem rg_putW {B ub : Nat} {r : RG} {w w' : World} {ca : Option Addr} {cl cc : Nat} {la : Option Addr} {lc : Nat} {wa : Option Addr} {wc : Nat} (h : RGAt B ub r w ca cl cc la lc wa wc) (hb : Below w.heap.size w w') {y : Int × Int × Bool} {va : Option Addr} {vc : Nat}
    (ho : w'.ownsRow w.heap.size 58 3 (.slice va (r.W.length + 1) vc) (r.W.length + 1) (r.W.flatMap wayL ++ wayL y)) (hl : r.W.length ≤ 999999) : RGr B ub { r with W := r.W ++ [y] } (w'.setCell ⟨ub, 4, none⟩ (.slice va (r.W.length + 1) vc)) := by
  have h' := h.below hb
  have hlt := lt_some h.blk
  have hBw : B ≤ w.heap.size := by have := h.lt; omega
  refine ⟨ca, cl, cc, la, lc, va, vc, ⟨?_, ?_, ?_, ?_, h.lt, h.sL, by simp; omega, fun h0 => by simp at h0⟩⟩
  · rw [List.length_append]
    exact (hset _ _ _ _ _ _ _ h'.blk).trans rfl
  · exact h'.comps.below (Below.setCell (Below.refl _ _) h.lt _)
  · refine ownsRow_setCell_ne h'.row ?_ _
    refine .inr (fun e => ?_)
    exact (ownsRow_ne_block h'.row h'.blk (fun cur hc => by cases hc)) e.symm
  · rw [List.length_append, List.flatMap_append]
    have e : ([y] : List (Int × Int × Bool)).flatMap wayL = wayL y := by simp
    rw [e]
    exact ownsRow_mono (ownsRow_setCell_below ho (by simpa using hlt) _) hBw
theorem Tryz.info58 : (Tryz.prog.info? 58).map (fun i => (i.zero, i.size, i.bytes)) = some (some (.agg #[.int .i64 0, .int .i64 0, .bool false]), 3, 24) := by kernel_rfl
def addWs (W : List (Int × Int × Bool)) (wy : Nat → Int × Int × Bool) : Nat → List (Int × Int × Bool)
  | 0 => W
  | k + 1 => (fun V y => if knowsB V y then V else V ++ [y]) (addWs W wy k) (wy k)
theorem addWs_len (W : List (Int × Int × Bool)) (wy : Nat → Int × Int × Bool) : ∀ k, (addWs W wy k).length ≤ W.length + k
  | 0 => Nat.le_refl _
  | k + 1 => by
    have := addWs_len W wy k
    simp only [addWs]
    split
    · omega
    · rw [List.length_append]; simp; omega
def addW (W : List (Int × Int × Bool)) (y : Int × Int × Bool) : List (Int × Int × Bool) := if knowsB W y then W else W ++ [y]
def nextR (s c : Int) : Int := if bitAt s c.toNat then s - 2 ^ c.toNat else s + 2 ^ c.toNat
/-- The document's Step. -/
def stepR (r : RG) (x : Int × Int × Bool) : RG × Int × Int :=
  if x.1 < 0 ∨ (r.L.length : Int) ≤ x.1 then (r, 0, 3) else if idxF x.2.1 0 r.cs < 0 then (r, 0, 6) else
  if bitAt (r.L.getD x.1.toNat 0) x.2.1.toNat = x.2.2 then (r, 0, 7) else
  if (makeR r (nextR (r.L.getD x.1.toNat 0) x.2.1)).2.2 ≠ 0 then ((makeR r (nextR (r.L.getD x.1.toNat 0) x.2.1)).1, 0, (makeR r (nextR (r.L.getD x.1.toNat 0) x.2.1)).2.2) else
    ({ (makeR r (nextR (r.L.getD x.1.toNat 0) x.2.1)).1 with W := addW (addW r.W x) ((makeR r (nextR (r.L.getD x.1.toNat 0) x.2.1)).2.1, x.2.1, !x.2.2) }, (makeR r (nextR (r.L.getD x.1.toNat 0) x.2.1)).2.1, 0)
def IsStep17 (B ub : Nat) (r : RG) (x : Int × Int × Bool) (w : World) (e : Ending) (w' : World) : Prop :=
  e = .returned (.tuple #[.int .i64 (stepR r x).2.1, .int .i64 (stepR r x).2.2]) ∧ RGr B ub (stepR r x).1 w' ∧ w.grownBy w' (some ub)
theorem makeR_W (r : RG) (s : Int) : (makeR r s).1.W = r.W := by
  unfold makeR
  cases posOf s r.L with
  | some i => rfl
  | none =>
    simp only
    split
    · split <;> rfl
    · rfl
theorem makeR_L (r : RG) (s : Int) : (makeR r s).1.L.length ≤ r.L.length + 1 := by
  unfold makeR
  cases posOf s r.L with
  | some i => simp
  | none =>
    simp only
    split
    · split <;> simp
    · simp
def st17R (ub wb cl cc : Nat) (ca : Option Addr) (ver xc z : Int) : List (Value → World → Prop) :=
  [ IsV (.pointer (some ⟨ub, 0, none⟩)),
    IsV (.pointer (some ⟨ub, 0, none⟩)),
    IsV (.pointer (some ⟨ub, 0, none⟩)),
    IsV (.agg #[.int .i64 ver, .slice ca cl cc]),
    IsV (.pointer (some ⟨wb, 1, none⟩)),
    IsV (.int .i64 xc),
    IsV (.int .i64 z),
    IsV (.bool (decide (z < 0))) ]
theorem st17R_lasts (ub wb cl cc : Nat) (ca : Option Addr) (ver xc z : Int) : ∀ p ∈ st17R ub wb cl cc ca ver xc z, Lasts p := by
  simp only [st17R, List.mem_cons, List.not_mem_nil, or_false]
  rintro p (rfl | rfl | rfl | rfl | rfl | rfl | rfl | rfl) <;> exact lasts_v _
theorem idxF_found {id : Int} {cs : List Cmp} (h : 0 ≤ idxF id 0 cs) : ∃ c ∈ cs, c.id = id := by
  cases hf : cs.find? (fun c => decide (c.id = id)) with
  | none => rw [idxF_none cs 0 hf] at h; omega
  | some c => exact ⟨c, List.mem_of_find?_eq_some hf, by simpa using List.find?_some hf⟩
theorem pow2_le {k : Nat} (h : k ≤ 24) : (1 : Int) ≤ 2 ^ k ∧ (2 : Int) ^ k ≤ 16777216 := by
  rcases (by omega : k = 0 ∨ k = 1 ∨ k = 2 ∨ k = 3 ∨ k = 4 ∨ k = 5 ∨ k = 6 ∨ k = 7 ∨ k = 8 ∨ k = 9 ∨ k = 10 ∨ k = 11 ∨ k = 12 ∨ k = 13 ∨ k = 14 ∨ k = 15 ∨ k = 16 ∨ k = 17 ∨ k = 18 ∨ k = 19 ∨ k = 20 ∨ k = 21 ∨ k = 22 ∨ k = 23 ∨ k = 24) with rfl | rfl | rfl | rfl | rfl | rfl | rfl | rfl | rfl | rfl | rfl | rfl | rfl | rfl | rfl | rfl | rfl | rfl | rfl | rfl | rfl | rfl | rfl | rfl | rfl <;> decide
set_option maxRecDepth 100000 in
set_option maxHeartbeats 8000000 in
theorem step17_any (B ub : Nat) (r : RG) (x : Int × Int × Bool) (w : World) (h : RGr B ub r w) (hid : ∀ c ∈ r.cs, 1 ≤ c.id ∧ c.id ≤ 24) (hset : ∀ s ∈ r.L, 0 ≤ s ∧ s ≤ 33554430) (hL : r.L.length ≤ 900) (hW : r.W.length ≤ 999990) :
    Calls Tryz.prog 23 #[.pointer (some ⟨ub, 0, none⟩), .agg #[.int .i64 x.1, .int .i64 x.2.1, .bool x.2.2]] w (IsStep17 B ub r x w) := by
  obtain ⟨xi, xc, xb⟩ := x
  have hbel : Below w.heap.size w (w.alloc (.cells #[.int .i64 xi, .int .i64 xc, .bool xb] 58)) := by go_grown
  have H0 := Lib.hid (And.intro (h.below hbel) (And.intro (heap_alloc_new w (.cells #[.int .i64 xi, .int .i64 xc, .bool xb] 58)) hbel))
  have hubl : ub < w.heap.size := by obtain ⟨ca, cl, cc, la, lc, wa, wc, h'⟩ := h; exact lt_some h'.blk
  have HID := Lib.hid hid
  have HSET := Lib.hid hset
  have HE : Hid (stepR r (xi, xc, xb) = stepR r (xi, xc, xb)) := Lib.hid rfl
  clear h hbel hid hset
  go_enter Tryz.func23, Tryz.ntmps23
  go_upto_region 1 with (fail)
  generalize w.alloc (.cells #[.int .i64 xi, .int .i64 xc, .bool xb] 58) = V at *
  have nwb : w.heap.size ≠ ub := by omega
  generalize hwb : w.heap.size = wb at *
  have HWB := Lib.hid hwb
  clear hwb
  obtain ⟨ca, cl, cc, la, lc, wa, wc, hg⟩ := H0.out.1
  have HG := Lib.hid hg
  have c3 := cell_at hg.blk 3
  have d0 := cell_at H0.out.2.1 0
  simp at c3 d0
  clear hg
  have HLn : Hid (∀ m, m = r.L.length → m = r.L.length) := Lib.hid (fun m h => h)
  generalize hLn : r.L.length = m at *
  have HLN := Lib.hid hLn
  clear hLn HLn
  have retN : ∀ (W' : World) (er : Int), Below wb w W' → stepR r (xi, xc, xb) = (r, 0, er) → RGr B ub r W' → IsStep17 B ub r (xi, xc, xb) w (.returned (.tuple #[.int .i64 0, .int .i64 er])) W' := by
    intro W' er hb he hR
    unfold IsStep17
    rw [he]
    exact ⟨rfl, hR, gby_below (by rw [HWB.out]; exact hb) _⟩
  have RETN := Lib.hid retN
  clear retN
  rcases (by omega : xi < 0 ∨ (0 ≤ xi ∧ (m : Int) ≤ xi) ∨ (0 ≤ xi ∧ xi < (m : Int))) with h1 | ⟨h1, h2⟩ | ⟨h1, h2⟩
  · have H3 : Hid (stepR r (xi, xc, xb) = (r, 0, 3)) := Lib.hid (by unfold stepR; rw [if_pos (.inl h1)])
    go_quiet (fail)
    go_wp2_with fail
    go_returns
    exact RETN.out _ 3 (below_drewN H0.out.2.2 _) H3.out (H0.out.1.below (below_drewN (Below.refl _ _) _))
  · have H3 : Hid (stepR r (xi, xc, xb) = (r, 0, 3)) := Lib.hid (by unfold stepR; rw [if_pos (.inr (by rw [HLN.out]; exact h2))])
    have t1 : ¬ xi < 0 := by omega
    go_quiet (fail)
    go_wp2_with fail
    go_returns
    exact RETN.out _ 3 (below_drewN H0.out.2.2 _) H3.out (H0.out.1.below (below_drewN (Below.refl _ _) _))
  · have t1 : ¬ xi < 0 := by omega
    have t2 : ¬ (m : Int) ≤ xi := by omega
    go_quiet (fail)
    go_wp2_with fail
    have hg2 := HG.out.below (below_drewN (Below.refl _ V) nq)
    have hX2 : (V.drewN nq).heap[wb]? = _ := H0.out.2.1
    have hb2 : Below wb w (V.drewN nq) := below_drewN H0.out.2.2 _
    generalize V.drewN nq = V1 at *
    obtain ⟨z, hz⟩ : ∃ z, idxF xc 0 r.cs = z := ⟨_, rfl⟩
    have HZ := Lib.hid hz
    have H1 := Lib.hid (And.intro hg2 (And.intro hX2 hb2))
    clear hz hg2 hX2 hb2 c3 d0 HG H0
    refine wp_region_grow (by kernel_rfl) (by kernel_rfl) (by kernel_rfl) (byList (st17R ub wb cl cc ca r.ver xc z)) (lasts_list (st17R_lasts ub wb cl cc ca r.ver xc z)) ?_ ?_
    · intro vs w1' i o hb ho hd
      simp only [putAll, Act.put, List.setIfInBounds_toArray, List.set_cons_succ, List.set_cons_zero]
      have hg := H1.out.1.below hb
      have c0 := cell_at hg.blk 0
      have c1 := cell_at hg.blk 1
      have d1 := cell_at (keep hb H1.out.2.1) 1
      simp at c0 c1 d1
      have HCS : Hid (CompsAt w1'.heap.size w1' ca cl r.cs) := Lib.hid (hg.comps.mono (by have := lt_some hg.blk; have := hg.lt; omega))
      clear hb hg
      revert ho hd
      match i with
        | 0 =>
          intro ho hd
          obtain rfl := (Option.some.inj ho).symm
          clear hd ho
          refine step_open rfl ?_
          go_simp
          exact ⟨rfl, Below.refl _ _⟩
        | 1 =>
          intro ho hd
          obtain rfl := (Option.some.inj ho).symm
          have d0 : vs 0 = (.pointer (some ⟨ub, 0, none⟩)) := hd ⟨0, .data⟩ (by simp) rfl
          clear hd ho
          rw [d0]
          refine step_open rfl ?_
          go_simp
          exact ⟨rfl, Below.refl _ _⟩
        | 2 =>
          intro ho hd
          obtain rfl := (Option.some.inj ho).symm
          have d1 : vs 1 = (.pointer (some ⟨ub, 0, none⟩)) := hd ⟨1, .data⟩ (by simp) rfl
          clear hd ho
          rw [d1]
          refine step_open rfl ?_
          go_simp
          exact ⟨rfl, Below.refl _ _⟩
        | 3 =>
          intro ho hd
          obtain rfl := (Option.some.inj ho).symm
          have d2 : vs 2 = (.pointer (some ⟨ub, 0, none⟩)) := hd ⟨2, .data⟩ (by simp) rfl
          clear hd ho
          rw [d2]
          refine step_open rfl ?_
          go_simp
          exact ⟨rfl, Below.refl _ _⟩
        | 4 =>
          intro ho hd
          obtain rfl := (Option.some.inj ho).symm
          clear hd ho
          refine step_open rfl ?_
          go_simp
          exact ⟨rfl, Below.refl _ _⟩
        | 5 =>
          intro ho hd
          obtain rfl := (Option.some.inj ho).symm
          have d4 : vs 4 = (.pointer (some ⟨wb, 1, none⟩)) := hd ⟨4, .data⟩ (by simp) rfl
          clear hd ho
          rw [d4]
          refine step_open rfl ?_
          go_simp
          exact ⟨rfl, Below.refl _ _⟩
        | 6 =>
          intro ho hd
          obtain rfl := (Option.some.inj ho).symm
          have d3 : vs 3 = (.agg #[.int .i64 r.ver, .slice ca cl cc]) := hd ⟨3, .data⟩ (by simp) rfl
          have d5 : vs 5 = (.int .i64 xc) := hd ⟨5, .data⟩ (by simp) rfl
          clear hd ho
          rw [d3, d5]
          refine step_open rfl ?_
          go_simp
          refine (find07_any _ _ r.cs _ _ _ w1' HCS.out).mono ?_
          rintro e w2 ⟨rfl, hb2⟩
          rw [HZ.out]
          exact ⟨rfl, hb2⟩
        | 7 =>
          intro ho hd
          obtain rfl := (Option.some.inj ho).symm
          have d6 : vs 6 = (.int .i64 z) := hd ⟨6, .data⟩ (by simp) rfl
          clear hd ho
          rw [d6]
          refine step_open rfl ?_
          go_simp
          exact ⟨rfl, Below.refl _ _⟩
        | n + 8 =>
          intro ho hd
          simp at ho
    · intro vs w1' hb hR
      have hv : vs 7 = .bool (decide (z < 0)) := hR 7 (by simp)
      have hg2 := H1.out.1.below hb
      have hX2 := keep hb H1.out.2.1
      have hb2 : Below wb w w1' := H1.out.2.2.trans (hb.mono (by have := H1.out.2.2.size; rw [HWB.out] at this; exact this))
      have H2 := Lib.hid (And.intro hg2 (And.intro hX2 hb2))
      simp only [putAll, Act.put, List.setIfInBounds_toArray, List.set_cons_succ, List.set_cons_zero]
      rw [hv]
      clear hR hb hv hg2 hX2 hb2 H1
      rcases (by omega : z < 0 ∨ 0 ≤ z) with hz | hz
      · have e1 : decide (z < 0) = true := by simp; omega
        have H6 : Hid (stepR r (xi, xc, xb) = (r, 0, 6)) := Lib.hid (by unfold stepR; rw [if_neg (by rw [HLN.out]; simp only; omega), if_pos (by simp only; rw [HZ.out]; exact hz)])
        go_wp2_with fail
        go_returns
        exact RETN.out _ 6 H2.out.2.2 H6.out ⟨ca, cl, cc, la, lc, wa, wc, H2.out.1⟩
      · have e1 : decide (z < 0) = false := by simp; omega
        obtain ⟨cm, hcm, hcid⟩ := idxF_found (by rw [HZ.out]; exact hz : 0 ≤ idxF xc 0 r.cs)
        have hcb := HID.out cm hcm
        rw [hcid] at hcb
        obtain ⟨s, hs⟩ : ∃ s, r.L[xi.toNat]? = some s := ⟨_, List.getElem?_eq_getElem (by rw [HLN.out]; omega)⟩
        have hsb := HSET.out s (List.mem_of_getElem? hs)
        have hrow := H2.out.1.row
        rw [HLN.out] at hrow
        obtain ⟨q, rfl, hq⟩ := row_get hrow (k := xi.toNat) (u := .int .u32 s) (by rw [List.getElem?_map, hs]; rfl)
        have c3 := cell_at H2.out.1.blk 3
        have d0 := cell_at H2.out.2.1 0
        simp at c3 d0
        rw [HLN.out] at c3
        have HS : Hid (r.L.getD xi.toNat 0 = s) := Lib.hid (by rw [List.getD, hs]; rfl)
        clear hcm hcid hs hrow
        go_wp2_with fail
        go_quiet (fail)
        go_wp2_with fail
        have hg3 := H2.out.1.below (below_drewN (Below.refl _ w1') nq)
        have hX3 : (w1'.drewN nq).heap[wb]? = some (.cells #[.int .i64 xi, .int .i64 xc, .bool xb] 58 (0, 0)) := H2.out.2.1
        have hb3 : Below wb w (w1'.drewN nq) := below_drewN H2.out.2.2 _
        clear c3 d0 hq H2
        generalize w1'.drewN nq = V2 at *
        have d1 := cell_at hX3 1
        have d2 := cell_at hX3 2
        simp at d1 d2
        have H3 := Lib.hid (And.intro hg3 (And.intro hX3 hb3))
        have HSB := Lib.hid hsb
        clear hg3 hX3 hb3 hsb
        obtain ⟨cb1, cb2⟩ := hcb
        go_loop [7, 8] (fun b i => ∃ k : Nat, k ≤ xc.toNat ∧ b = .int .u32 (2 ^ k) ∧ i = .int .i64 k) (fun _ i => xc.toNat - (intOf i).toNat)
        case atStart => exact ⟨0, by omega, rfl, rfl⟩
        case round =>
          obtain ⟨k, hk, rfl, rfl⟩ := hrel
          by_cases hlt : k < xc.toNat
          · have hp := pow2_le (k := k) (by omega)
            have hp' := pow2_le (k := k + 1) (by omega)
            have hp1 : (2 : Int) ^ (k + 1) = 2 ^ k * 2 := Int.pow_succ 2 k
            rw [hp1] at hp'
            have HP1 := Lib.hid hp1
            have t3 : (k : Int) < xc := by omega
            clear hp1
            generalize (2 : Int) ^ k = p at *
            obtain ⟨p0, p1⟩ := hp
            obtain ⟨p2, p3⟩ := hp'
            go_wp2_with fail
            go_round
            case rel => exact ⟨k + 1, by omega, by rw [HP1.out], by go_num⟩
            case measure => simp [intOf]; omega
          · obtain rfl : k = xc.toNat := by omega
            have t3 : ¬ (((xc.toNat : Nat) : Int) < xc) := by omega
            obtain ⟨p0, p1⟩ := pow2_le (k := xc.toNat) (by omega)
            obtain ⟨s0, s1⟩ := HSB.out
            obtain ⟨bb, hbb⟩ : ∃ bb, bitAt s xc.toNat = bb := ⟨_, rfl⟩
            have HBIT := Lib.hid hbb
            have HNX : Hid (nextR s xc = if bitAt s xc.toNat then s - 2 ^ xc.toNat else s + 2 ^ xc.toNat) := Lib.hid rfl
            unfold bitAt at hbb
            generalize (2 : Int) ^ xc.toNat = p at *
            have e2 := Int.tdiv_eq_ediv_of_nonneg (a := s) (b := p) s0
            have hq0 : 0 ≤ s / p := Int.ediv_nonneg s0 (by omega)
            have hq1 : s / p ≤ s := Int.ediv_le_self _ s0
            have hqb : bb = true → p ≤ s := by
              intro hb
              rw [hb] at hbb
              have h1 : s / p % 2 = 1 := by simpa using hbb
              have h2 : 1 ≤ s / p := by omega
              have := Int.le_ediv_iff_mul_le (c := p) (by omega) |>.1 h2
              omega
            have HQB := Lib.hid hqb
            generalize s / p = qq at *
            have e3 := Int.tmod_eq_emod_of_nonneg (a := qq) (b := 2) hq0
            clear hqb
            by_cases hbx : bb = xb
            · subst hbx
              have H7 : Hid (stepR r (xi, xc, bb) = (r, 0, 7)) := Lib.hid (by
                unfold stepR
                rw [if_neg (by rw [HLN.out]; simp only; omega), if_neg (by simp only; rw [HZ.out]; omega), if_pos (by simp only; rw [HS.out]; exact HBIT.out)])
              cases bb <;> (
                go_wp2_with fail
                go_returns
                exact RETN.out _ 7 H3.out.2.2 H7.out ⟨ca, cl, cc, _, lc, wa, wc, H3.out.1⟩)
            · obtain ⟨nx, hnx⟩ : ∃ nx, nextR s xc = nx := ⟨_, rfl⟩
              have HST : Hid (stepR r (xi, xc, xb) = if (makeR r nx).2.2 ≠ 0 then ((makeR r nx).1, 0, (makeR r nx).2.2) else ({ (makeR r nx).1 with W := addW (addW r.W (xi, xc, xb)) ((makeR r nx).2.1, xc, !xb) }, (makeR r nx).2.1, 0)) := Lib.hid (by
                unfold stepR
                rw [if_neg (by rw [HLN.out]; simp only; omega), if_neg (by simp only; rw [HZ.out]; omega), if_neg (by simp only; rw [HS.out, HBIT.out]; exact hbx)]
                simp only
                rw [HS.out, hnx])
              have hnv : (bb = true → nx = s - p) ∧ (bb = false → nx = s + p) := by
                rw [← hnx, HNX.out, HBIT.out]
                constructor <;> intro h <;> subst h <;> rfl
              have hnb : 0 ≤ nx ∧ nx ≤ 4294967295 := by
                cases bb
                · rw [hnv.2 rfl]; omega
                · have := HQB.out rfl
                  rw [hnv.1 rfl]; omega
              have HMK := Lib.hid (make17_any B ub r nx V2 ⟨ca, cl, cc, _, lc, wa, wc, H3.out.1⟩ hnb.1 hnb.2 (by rw [HLN.out]; exact hL))
              have HNV := Lib.hid hnv
              have hxb : xb = !bb := by cases bb <;> cases xb <;> simp_all
              have HXB := Lib.hid hxb
              have hps : bb = true → p ≤ s := HQB.out
              clear hbx hnx hnv hnb
              have e4 : (bb == xb) = false := by rw [hxb]; cases bb <;> rfl
              have htn : ((xc.toNat : Nat) : Int) = xc := by omega
              rw [htn] at t3
              rw [htn]
              clear hxb
              go_upto_if 64 with (fail)
              clear e4
              go_cut [10] (fun s wx => s = .int .u32 nx ∧ wx = V2)
              case first =>
                cases bb
                · go_wp2_with fail
                  go_meet
                  exact ⟨congrArg (Value.int .u32) (by rw [HNV.out.2 (by simp)]), rfl⟩
                · have hps := HQB.out (by simp)
                  go_wp2_with fail
                  go_meet
                  exact ⟨congrArg (Value.int .u32) (by rw [HNV.out.1 (by simp)]), rfl⟩
              case rest =>
                obtain ⟨rfl, hw⟩ := hcut
                subst hw
                clear d1 d2 hbb e2 e3 hq0 hq1 hps HNV HQB HNX HBIT p0 p1 s0 s1 t3
                go_wp2_with fail
                refine HMK.out.mono ?_
                rintro e w4 ⟨he, hR4, hg4⟩
                subst he
                have hX4 := keepG hg4 H3.out.2.1 (by simpa using nwb)
                have hgw : w.grownBy w4 (some ub) := gby_trans (gby_below (by rw [HWB.out]; exact H3.out.2.2) _) hg4
                have hmW := makeR_W r nx
                have hmL := makeR_L r nx
                rw [HLN.out] at hmL
                clear HMK hg4
                generalize makeR r nx = mk at *
                obtain ⟨r4, tq, er⟩ := mk
                simp only at hR4 hmW hmL
                have H4 := Lib.hid (And.intro hR4 (And.intro hX4 (And.intro hgw (And.intro hmW hmL))))
                clear hR4 hgw hmW hmL
                by_cases her : er = 0
                · subst her
                  have HST2 : Hid (stepR r (xi, xc, xb) = ({ r4 with W := addW (addW r.W (xi, xc, xb)) (tq, xc, !xb) }, tq, 0)) := Lib.hid (by rw [HST.out, if_neg (by simp)])
                  have d0 := cell_at hX4 0
                  have d1 := cell_at hX4 1
                  have d2 := cell_at hX4 2
                  simp at d0 d1 d2
                  clear hX4 HST
                  go_wp2_with fail
                  have hA := heap_alloc_new w4 (.cells #[.int .i64 xi, .int .i64 xc, .bool xb, .int .i64 tq, .int .i64 xc, .bool (!xb)] 135)
                  have hb45 : Below w4.heap.size w4 (w4.alloc (.cells #[.int .i64 xi, .int .i64 xc, .bool xb, .int .i64 tq, .int .i64 xc, .bool (!xb)] 135)) := by go_grown
                  have hR5 := H4.out.1.below hb45
                  have hgw5 := gby_trans H4.out.2.2.1 (gby_below hb45 _)
                  have hab : w4.heap.size ≠ ub := by have := H4.out.2.2.1.size; rw [HWB.out] at this; omega
                  have hmW := H4.out.2.2.2.1
                  have H5 := Lib.hid (And.intro hA (And.intro hR5 (And.intro hgw5 hmW)))
                  clear hA hb45 hR5 hgw5 hmW d0 d1 d2 H4
                  generalize w4.alloc (.cells #[.int .i64 xi, .int .i64 xc, .bool xb, .int .i64 tq, .int .i64 xc, .bool (!xb)] 135) = w5 at *
                  generalize w4.heap.size = ab at *
                  obtain ⟨i0, hi, hz0, hz1, hz2⟩ := info_parts Tryz.info58
                  obtain ⟨wy, hwy⟩ : ∃ wy : Nat → Int × Int × Bool, wy = fun k => if k = 0 then (xi, xc, xb) else (tq, xc, !xb) := ⟨_, rfl⟩
                  have HWY := Lib.hid hwy
                  clear hwy
                  go_loopw [14] (fun i wr => ∃ k : Nat, k ≤ 2 ∧ i = .int .i64 k ∧ wr.heap[ab]? = some (.cells #[.int .i64 xi, .int .i64 xc, .bool xb, .int .i64 tq, .int .i64 xc, .bool (!xb)] 135 (0, 0)) ∧ RGr B ub { r4 with W := addWs r4.W wy k } wr ∧ w5.grownBy wr (some ub)) (fun i _ => 2 - (intOf i).toNat)
                  case atStart => exact ⟨0, by omega, rfl, H5.out.1, H5.out.2.1, gby_below (Below.refl _ _) _⟩
                  case round =>
                    obtain ⟨k, hk, rfl, hA, hR, hgr⟩ := hrel
                    have HR6 := Lib.hid hR
                    have HGR := Lib.hid hgr
                    have HA := Lib.hid hA
                    clear hR hgr
                    by_cases hlt : k < 2
                    · obtain ⟨y, hy⟩ : ∃ y, wy k = y := ⟨_, rfl⟩
                      have hAy : (#[.int .i64 xi, .int .i64 xc, .bool xb, .int .i64 tq, .int .i64 xc, .bool (!xb)] : Array Value)[k * 3]? = some (.int .i64 y.1) ∧ (#[.int .i64 xi, .int .i64 xc, .bool xb, .int .i64 tq, .int .i64 xc, .bool (!xb)] : Array Value)[k * 3 + 1]? = some (.int .i64 y.2.1) ∧ (#[.int .i64 xi, .int .i64 xc, .bool xb, .int .i64 tq, .int .i64 xc, .bool (!xb)] : Array Value)[k * 3 + 2]? = some (.bool y.2.2) := by
                        rw [HWY.out] at hy
                        rcases (by omega : k = 0 ∨ k = 1) with rfl | rfl
                        · subst hy; exact ⟨rfl, rfl, rfl⟩
                        · subst hy; exact ⟨rfl, rfl, rfl⟩
                      have HAY := Lib.hid hAy
                      have HY := Lib.hid hy
                      have a0 := (cell_at hA (k * 3)).trans hAy.1
                      have a1 := (cell_at hA (k * 3 + 1)).trans hAy.2.1
                      have a2 := (cell_at hA (k * 3 + 2)).trans hAy.2.2
                      have i1 : (0 : Int) ≤ (k : Int) := by omega
                      have i2 : (k : Int) < 2 := by omega
                      clear hA hAy hy
                      go_wp2_with fail
                      refine (knows17_any B ub _ y _ HR6.out).mono ?_
                      rintro e w6 ⟨rfl, hb6⟩
                      clear a0 a1 a2
                      have hA6 := keep hb6 HA.out
                      have hR7 := HR6.out.below hb6
                      have hgr6 := gby_trans HGR.out (gby_below hb6 (some ub))
                      cases hkn : knowsB (addWs r4.W wy k) y
                      · have HW1 : Hid (addWs r4.W wy (k + 1) = addWs r4.W wy k ++ [y]) := Lib.hid (by simp only [addWs]; rw [HY.out, hkn]; rfl)
                        obtain ⟨ca', cl', cc', la', lc', wa', wc', hg7⟩ := hR7
                        have hwl := addWs_len r4.W wy k
                        have hrw4 : r4.W.length ≤ 999990 := by rw [H5.out.2.2.2]; exact hW
                        generalize addWs r4.W wy k = Wk at *
                        have HG7 := Lib.hid hg7
                        have H6 := Lib.hid (And.intro hA6 hgr6)
                        have hub6 : ub < w6.heap.size := lt_some hg7.blk
                        have hnil := hg7.nw
                        have hrw := hg7.ways
                        generalize hmk : Wk.length = mw at *
                        have HMK2 := Lib.hid hmk
                        have hmw6 : mw ≤ 999999 := by omega
                        have XS0 : Hid (mw = 0 → Wk.flatMap wayL = []) := Lib.hid (fun h => by rw [List.length_eq_zero_iff.1 (hmk.trans h)]; rfl)
                        have HWN : Hid ((wa' = none ∧ wc' = 0 ∧ mw = 0) ∨ ∃ gq, wa' = some ⟨gq, 0, none⟩ ∧ 0 < mw ∧ gq < w6.heap.size ∧ ∀ j u, (Wk.flatMap wayL)[j]? = some u → w6.cell? ⟨gq, j, none⟩ = some u) := Lib.hid (by
                          rcases Nat.eq_zero_or_pos mw with h0 | h0
                          · exact .inl ⟨(hnil h0).1, (hnil h0).2, h0⟩
                          · obtain ⟨gq, hgq, _, hgl, hc⟩ := row_block hrw h0
                            exact .inr ⟨gq, hgq, h0, hgl, hc⟩)
                        clear hkn hA6 hgr6 hg7 hnil hrw HR6 HGR HA hb6 hmk hwl hrw4
                        go_wp2_with fail
                        refine wp_region_mem (by kernel_rfl) (by kernel_rfl) (by kernel_rfl) (by kernel_rfl) (fun i => ([(.pointer (some ⟨ub, 0, none⟩)), undef, (.pointer (some ⟨ub, 0, none⟩)), (.pointer (some ⟨ub, 0, none⟩)), (.pointer (some ⟨ub, 4, none⟩)), undef, undef, (.int .i64 (k : Int)), (.pointer (some ⟨ab, k * 3, none⟩)), (.agg #[.int .i64 y.1, .int .i64 y.2.1, .bool y.2.2]), undef, undef, (.pointer (some ⟨ub, 0, none⟩)), (.pointer (some ⟨ub, 4, none⟩)), undef] : List Value).getD i undef) memS (MW w6.heap.size ub ab #[.int .i64 xi, .int .i64 xc, .bool xb, .int .i64 tq, .int .i64 xc, .bool (!xb)] wa' mw wc' (Wk.flatMap wayL) y w6) (fun f g vs us w hs h => MW.congr f g vs us w hs h) (fun i hi => by unfold memS at hi; simp at hi; simp; omega) ?_ ?_ ?_ ?_
                        · intro vs
                          exact ⟨fun h => Bool.noConfusion h, fun h => Bool.noConfusion h, fun h => Bool.noConfusion h, fun h => Bool.noConfusion h, H6.out.1, fun _ => ⟨rfl, rfl, rfl, Nat.le_refl _, fun _ _ => rfl⟩, fun h => Bool.noConfusion h, fun h => Bool.noConfusion h, fun h => Bool.noConfusion h, fun h => Bool.noConfusion h, fun h => Bool.noConfusion h⟩
                        · intro f vs w' i o hS hMw ho hd
                          simp only [putAll, Act.put, List.setIfInBounds_toArray, List.set_cons_succ, List.set_cons_zero]
                          have a0 := (cell_at hMw.arr (k * 3)).trans HAY.out.1
                          have a1 := (cell_at hMw.arr (k * 3 + 1)).trans HAY.out.2.1
                          have a2 := (cell_at hMw.arr (k * 3 + 2)).trans HAY.out.2.2
                          clear hMw
                          revert hS ho hd
                          match i with
                        | 0 =>
                          intro _ ho hd
                          obtain rfl := (Option.some.inj ho).symm
                          clear ho hd
                          go_simp
                        | 1 => intro hS; exact Bool.noConfusion hS
                        | 2 =>
                          intro _ ho hd
                          obtain rfl := (Option.some.inj ho).symm
                          clear ho hd
                          go_simp
                        | 3 =>
                          intro _ ho hd
                          obtain rfl := (Option.some.inj ho).symm
                          have d2 : vs 2 = (.pointer (some ⟨ub, 0, none⟩)) := (hd ⟨2, .data⟩ (by simp) rfl).2 rfl
                          clear ho hd
                          rw [d2]
                          go_simp
                        | 4 =>
                          intro _ ho hd
                          obtain rfl := (Option.some.inj ho).symm
                          have d3 : vs 3 = (.pointer (some ⟨ub, 0, none⟩)) := (hd ⟨3, .data⟩ (by simp) rfl).2 rfl
                          clear ho hd
                          rw [d3]
                          go_simp
                        | 5 => intro hS; exact Bool.noConfusion hS
                        | 6 => intro hS; exact Bool.noConfusion hS
                        | 7 =>
                          intro _ ho hd
                          obtain rfl := (Option.some.inj ho).symm
                          clear ho hd
                          go_simp
                        | 8 =>
                          intro _ ho hd
                          obtain rfl := (Option.some.inj ho).symm
                          have d7 : vs 7 = (.int .i64 (k : Int)) := (hd ⟨7, .data⟩ (by simp) rfl).2 rfl
                          clear ho hd
                          rw [d7]
                          go_simp
                        | 9 =>
                          intro _ ho hd
                          obtain rfl := (Option.some.inj ho).symm
                          have d8 : vs 8 = (.pointer (some ⟨ab, k * 3, none⟩)) := (hd ⟨8, .data⟩ (by simp) rfl).2 rfl
                          clear ho hd
                          rw [d8]
                          go_simp
                        | 10 => intro hS; exact Bool.noConfusion hS
                        | 11 => intro hS; exact Bool.noConfusion hS
                        | 12 =>
                          intro _ ho hd
                          obtain rfl := (Option.some.inj ho).symm
                          have d0 : vs 0 = (.pointer (some ⟨ub, 0, none⟩)) := (hd ⟨0, .data⟩ (by simp) rfl).2 rfl
                          clear ho hd
                          rw [d0]
                          go_simp
                        | 13 =>
                          intro _ ho hd
                          obtain rfl := (Option.some.inj ho).symm
                          have d12 : vs 12 = (.pointer (some ⟨ub, 0, none⟩)) := (hd ⟨12, .data⟩ (by simp) rfl).2 rfl
                          clear ho hd
                          rw [d12]
                          go_simp
                        | 14 => intro hS; exact Bool.noConfusion hS
                        | n + 15 =>
                          intro _ ho
                          simp at ho
                        · intro f vs w' i o hS hMw hfi ho hd
                          simp only [putAll, Act.put, List.setIfInBounds_toArray, List.set_cons_succ, List.set_cons_zero]
                          revert hS hfi ho hd
                          match i with
                        | 0 => intro hS; exact Bool.noConfusion hS
                        | 1 =>
                          intro _ hfi ho hd
                          obtain rfl := (Option.some.inj ho).symm
                          clear ho hd
                          go_simp
                          exact hMw.do1 rfl hfi
                        | 2 => intro hS; exact Bool.noConfusion hS
                        | 3 => intro hS; exact Bool.noConfusion hS
                        | 4 => intro hS; exact Bool.noConfusion hS
                        | 5 =>
                          intro _ hfi ho hd
                          obtain rfl := (Option.some.inj ho).symm
                          have g4 := (hd ⟨4, .data⟩ (by simp) rfl).1
                          have d4 : vs 4 = (.pointer (some ⟨ub, 4, none⟩)) := (hd ⟨4, .data⟩ (by simp) rfl).2 rfl
                          clear ho hd
                          rw [d4]
                          have h6 : f 6 = false := by
                            cases e : f 6 with
                            | false => rfl
                            | true => exact absurd (hMw.k6 e).2 (by rw [hfi]; decide)
                          have c4 := cell_at (HG7.out.below (hMw.bel (hMw.n14 (hMw.n11 h6)))).blk 4
                          simp at c4
                          rw [HMK2.out] at c4
                          clear h6
                          go_simp
                          exact hMw.do5
                        | 6 =>
                          intro _ hfi ho hd
                          obtain rfl := (Option.some.inj ho).symm
                          have g1 := (hd ⟨1, .data⟩ (by simp) rfl).1
                          have g5 := (hd ⟨5, .data⟩ (by simp) rfl).1
                          clear ho hd
                          obtain ⟨q1, hv1, hr1, _⟩ := hMw.r1 g1 hfi
                          have hv5 := hMw.c5 g5
                          rcases HWN.out with ⟨hwa, hwc, hm0⟩ | ⟨gq, hgq, hm0, hgl, hnews⟩
                          · refine wp_append_none (.tmp 97) (.tmp 101) 49 rfl w6.heap.size 58 i0 3 Tryz.underlying49 hi (vs 1) 0 [] rfl hr1 (hv5.trans (by rw [hwa, hwc, hm0])) ?_
                            have hd := hMw.do6 rfl g1 g5 hfi (q := q1) (cap := 0) (w' := w') (by rw [hm0, XS0.out hm0, ← hv1]; exact hr1) (gby_below (Below.refl _ _) _) (.inl (by rw [hv1]; rfl))
                            exact ⟨.slice (some ⟨q1, 0, none⟩) mw 0, by rw [hv1, hm0] <;> rfl, hd⟩
                          · have hb := hMw.bel (hMw.n14 (hMw.n11 hfi))
                            refine wp_append_lies w' (.tmp 97) (.tmp 101) 49 rfl w6.heap.size 58 i0 (.agg #[.int .i64 0, .int .i64 0, .bool false]) 3 24 Tryz.underlying49 hi hz0 hz1 hz2 rfl (by decide) (vs 1) 0 [] rfl hr1 ⟨gq, 0, none⟩ mw wc' (Wk.flatMap wayL) (hv5.trans (by rw [hgq])) (by rw [← HMK2.out]; exact wayL_len Wk) (fun j u hj => ?_) (wayL_ones Wk) hm0 (by unfold maxLen; omega) (by omega) hb.size w'.heap.size rfl ?_
                            · rw [show (⟨gq, 0, none⟩ : Addr).add j = ⟨gq, j, none⟩ by unfold Addr.add; split <;> simp_all]
                              exact (hb.cell (p := ⟨gq, j, none⟩) hgl).trans (hnews j u hj)
                            · intro q cap w'' hown hg hq _
                              rw [Nat.zero_add, List.nil_append] at hown
                              have hd := hMw.do6 rfl g1 g5 hfi hown hg hq
                              exact ⟨.slice (some ⟨q, 0, none⟩) mw cap, by rw [Nat.zero_add mw] <;> rfl, hd⟩
                        | 7 => intro hS; exact Bool.noConfusion hS
                        | 8 => intro hS; exact Bool.noConfusion hS
                        | 9 => intro hS; exact Bool.noConfusion hS
                        | 10 =>
                          intro _ hfi ho hd
                          obtain rfl := (Option.some.inj ho).symm
                          have g9 := (hd ⟨9, .data⟩ (by simp) rfl).1
                          have d9 : vs 9 = (.agg #[.int .i64 y.1, .int .i64 y.2.1, .bool y.2.2]) := (hd ⟨9, .data⟩ (by simp) rfl).2 rfl
                          clear ho hd
                          rw [d9]
                          go_simp
                          exact hMw.do10 rfl hfi
                        | 11 =>
                          intro _ hfi ho hd
                          obtain rfl := (Option.some.inj ho).symm
                          have g6 := (hd ⟨6, .data⟩ (by simp) rfl).1
                          have g10 := (hd ⟨10, .data⟩ (by simp) rfl).1
                          clear ho hd
                          obtain ⟨q6, cap6, hv6, hr6, _⟩ := hMw.r6 g6 hfi
                          obtain ⟨p10, hv10, hh⟩ := hMw.r10 g10 hfi
                          have hb := hMw.bel (hMw.n14 hfi)
                          refine wp_append_lies w' (.tmp 102) (.tmp 106) 49 rfl w6.heap.size 58 i0 (.agg #[.int .i64 0, .int .i64 0, .bool false]) 3 24 Tryz.underlying49 hi hz0 hz1 hz2 rfl (by decide) (vs 6) mw (Wk.flatMap wayL) rfl hr6 ⟨p10, 0, none⟩ 1 1 (wayL y) hv10 rfl (World.news_of_block hh) (wayL_one y) (by omega) (by unfold maxLen; omega) (by omega) hb.size w'.heap.size rfl ?_
                          intro q cap w'' hown hg _ _
                          exact ⟨_, rfl, hMw.do11 rfl g6 g10 hfi hown hg⟩
                        | 12 => intro hS; exact Bool.noConfusion hS
                        | 13 => intro hS; exact Bool.noConfusion hS
                        | 14 =>
                          intro _ hfi ho hd
                          obtain rfl := (Option.some.inj ho).symm
                          have g13 := (hd ⟨13, .data⟩ (by simp) rfl).1
                          have d13 : vs 13 = (.pointer (some ⟨ub, 4, none⟩)) := (hd ⟨13, .data⟩ (by simp) rfl).2 rfl
                          have g11 := (hd ⟨11, .data⟩ (by simp) rfl).1
                          clear ho hd
                          rw [d13]
                          have hgb := HG7.out.below (hMw.bel hfi)
                          have c4 := cell_at hgb.blk 4
                          have f4 := free_at hgb.blk 4
                          simp at c4
                          obtain ⟨q, cap, hv, hM14⟩ := hMw.do14 g11 hfi hab undef
                          rw [hv] at hM14 ⊢
                          clear hgb
                          go_simp
                          exact ⟨undef, hM14⟩
                        | n + 15 =>
                          intro _ _ ho
                          simp at ho
                        · intro vs w' hMw hcs
                          obtain ⟨w3, va, vc, hw3, hb3, ho3⟩ := hMw.r14 rfl
                          have hR9 : RGr B ub { r4 with W := Wk ++ [y] } w' := by
                            rw [hw3, ← HMK2.out]
                            exact rg_putW (r := { r4 with W := Wk }) HG7.out hb3 (by rw [← HMK2.out] at ho3; exact ho3) (by simp only; rw [HMK2.out]; exact hmw6)
                          have hg9 : w5.grownBy w' (some ub) := by rw [hw3]; exact gby_trans H6.out.2 (gby_trans (gby_below hb3 _) (gby_setCell _ _ _))
                          have H9 := Lib.hid (And.intro hMw.arr (And.intro hR9 hg9))
                          clear hMw hcs hw3 hb3 ho3 hR9 hg9
                          simp only [putAll, Act.put, List.setIfInBounds_toArray, List.set_cons_succ, List.set_cons_zero]
                          go_wp2_with fail
                          go_roundw
                          case rel => exact ⟨k + 1, by omega, by go_num, H9.out.1, by rw [HW1.out]; exact H9.out.2.1, H9.out.2.2⟩
                          case measure => simp [intOf]; omega
                      · have HW1 : Hid (addWs r4.W wy (k + 1) = addWs r4.W wy k) := Lib.hid (by simp only [addWs]; rw [HY.out, hkn]; rfl)
                        have H6 := Lib.hid (And.intro hA6 (And.intro hR7 hgr6))
                        clear hkn hA6 hR7 hgr6 hb6
                        go_wp2_with fail
                        go_roundw
                        case rel => exact ⟨k + 1, by omega, by go_num, H6.out.1, by rw [HW1.out]; exact H6.out.2.1, H6.out.2.2⟩
                        case measure => simp [intOf]; omega
                    · obtain rfl : k = 2 := by omega
                      have HWE : Hid (addWs r4.W wy 2 = addW (addW r.W (xi, xc, xb)) (tq, xc, !xb)) := Lib.hid (by
                        simp only [addWs]
                        rw [HWY.out, H5.out.2.2.2]
                        rfl)
                      clear hA
                      go_wp2_with fail
                      go_returns
                      unfold IsStep17
                      rw [HST2.out]
                      refine ⟨rfl, ?_, gby_trans H5.out.2.2.1 HGR.out⟩
                      rw [← HWE.out]
                      exact HR6.out
                · have HST2 : Hid (stepR r (xi, xc, xb) = (r4, 0, er)) := Lib.hid (by rw [HST.out, if_pos (by simpa using her)])
                  have e5 : (er != 0) = true := by simp [her]
                  clear her hX4 HST
                  go_wp2_with fail
                  go_returns
                  unfold IsStep17
                  rw [HST2.out]
                  exact ⟨rfl, H4.out.1, H4.out.2.2.1⟩
end Go.Proofs.YtoadihebdaooaaaGreat
