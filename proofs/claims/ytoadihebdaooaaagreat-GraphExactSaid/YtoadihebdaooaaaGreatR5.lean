/- The document's graph: what it is in memory; contracts of its Find and Knows. -/
import Derived.Test.YtoadihebdaooaaaGreatC1
import Derived.Test.YtoadihebdaooaaaGreatR1
import Derived.Test.YtoadihebdaooaaaGreatR4
namespace Go.Proofs.YtoadihebdaooaaaGreat
open Go.RowKit
set_option linter.unusedVariables false
/-- The document's graph. -/
structure RG where
  ver : Int
  archs : Int
  cs : List Cmp
  L : List Int
  W : List (Int × Int × Bool)
def wayL (x : Int × Int × Bool) : List Value := [.int .i64 x.1, .int .i64 x.2.1, .bool x.2.2]
/-- It stands in block ub; its schema lies below block B, what it makes from B on. -/
structure RGAt (B ub : Nat) (r : RG) (w : World) (ca : Option Addr) (cl cc : Nat) (la : Option Addr) (lc : Nat) (wa : Option Addr) (wc : Nat) : Prop where
  blk : w.heap[ub]? = some (.cells #[.int .i64 r.ver, .slice ca cl cc, .int .i64 r.archs, .slice la r.L.length lc, .slice wa r.W.length wc] 51 (0, 0))
  comps : CompsAt B w ca cl r.cs
  row : w.ownsRow B 34 1 (.slice la r.L.length lc) r.L.length (r.L.map (.int .u32))
  ways : w.ownsRow B 58 3 (.slice wa r.W.length wc) r.W.length (r.W.flatMap wayL)
  lt : B ≤ ub
  sL : r.L.length ≤ 1000
  sW : r.W.length ≤ 1000000
  nw : r.W.length = 0 → wa = none ∧ wc = 0
def RGr (B ub : Nat) (r : RG) (w : World) : Prop := ∃ ca cl cc la lc wa wc, RGAt B ub r w ca cl cc la lc wa wc
theorem RGAt.below {B ub : Nat} {r : RG} {w w' : World} {ca : Option Addr} {cl cc : Nat} {la : Option Addr} {lc : Nat} {wa : Option Addr} {wc : Nat} (h : RGAt B ub r w ca cl cc la lc wa wc) (hb : Below w.heap.size w w') : RGAt B ub r w' ca cl cc la lc wa wc :=
  { h with blk := keep hb h.blk, comps := h.comps.below (hb.mono (by have := lt_some h.blk; have := h.lt; omega)), row := ownsRow_below h.row hb, ways := ownsRow_below h.ways hb }
theorem RGr.below {B ub : Nat} {r : RG} {w w' : World} (h : RGr B ub r w) (hb : Below w.heap.size w w') : RGr B ub r w' := by
  obtain ⟨ca, cl, cc, la, lc, wa, wc, h⟩ := h
  exact ⟨ca, cl, cc, la, lc, wa, wc, h.below hb⟩
/-- A set's place; -1. -/
def posZ (s : Int) (l : List Int) : Int := match posOf s l with | some i => i | none => -1
def posGo (s : Int) : Nat → List Int → Int
  | _, [] => -1
  | k, x :: r => if x = s then k else posGo s (k + 1) r
theorem posGo_eq (s : Int) : ∀ (l : List Int) (k : Nat), posGo s k l = match posOf s l with | some i => ((k + i : Nat) : Int) | none => -1
  | [], k => rfl
  | x :: r, k => by
    unfold posGo posOf
    by_cases h : x = s
    · rw [if_pos h, if_pos h]; rfl
    · rw [if_neg h, if_neg h, posGo_eq s r (k + 1)]
      cases posOf s r with
      | none => rfl
      | some i => simp only [Option.map_some]; congr 1; omega
theorem posZ_eq (s : Int) (l : List Int) : posZ s l = posGo s 0 l := by
  rw [posGo_eq]; unfold posZ; cases posOf s l <;> simp
set_option maxRecDepth 100000 in
theorem find17_any (B ub : Nat) (r : RG) (s : Int) (w : World) (h : RGr B ub r w) : Calls Tryz.prog 25 #[.pointer (some ⟨ub, 0, none⟩), .int .u32 s] w fun e w' => e = .returned (.int .i64 (posZ s r.L)) ∧ w = w' := by
  obtain ⟨ca, cl, cc, la, lc, wa, wc, h⟩ := h
  have hn := h.sL
  have c3 := cell_at h.blk 3
  simp at c3
  have H := Lib.hid h
  have HE := Lib.hid (posZ_eq s r.L)
  clear h
  generalize hLn : r.L.length = n at *
  have HN := Lib.hid hLn
  clear hLn
  go_enter Tryz.func25, Tryz.ntmps25
  go_wp2_with fail
  go_loop [5] (fun i => ∃ k : Nat, k ≤ n ∧ i = .int .i64 k ∧ posZ s r.L = posGo s k (r.L.drop k)) (fun i => n - (intOf i).toNat)
  case atStart => exact ⟨0, by omega, rfl, HE.out⟩
  case round =>
    obtain ⟨k, hk, rfl, hgo⟩ := hrel
    have HG := Lib.hid hgo
    clear hgo
    by_cases hlt : k < n
    · obtain ⟨x, hx⟩ : ∃ x, r.L[k]? = some x := ⟨_, List.getElem?_eq_getElem (by have := HN.out; omega)⟩
      obtain ⟨q, rfl, hq⟩ := row_get H.out.row (k := k) (u := .int .u32 x) (by rw [List.getElem?_map, hx]; rfl)
      have hstep := Lib.hid (HG.out.trans (by rw [drop_get hx]))
      have i1 : (0 : Int) ≤ (k : Int) := by omega
      have i2 : (k : Int) < (n : Int) := by omega
      clear hx
      by_cases hxs : x = s
      · have H1 : Hid (posZ s r.L = k) := Lib.hid (by rw [hstep.out]; unfold posGo; rw [if_pos hxs])
        have e1 : (x == s) = true := by simp [hxs]
        clear hxs
        go_wp2_with fail
        go_returns
        exact ⟨ret_intk H1.out.symm, rfl⟩
      · have H1 : Hid (posZ s r.L = posGo s (k + 1) (r.L.drop (k + 1))) := Lib.hid (by rw [hstep.out]; conv => lhs; unfold posGo
                                                                                       rw [if_neg hxs])
        have e1 : (x == s) = false := by simp [hxs]
        clear hxs
        go_wp2_with fail
        go_round
        case rel => exact ⟨k + 1, by omega, by go_num, H1.out⟩
        case measure => simp [intOf]; omega
    · obtain rfl : k = n := by omega
      have H1 : Hid (posZ s r.L = -1) := Lib.hid (by rw [HG.out, List.drop_eq_nil_of_le (by have := HN.out; omega)]; rfl)
      go_wp2_with fail
      go_returns
      exact ⟨ret_intk H1.out.symm, rfl⟩
def knowsB (W : List (Int × Int × Bool)) (x : Int × Int × Bool) : Bool := W.any fun y => decide (y = x)
theorem wayL_get (l : List (Int × Int × Bool)) {k : Nat} {y : Int × Int × Bool} (h : l[k]? = some y) : (l.flatMap wayL)[k * 3]? = some (.int .i64 y.1) ∧ (l.flatMap wayL)[k * 3 + 1]? = some (.int .i64 y.2.1) ∧ (l.flatMap wayL)[k * 3 + 2]? = some (.bool y.2.2) :=
  flat3 (fun y : Int × Int × Bool => Value.int .i64 y.1) (fun y => .int .i64 y.2.1) (fun y => .bool y.2.2) l k y h
set_option maxRecDepth 100000 in
set_option maxHeartbeats 1000000 in
theorem knows17_any (B ub : Nat) (r : RG) (x : Int × Int × Bool) (w : World) (h : RGr B ub r w) : Calls Tryz.prog 26 #[.pointer (some ⟨ub, 0, none⟩), .agg #[.int .i64 x.1, .int .i64 x.2.1, .bool x.2.2]] w fun e w' => e = .returned (.bool (knowsB r.W x)) ∧ Below w.heap.size w w' := by
  obtain ⟨ca, cl, cc, la, lc, wa, wc, h⟩ := h
  obtain ⟨xi, xc, xb⟩ := x
  have hn := h.sW
  have hX := heap_alloc_new w (.cells #[.int .i64 xi, .int .i64 xc, .bool xb] 58)
  have hbel : Below w.heap.size w (w.alloc (.cells #[.int .i64 xi, .int .i64 xc, .bool xb] 58)) := by go_grown
  have H := Lib.hid (And.intro (h.below hbel) (And.intro hX hbel))
  clear h hX hbel
  generalize hWn : r.W.length = n at *
  have HN := Lib.hid hWn
  clear hWn
  go_enter Tryz.func26, Tryz.ntmps26
  go_wp2_with fail
  generalize w.alloc (.cells #[.int .i64 xi, .int .i64 xc, .bool xb] 58) = V at *
  generalize hxb : w.heap.size = xk at *
  have HXB := Lib.hid hxb
  clear hxb
  go_loopw [5] (fun i wr => ∃ k : Nat, k ≤ n ∧ i = .int .i64 k ∧ knowsB (r.W.take k) (xi, xc, xb) = false ∧ Below V.heap.size V wr) (fun i _ => n - (intOf i).toNat)
  case atStart => exact ⟨0, by omega, rfl, rfl, Below.refl _ _⟩
  case round =>
    obtain ⟨k, hk, rfl, hno, hbw⟩ := hrel
    have HNO := Lib.hid hno
    have HBW := Lib.hid hbw
    have hg := H.out.1.below hbw
    have hXw := keep hbw H.out.2.1
    have c3 := cell_at hg.blk 4
    have x0 := cell_at hXw 0
    have x1 := cell_at hXw 1
    have x2 := cell_at hXw 2
    simp at c3 x0 x1 x2
    rw [HN.out] at c3
    have HG := Lib.hid hg
    clear hno hbw hg hXw
    by_cases hlt : k < n
    · obtain ⟨y, hy⟩ : ∃ y, r.W[k]? = some y := ⟨_, List.getElem?_eq_getElem (by have := HN.out; omega)⟩
      obtain ⟨w0, w1, w2⟩ := wayL_get r.W hy
      have hrow := HG.out.ways
      rw [HN.out] at hrow
      obtain ⟨q, rfl, _, hql, hqc⟩ := row_block hrow (by omega)
      have z0 := hqc _ _ w0
      have z1 := hqc _ _ w1
      have z2 := hqc _ _ w2
      obtain ⟨yi, yc, yb⟩ := y
      simp only at z0 z1 z2
      have i1 : (0 : Int) ≤ (k : Int) := by omega
      have i2 : (k : Int) < (n : Int) := by omega
      have HY := Lib.hid hy
      clear hrow hqc w0 w1 w2 hy
      rcases (by
        by_cases h1 : yi = xi
        · by_cases h2 : yc = xc
          · by_cases h3 : yb = xb
            · exact .inl ⟨h1, h2, h3⟩
            · exact .inr (.inl ⟨h1, h2, h3⟩)
          · exact .inr (.inr (.inl ⟨h1, h2⟩))
        · exact .inr (.inr (.inr h1)) : (yi = xi ∧ yc = xc ∧ yb = xb) ∨ (yi = xi ∧ yc = xc ∧ ¬ yb = xb) ∨ (yi = xi ∧ ¬ yc = xc) ∨ ¬ yi = xi) with ⟨h1, h2, h3⟩ | ⟨h1, h2, h3⟩ | ⟨h1, h2⟩ | h1
      · have HK : Hid (knowsB r.W (xi, xc, xb) = true) := Lib.hid (by
          unfold knowsB; rw [List.any_eq_true]; exact ⟨_, List.mem_of_getElem? HY.out, by simp [h1, h2, h3]⟩)
        subst h1 h2 h3
        go_wp2_with fail
        go_quiet (fail)
        go_wp2_with fail
        go_returns
        exact ⟨ret_bool HK.out.symm, by rw [HXB.out]; exact H.out.2.2.trans ((below_drewN HBW.out _).mono (by have := H.out.2.2.size; rw [HXB.out] at this; exact this))⟩
      · subst h1 h2
        have HNE : Hid (¬ (yi, yc, yb) = (yi, yc, xb)) := Lib.hid (by simp [h3])
        have e1 : (yb == xb) = false := by simp [h3]
        clear h3
        go_wp2_with fail
        go_quiet (fail)
        go_wp2_with fail
        go_roundw
        case rel =>
          refine ⟨k + 1, by omega, by go_num, ?_, below_drewN HBW.out _⟩
          rw [take_snoc HY.out]
          have h0 := HNO.out
          unfold knowsB at h0 ⊢
          rw [List.any_append, h0]
          simp [HNE.out]
        case measure => simp [intOf]; omega
      · subst h1
        have HNE : Hid (¬ (yi, yc, yb) = (yi, xc, xb)) := Lib.hid (by simp [h2])
        have e1 : (yc == xc) = false := by simp [h2]
        clear h2
        go_wp2_with fail
        go_quiet (fail)
        go_wp2_with fail
        go_roundw
        case rel =>
          refine ⟨k + 1, by omega, by go_num, ?_, below_drewN HBW.out _⟩
          rw [take_snoc HY.out]
          have h0 := HNO.out
          unfold knowsB at h0 ⊢
          rw [List.any_append, h0]
          simp [HNE.out]
        case measure => simp [intOf]; omega
      · have HNE : Hid (¬ (yi, yc, yb) = (xi, xc, xb)) := Lib.hid (by simp [h1])
        have e1 : (yi == xi) = false := by simp [h1]
        clear h1
        go_wp2_with fail
        go_quiet (fail)
        go_wp2_with fail
        go_roundw
        case rel =>
          refine ⟨k + 1, by omega, by go_num, ?_, below_drewN HBW.out _⟩
          rw [take_snoc HY.out]
          have h0 := HNO.out
          unfold knowsB at h0 ⊢
          rw [List.any_append, h0]
          simp [HNE.out]
        case measure => simp [intOf]; omega
    · obtain rfl : k = n := by omega
      have HK : Hid (knowsB r.W (xi, xc, xb) = false) := Lib.hid (by have := HNO.out; rwa [List.take_of_length_le (by have := HN.out; omega)] at this)
      go_wp2_with fail
      go_returns
      exact ⟨ret_bool HK.out.symm, by rw [HXB.out]; exact H.out.2.2.trans (HBW.out.mono (by have := H.out.2.2.size; rw [HXB.out] at this; exact this))⟩
end Go.Proofs.YtoadihebdaooaaaGreat
