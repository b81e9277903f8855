/- The writer of bytes: what it holds, what stays beside it; Num, Raw, Name, Part, String. Printed by mkfor.py out of M2.in. · Mint, plain: what keeps each name. -/
import Derived.Test.YtgnilkjdpfbjgaaGreatQ1
import Derived.Test.YtgnilkjdpfbjgaaGreatQ5
import Derived.Lib.Builder
import Derived.OneCell
import Derived.Laws.BytesString
import Derived.Lib.AppendStr
import Derived.Test.YtgnilkjdpfbjgaaGreatQ4
namespace Go.Proofs.YtgnilkjdpfbjgaaGreat
open Go.RowKit
set_option linter.unusedVariables false
/-- What a writer may change: writers, and rows of bytes. -/
def Wk (o : Obj) : Prop := ∃ cur fz, o = .cells cur 133 fz ∨ o = .cells cur 5 fz
structure WF (B : Nat) (w w' : World) : Prop where
  bel : Below B w w'
  blk : ∀ (q : Nat) (o : Obj), w.heap[q]? = some o → ¬ Wk o → w'.heap[q]? = some o
theorem WF.refl (B : Nat) (w : World) : WF B w w := ⟨Below.refl _ _, fun _ _ h _ => h⟩
theorem WF.trans {B : Nat} {a b c : World} (h : WF B a b) (k : WF B b c) : WF B a c := ⟨h.bel.trans k.bel, fun q o ho hn => k.blk q o (h.blk q o ho hn) hn⟩
theorem WF.mono {B B' : Nat} {a b : World} (h : WF B a b) (hB : B' ≤ B) : WF B' a b := ⟨h.bel.mono hB, h.blk⟩
theorem WF.of {B : Nat} {w w' : World} (h : Below w.heap.size w w') (hB : B ≤ w.heap.size) : WF B w w' := ⟨h.mono hB, fun q o ho _ => keep h ho⟩
theorem WF.alloc {B : Nat} {a b : World} (h : WF B a b) (hB : B ≤ b.heap.size) (o : Obj) : WF B a (b.alloc o) := ⟨h.bel.alloc hB o, fun q o' ho hn => keepA _ (h.blk q o' ho hn)⟩
theorem WF.put {B b n : Nat} {w wr w2 : World} {v v0 u : Value} {xs : List Value} (h : WF B w wr) (hB : B ≤ b) (hs : B ≤ wr.heap.size) (hbk : wr.heap[b]? = some (.cells #[v0] 133 (0, 0))) (hown : wr.ownsRow B 5 1 v n xs) (hg : wr.grownBy w2 v.ownBlock) :
    WF B w (w2.setCell ⟨b, 0, none⟩ u) := by
  refine ⟨(h.bel.grown hg hs (fun x hx => (hown.lt x hx).1)).setCell hB _, fun q o ho hn => ?_⟩
  have h1 := h.blk q o ho hn
  have hqb : q ≠ b := fun e => by subst e; rw [hbk] at h1; cases h1; exact hn ⟨_, _, .inl rfl⟩
  rw [hset_ne _ _ _ _ (by simpa using hqb)]
  refine keepG hg h1 fun e => ?_
  obtain ⟨cur, hc⟩ := row_type1 hown e.symm
  rw [hc] at h1
  cases h1
  exact hn ⟨_, _, .inr rfl⟩
/-- A writer at a block: its bytes. -/
structure WrS (B b : Nat) (bs : List UInt8) (w : World) : Prop where
  hB : B ≤ b
  size : B ≤ w.heap.size
  held : ∃ v, w.heap[b]? = some (.cells #[v] 133 (0, 0)) ∧ w.ownsRow B 5 1 v bs.length (Lib.byteCells bs)
theorem WrS.made (w : World) : WrS w.heap.size w.heap.size [] (w.alloc (.cells #[.slice none 0 0] 133)) :=
  ⟨Nat.le_refl _, by simp, _, heap_alloc_new _ _, World.ownsRow_nil _ _ _ _⟩
theorem WrS.kept {B b : Nat} {bs : List UInt8} {w w' : World} (h : WrS B b bs w) (hz : w.heap.size ≤ w'.heap.size) (hk : ∀ (q : Nat) (o : Obj), w.heap[q]? = some o → Wk o → w'.heap[q]? = some o) : WrS B b bs w' := by
  obtain ⟨h1, h2, v, hv, ho⟩ := h
  refine ⟨h1, by omega, v, hk _ _ hv ⟨_, _, .inl rfl⟩, ho.1, ho.2.imp_right ?_⟩
  rintro ⟨g, cap, cur, hu, hb, hg, r⟩
  exact ⟨g, cap, cur, hu, hb, hk _ _ hg ⟨_, _, .inr rfl⟩, r⟩
theorem WrS.below {B b : Nat} {bs : List UInt8} {w w' : World} (h : WrS B b bs w) (hb : Below w.heap.size w w') : WrS B b bs w' := h.kept hb.size fun q o ho _ => keep hb ho
theorem WrS.alloc {B b : Nat} {bs : List UInt8} {w : World} (h : WrS B b bs w) (o : Obj) : WrS B b bs (w.alloc o) := h.kept (by simp) fun q o' ho _ => keepA _ ho
theorem iswide_any (k : Int) (w : World) (h : k = 1 ∨ k = 2 ∨ k = 4 ∨ k = 8) : Calls Tryz.prog 79 #[.int .i64 k] w fun e w' => e = .returned (.bool true) ∧ w = w' := by
  rcases h with rfl | rfl | rfl | rfl <;>
  · go_enter Tryz.func79, Tryz.ntmps79
    go_wp2_with fail
    go_returns
    exact ⟨rfl, rfl⟩
theorem byteCells_app (l r : List UInt8) : Lib.byteCells (l ++ r) = Lib.byteCells l ++ Lib.byteCells r := by simp [Lib.byteCells]
theorem leB_succ (n k : Nat) : Lib.byteCells (leB n (k + 1)) = Lib.byteCells (leB n k) ++ [.int .u8 ((n / 256 ^ k % 256 : Nat) : Int)] := by
  rw [leB, byteCells_app]
  simp [Lib.byteCells]
theorem Tryz.info5 : (Tryz.prog.info? 5).map (fun i => (i.zero, i.size, i.bytes)) = some (some (.int .u8 0), 1, 1) := by kernel_rfl
set_option maxRecDepth 100000 in
set_option maxHeartbeats 1000000 in
theorem num_1 (B b : Nat) (bs : List UInt8) (v : Value) (n : Nat) (w : World) (hB : B ≤ b) (hBw : B ≤ w.heap.size) (hbk : w.heap[b]? = some (.cells #[v] 133 (0, 0))) (hown : w.ownsRow B 5 1 v bs.length (Lib.byteCells bs))
    (hn : n < 256) (hl : bs.length ≤ 100000) :
    Calls Tryz.prog 46 #[.pointer (some ⟨b, 0, none⟩), .int .i64 1, .int .u64 (n : Int)] w fun e w' => e = .returned (.bool true) ∧ ∃ v', w'.heap[b]? = some (.cells #[v'] 133 (0, 0)) ∧ w'.ownsRow B 5 1 v' (bs.length + 1) (Lib.byteCells (bs ++ leB n 1)) ∧ WF B w w' := by
  obtain ⟨i0, hi, hz0, hz1, hz2⟩ := info_parts Tryz.info5
  have hsh : ((n : Int) / 256 != 0) = false := by
    have : (n : Int) / 256 = 0 := by omega
    rw [this]; rfl
  obtain ⟨L, hL⟩ : ∃ L, L = bs.length := ⟨_, rfl⟩
  rw [← hL] at hown hl ⊢
  have HL := Lib.hid hL
  have HN := Lib.hid hn
  have HO := Lib.hid hown
  have HB := Lib.hid hbk
  clear hL hn hown hbk
  go_enter Tryz.func46, Tryz.ntmps46
  go_wp2_with fail
  refine (iswide_any _ _ (by simp)).mono ?_
  rintro e w1 ⟨rfl, rfl⟩
  go_wp2_with fail
  go_loopw [2, 27] (fun nn i wr => ∃ (j : Nat) (v' : Value), j ≤ 1 ∧ i = .int .i64 j ∧ nn = .int .u64 ((n / 256 ^ j : Nat) : Int) ∧ wr.heap[b]? = some (.cells #[v'] 133 (0, 0)) ∧ wr.ownsRow B 5 1 v' (L + j) (Lib.byteCells (bs ++ leB n j)) ∧ WF B w wr) (fun _ i _ => 1 - (intOf i).toNat)
  case atStart => exact ⟨0, v, by omega, rfl, by simp, HB.out, by simpa [leB] using HO.out, WF.refl _ _⟩
  case round =>
    obtain ⟨j, v', hj, rfl, rfl, hbk, hown, hbel⟩ := hrel
    by_cases hlt : j < 1
    · obtain ⟨va, vc, rfl⟩ := ownsRow_slice hown
      have hBwr : B ≤ wr.heap.size := Nat.le_trans hBw (by have := hbel.bel.size; exact this)
      have c0 := cell_at hbk 0
      have f0 := free_at hbk 0
      simp at c0
      have hne := ownsRow_ne_block3 hown hbk (fun cur he => by cases he)
      generalize hm : n / 256 ^ j = m at *
      have HM := Lib.hid hm
      have hm0 : (0 : Int) ≤ (m : Int) := by omega
      have hmlt : (m : Int) ≤ 18446744073709551615 := by
        have h1 : n / 256 ^ j ≤ n := Nat.div_le_self _ _
        have := HN.out
        omega
      have HOW := Lib.hid hown
      have HBK := Lib.hid hbk
      have HNE := Lib.hid hne
      clear hown hbk hm hne
      go_wp2_with (at_builtin; go_loud (refine wpList_append_own _ rfl (.tmp 33) (.tmp 36) 131 rfl B 5 i0 (.int .u8 0) 1 1 Tryz.underlying131 hi hz0 hz1 hz2 rfl (by decide) (.slice va (L + j) vc) (L + j) _ rfl (HOW.out.alloc _) ⟨wr.heap.size, 0, none⟩ 1 1 [.int .u8 ((m : Int) % 256)] rfl rfl ?c1 ?c2 ?c3 ?c4 ?c5 ?_))
      case c1 =>
        intro i u hu
        match i, hu with
        | 0, hu => simp at hu; subst hu; simp [Addr.add]
      case c2 => intro u hu; simp at hu; subst hu; rfl
      case c3 => unfold maxLen; omega
      case c4 => omega
      case c5 => simp; omega
      intro v2 w2 hown2 hg2 _
      obtain ⟨va2, vc2, rfl⟩ := ownsRow_slice hown2
      have hbk2 := keepG hg2 (keepA _ HBK.out) HNE.out
      have d0 := cell_at hbk2 0
      have d1 := free_at hbk2 0
      simp at d0
      have hbel2 := (hbel.alloc hBwr _).put (u := .slice va2 (L + j + 1) vc2) hB (by simp; omega) (keepA _ HBK.out) (HOW.out.alloc _) hg2
      have hset := hset w2 b 0 (.slice va2 (L + j + 1) vc2) _ _ _ hbk2
      have hown3 := ownsRow_setCell_other hown2 (a := ⟨b, 0, none⟩) (fun e => ownsRow_ne_block3 hown2 hbk2 (fun cur he => by cases he) e.symm) (.slice va2 (L + j + 1) vc2)
      have HS := Lib.hid hset
      have HO2 := Lib.hid hown3
      have HB2 := Lib.hid hbel2
      have HBK2 := Lib.hid hbk2
      clear hset hown2 hown3 hbel2 hbk2
      go_wp2
      go_roundw
      case rel =>
        refine ⟨j + 1, _, by omega, by go_num, ?_, HS.out, ?_, HB2.out⟩
        · rw [Nat.pow_succ, ← Nat.div_div_eq_div_mul, HM.out]
          simp
        · have := HO2.out
          rw [byteCells_app, leB_succ, ← List.append_assoc, ← byteCells_app, HM.out]
          simpa [Nat.add_assoc] using this
      case measure => simp [intOf]; omega
    · obtain rfl : j = 1 := by omega
      go_wp2
      go_returns
      exact ⟨rfl, _, hbk, hown, hbel⟩
set_option maxRecDepth 100000 in
set_option maxHeartbeats 1000000 in
theorem num_2 (B b : Nat) (bs : List UInt8) (v : Value) (n : Nat) (w : World) (hB : B ≤ b) (hBw : B ≤ w.heap.size) (hbk : w.heap[b]? = some (.cells #[v] 133 (0, 0))) (hown : w.ownsRow B 5 1 v bs.length (Lib.byteCells bs))
    (hn : n < 65536) (hl : bs.length ≤ 100000) :
    Calls Tryz.prog 46 #[.pointer (some ⟨b, 0, none⟩), .int .i64 2, .int .u64 (n : Int)] w fun e w' => e = .returned (.bool true) ∧ ∃ v', w'.heap[b]? = some (.cells #[v'] 133 (0, 0)) ∧ w'.ownsRow B 5 1 v' (bs.length + 2) (Lib.byteCells (bs ++ leB n 2)) ∧ WF B w w' := by
  obtain ⟨i0, hi, hz0, hz1, hz2⟩ := info_parts Tryz.info5
  have hsh : ((n : Int) / 65536 != 0) = false := by
    have : (n : Int) / 65536 = 0 := by omega
    rw [this]; rfl
  obtain ⟨L, hL⟩ : ∃ L, L = bs.length := ⟨_, rfl⟩
  rw [← hL] at hown hl ⊢
  have HL := Lib.hid hL
  have HN := Lib.hid hn
  have HO := Lib.hid hown
  have HB := Lib.hid hbk
  clear hL hn hown hbk
  go_enter Tryz.func46, Tryz.ntmps46
  go_wp2_with fail
  refine (iswide_any _ _ (by simp)).mono ?_
  rintro e w1 ⟨rfl, rfl⟩
  go_wp2_with fail
  go_loopw [2, 27] (fun nn i wr => ∃ (j : Nat) (v' : Value), j ≤ 2 ∧ i = .int .i64 j ∧ nn = .int .u64 ((n / 256 ^ j : Nat) : Int) ∧ wr.heap[b]? = some (.cells #[v'] 133 (0, 0)) ∧ wr.ownsRow B 5 1 v' (L + j) (Lib.byteCells (bs ++ leB n j)) ∧ WF B w wr) (fun _ i _ => 2 - (intOf i).toNat)
  case atStart => exact ⟨0, v, by omega, rfl, by simp, HB.out, by simpa [leB] using HO.out, WF.refl _ _⟩
  case round =>
    obtain ⟨j, v', hj, rfl, rfl, hbk, hown, hbel⟩ := hrel
    by_cases hlt : j < 2
    · obtain ⟨va, vc, rfl⟩ := ownsRow_slice hown
      have hBwr : B ≤ wr.heap.size := Nat.le_trans hBw (by have := hbel.bel.size; exact this)
      have c0 := cell_at hbk 0
      have f0 := free_at hbk 0
      simp at c0
      have hne := ownsRow_ne_block3 hown hbk (fun cur he => by cases he)
      generalize hm : n / 256 ^ j = m at *
      have HM := Lib.hid hm
      have hm0 : (0 : Int) ≤ (m : Int) := by omega
      have hmlt : (m : Int) ≤ 18446744073709551615 := by
        have h1 : n / 256 ^ j ≤ n := Nat.div_le_self _ _
        have := HN.out
        omega
      have HOW := Lib.hid hown
      have HBK := Lib.hid hbk
      have HNE := Lib.hid hne
      clear hown hbk hm hne
      go_wp2_with (at_builtin; go_loud (refine wpList_append_own _ rfl (.tmp 33) (.tmp 36) 131 rfl B 5 i0 (.int .u8 0) 1 1 Tryz.underlying131 hi hz0 hz1 hz2 rfl (by decide) (.slice va (L + j) vc) (L + j) _ rfl (HOW.out.alloc _) ⟨wr.heap.size, 0, none⟩ 1 1 [.int .u8 ((m : Int) % 256)] rfl rfl ?c1 ?c2 ?c3 ?c4 ?c5 ?_))
      case c1 =>
        intro i u hu
        match i, hu with
        | 0, hu => simp at hu; subst hu; simp [Addr.add]
      case c2 => intro u hu; simp at hu; subst hu; rfl
      case c3 => unfold maxLen; omega
      case c4 => omega
      case c5 => simp; omega
      intro v2 w2 hown2 hg2 _
      obtain ⟨va2, vc2, rfl⟩ := ownsRow_slice hown2
      have hbk2 := keepG hg2 (keepA _ HBK.out) HNE.out
      have d0 := cell_at hbk2 0
      have d1 := free_at hbk2 0
      simp at d0
      have hbel2 := (hbel.alloc hBwr _).put (u := .slice va2 (L + j + 1) vc2) hB (by simp; omega) (keepA _ HBK.out) (HOW.out.alloc _) hg2
      have hset := hset w2 b 0 (.slice va2 (L + j + 1) vc2) _ _ _ hbk2
      have hown3 := ownsRow_setCell_other hown2 (a := ⟨b, 0, none⟩) (fun e => ownsRow_ne_block3 hown2 hbk2 (fun cur he => by cases he) e.symm) (.slice va2 (L + j + 1) vc2)
      have HS := Lib.hid hset
      have HO2 := Lib.hid hown3
      have HB2 := Lib.hid hbel2
      have HBK2 := Lib.hid hbk2
      clear hset hown2 hown3 hbel2 hbk2
      go_wp2
      go_roundw
      case rel =>
        refine ⟨j + 1, _, by omega, by go_num, ?_, HS.out, ?_, HB2.out⟩
        · rw [Nat.pow_succ, ← Nat.div_div_eq_div_mul, HM.out]
          simp
        · have := HO2.out
          rw [byteCells_app, leB_succ, ← List.append_assoc, ← byteCells_app, HM.out]
          simpa [Nat.add_assoc] using this
      case measure => simp [intOf]; omega
    · obtain rfl : j = 2 := by omega
      go_wp2
      go_returns
      exact ⟨rfl, _, hbk, hown, hbel⟩
set_option maxRecDepth 100000 in
set_option maxHeartbeats 1000000 in
theorem num_4 (B b : Nat) (bs : List UInt8) (v : Value) (n : Nat) (w : World) (hB : B ≤ b) (hBw : B ≤ w.heap.size) (hbk : w.heap[b]? = some (.cells #[v] 133 (0, 0))) (hown : w.ownsRow B 5 1 v bs.length (Lib.byteCells bs))
    (hn : n < 4294967296) (hl : bs.length ≤ 100000) :
    Calls Tryz.prog 46 #[.pointer (some ⟨b, 0, none⟩), .int .i64 4, .int .u64 (n : Int)] w fun e w' => e = .returned (.bool true) ∧ ∃ v', w'.heap[b]? = some (.cells #[v'] 133 (0, 0)) ∧ w'.ownsRow B 5 1 v' (bs.length + 4) (Lib.byteCells (bs ++ leB n 4)) ∧ WF B w w' := by
  obtain ⟨i0, hi, hz0, hz1, hz2⟩ := info_parts Tryz.info5
  have hsh : ((n : Int) / 4294967296 != 0) = false := by
    have : (n : Int) / 4294967296 = 0 := by omega
    rw [this]; rfl
  obtain ⟨L, hL⟩ : ∃ L, L = bs.length := ⟨_, rfl⟩
  rw [← hL] at hown hl ⊢
  have HL := Lib.hid hL
  have HN := Lib.hid hn
  have HO := Lib.hid hown
  have HB := Lib.hid hbk
  clear hL hn hown hbk
  go_enter Tryz.func46, Tryz.ntmps46
  go_wp2_with fail
  refine (iswide_any _ _ (by simp)).mono ?_
  rintro e w1 ⟨rfl, rfl⟩
  go_wp2_with fail
  go_loopw [2, 27] (fun nn i wr => ∃ (j : Nat) (v' : Value), j ≤ 4 ∧ i = .int .i64 j ∧ nn = .int .u64 ((n / 256 ^ j : Nat) : Int) ∧ wr.heap[b]? = some (.cells #[v'] 133 (0, 0)) ∧ wr.ownsRow B 5 1 v' (L + j) (Lib.byteCells (bs ++ leB n j)) ∧ WF B w wr) (fun _ i _ => 4 - (intOf i).toNat)
  case atStart => exact ⟨0, v, by omega, rfl, by simp, HB.out, by simpa [leB] using HO.out, WF.refl _ _⟩
  case round =>
    obtain ⟨j, v', hj, rfl, rfl, hbk, hown, hbel⟩ := hrel
    by_cases hlt : j < 4
    · obtain ⟨va, vc, rfl⟩ := ownsRow_slice hown
      have hBwr : B ≤ wr.heap.size := Nat.le_trans hBw (by have := hbel.bel.size; exact this)
      have c0 := cell_at hbk 0
      have f0 := free_at hbk 0
      simp at c0
      have hne := ownsRow_ne_block3 hown hbk (fun cur he => by cases he)
      generalize hm : n / 256 ^ j = m at *
      have HM := Lib.hid hm
      have hm0 : (0 : Int) ≤ (m : Int) := by omega
      have hmlt : (m : Int) ≤ 18446744073709551615 := by
        have h1 : n / 256 ^ j ≤ n := Nat.div_le_self _ _
        have := HN.out
        omega
      have HOW := Lib.hid hown
      have HBK := Lib.hid hbk
      have HNE := Lib.hid hne
      clear hown hbk hm hne
      go_wp2_with (at_builtin; go_loud (refine wpList_append_own _ rfl (.tmp 33) (.tmp 36) 131 rfl B 5 i0 (.int .u8 0) 1 1 Tryz.underlying131 hi hz0 hz1 hz2 rfl (by decide) (.slice va (L + j) vc) (L + j) _ rfl (HOW.out.alloc _) ⟨wr.heap.size, 0, none⟩ 1 1 [.int .u8 ((m : Int) % 256)] rfl rfl ?c1 ?c2 ?c3 ?c4 ?c5 ?_))
      case c1 =>
        intro i u hu
        match i, hu with
        | 0, hu => simp at hu; subst hu; simp [Addr.add]
      case c2 => intro u hu; simp at hu; subst hu; rfl
      case c3 => unfold maxLen; omega
      case c4 => omega
      case c5 => simp; omega
      intro v2 w2 hown2 hg2 _
      obtain ⟨va2, vc2, rfl⟩ := ownsRow_slice hown2
      have hbk2 := keepG hg2 (keepA _ HBK.out) HNE.out
      have d0 := cell_at hbk2 0
      have d1 := free_at hbk2 0
      simp at d0
      have hbel2 := (hbel.alloc hBwr _).put (u := .slice va2 (L + j + 1) vc2) hB (by simp; omega) (keepA _ HBK.out) (HOW.out.alloc _) hg2
      have hset := hset w2 b 0 (.slice va2 (L + j + 1) vc2) _ _ _ hbk2
      have hown3 := ownsRow_setCell_other hown2 (a := ⟨b, 0, none⟩) (fun e => ownsRow_ne_block3 hown2 hbk2 (fun cur he => by cases he) e.symm) (.slice va2 (L + j + 1) vc2)
      have HS := Lib.hid hset
      have HO2 := Lib.hid hown3
      have HB2 := Lib.hid hbel2
      have HBK2 := Lib.hid hbk2
      clear hset hown2 hown3 hbel2 hbk2
      go_wp2
      go_roundw
      case rel =>
        refine ⟨j + 1, _, by omega, by go_num, ?_, HS.out, ?_, HB2.out⟩
        · rw [Nat.pow_succ, ← Nat.div_div_eq_div_mul, HM.out]
          simp
        · have := HO2.out
          rw [byteCells_app, leB_succ, ← List.append_assoc, ← byteCells_app, HM.out]
          simpa [Nat.add_assoc] using this
      case measure => simp [intOf]; omega
    · obtain rfl : j = 4 := by omega
      go_wp2
      go_returns
      exact ⟨rfl, _, hbk, hown, hbel⟩
set_option maxRecDepth 100000 in
set_option maxHeartbeats 1000000 in
theorem num_8 (B b : Nat) (bs : List UInt8) (v : Value) (n : Nat) (w : World) (hB : B ≤ b) (hBw : B ≤ w.heap.size) (hbk : w.heap[b]? = some (.cells #[v] 133 (0, 0))) (hown : w.ownsRow B 5 1 v bs.length (Lib.byteCells bs))
    (hn : n < 18446744073709551616) (hl : bs.length ≤ 100000) :
    Calls Tryz.prog 46 #[.pointer (some ⟨b, 0, none⟩), .int .i64 8, .int .u64 (n : Int)] w fun e w' => e = .returned (.bool true) ∧ ∃ v', w'.heap[b]? = some (.cells #[v'] 133 (0, 0)) ∧ w'.ownsRow B 5 1 v' (bs.length + 8) (Lib.byteCells (bs ++ leB n 8)) ∧ WF B w w' := by
  obtain ⟨i0, hi, hz0, hz1, hz2⟩ := info_parts Tryz.info5
  have hsh : ((n : Int) / 18446744073709551616 != 0) = false := by
    have : (n : Int) / 18446744073709551616 = 0 := by omega
    rw [this]; rfl
  obtain ⟨L, hL⟩ : ∃ L, L = bs.length := ⟨_, rfl⟩
  rw [← hL] at hown hl ⊢
  have HL := Lib.hid hL
  have HN := Lib.hid hn
  have HO := Lib.hid hown
  have HB := Lib.hid hbk
  clear hL hn hown hbk
  go_enter Tryz.func46, Tryz.ntmps46
  go_wp2_with fail
  refine (iswide_any _ _ (by simp)).mono ?_
  rintro e w1 ⟨rfl, rfl⟩
  go_wp2_with fail
  go_loopw [2, 27] (fun nn i wr => ∃ (j : Nat) (v' : Value), j ≤ 8 ∧ i = .int .i64 j ∧ nn = .int .u64 ((n / 256 ^ j : Nat) : Int) ∧ wr.heap[b]? = some (.cells #[v'] 133 (0, 0)) ∧ wr.ownsRow B 5 1 v' (L + j) (Lib.byteCells (bs ++ leB n j)) ∧ WF B w wr) (fun _ i _ => 8 - (intOf i).toNat)
  case atStart => exact ⟨0, v, by omega, rfl, by simp, HB.out, by simpa [leB] using HO.out, WF.refl _ _⟩
  case round =>
    obtain ⟨j, v', hj, rfl, rfl, hbk, hown, hbel⟩ := hrel
    by_cases hlt : j < 8
    · obtain ⟨va, vc, rfl⟩ := ownsRow_slice hown
      have hBwr : B ≤ wr.heap.size := Nat.le_trans hBw (by have := hbel.bel.size; exact this)
      have c0 := cell_at hbk 0
      have f0 := free_at hbk 0
      simp at c0
      have hne := ownsRow_ne_block3 hown hbk (fun cur he => by cases he)
      generalize hm : n / 256 ^ j = m at *
      have HM := Lib.hid hm
      have hm0 : (0 : Int) ≤ (m : Int) := by omega
      have hmlt : (m : Int) ≤ 18446744073709551615 := by
        have h1 : n / 256 ^ j ≤ n := Nat.div_le_self _ _
        have := HN.out
        omega
      have HOW := Lib.hid hown
      have HBK := Lib.hid hbk
      have HNE := Lib.hid hne
      clear hown hbk hm hne
      go_wp2_with (at_builtin; go_loud (refine wpList_append_own _ rfl (.tmp 33) (.tmp 36) 131 rfl B 5 i0 (.int .u8 0) 1 1 Tryz.underlying131 hi hz0 hz1 hz2 rfl (by decide) (.slice va (L + j) vc) (L + j) _ rfl (HOW.out.alloc _) ⟨wr.heap.size, 0, none⟩ 1 1 [.int .u8 ((m : Int) % 256)] rfl rfl ?c1 ?c2 ?c3 ?c4 ?c5 ?_))
      case c1 =>
        intro i u hu
        match i, hu with
        | 0, hu => simp at hu; subst hu; simp [Addr.add]
      case c2 => intro u hu; simp at hu; subst hu; rfl
      case c3 => unfold maxLen; omega
      case c4 => omega
      case c5 => simp; omega
      intro v2 w2 hown2 hg2 _
      obtain ⟨va2, vc2, rfl⟩ := ownsRow_slice hown2
      have hbk2 := keepG hg2 (keepA _ HBK.out) HNE.out
      have d0 := cell_at hbk2 0
      have d1 := free_at hbk2 0
      simp at d0
      have hbel2 := (hbel.alloc hBwr _).put (u := .slice va2 (L + j + 1) vc2) hB (by simp; omega) (keepA _ HBK.out) (HOW.out.alloc _) hg2
      have hset := hset w2 b 0 (.slice va2 (L + j + 1) vc2) _ _ _ hbk2
      have hown3 := ownsRow_setCell_other hown2 (a := ⟨b, 0, none⟩) (fun e => ownsRow_ne_block3 hown2 hbk2 (fun cur he => by cases he) e.symm) (.slice va2 (L + j + 1) vc2)
      have HS := Lib.hid hset
      have HO2 := Lib.hid hown3
      have HB2 := Lib.hid hbel2
      have HBK2 := Lib.hid hbk2
      clear hset hown2 hown3 hbel2 hbk2
      go_wp2
      go_roundw
      case rel =>
        refine ⟨j + 1, _, by omega, by go_num, ?_, HS.out, ?_, HB2.out⟩
        · rw [Nat.pow_succ, ← Nat.div_div_eq_div_mul, HM.out]
          simp
        · have := HO2.out
          rw [byteCells_app, leB_succ, ← List.append_assoc, ← byteCells_app, HM.out]
          simpa [Nat.add_assoc] using this
      case measure => simp [intOf]; omega
    · obtain rfl : j = 8 := by omega
      go_wp2
      go_returns
      exact ⟨rfl, _, hbk, hown, hbel⟩
theorem wr_num {B b k n : Nat} {bs : List UInt8} {w : World} (h : WrS B b bs w) (hk : k = 1 ∨ k = 2 ∨ k = 4 ∨ k = 8) (hn : n < 256 ^ k) (hl : bs.length ≤ 100000) :
    Calls Tryz.prog 46 #[.pointer (some ⟨b, 0, none⟩), .int .i64 (k : Int), .int .u64 (n : Int)] w fun e w' => e = .returned (.bool true) ∧ WrS B b (bs ++ leB n k) w' ∧ WF B w w' := by
  obtain ⟨hB, hBw, v, hbk, hown⟩ := h
  have key : Calls Tryz.prog 46 #[.pointer (some ⟨b, 0, none⟩), .int .i64 (k : Int), .int .u64 (n : Int)] w fun e w' => e = .returned (.bool true) ∧ ∃ v', w'.heap[b]? = some (.cells #[v'] 133 (0, 0)) ∧ w'.ownsRow B 5 1 v' (bs.length + k) (Lib.byteCells (bs ++ leB n k)) ∧ WF B w w' := by
    rcases hk with rfl | rfl | rfl | rfl
    · exact num_1 B b bs v n w hB hBw hbk hown hn hl
    · exact num_2 B b bs v n w hB hBw hbk hown hn hl
    · exact num_4 B b bs v n w hB hBw hbk hown hn hl
    · exact num_8 B b bs v n w hB hBw hbk hown hn hl
  refine key.mono ?_
  rintro e w1 ⟨he, v1, hb1, ho1, hf⟩
  exact ⟨he, ⟨hB, Nat.le_trans hBw hf.bel.size, v1, hb1, by rw [List.length_append, leB_len]; exact ho1⟩, hf⟩
theorem strCells_byte (s : ByteArray) : Lib.strCells s = Lib.byteCells s.data.toList := by simp [Lib.strCells, Lib.byteCells]
set_option maxRecDepth 100000 in
set_option maxHeartbeats 1000000 in
theorem wr_raw {B b : Nat} {bs : List UInt8} {w : World} (h : WrS B b bs w) (s : ByteArray) (hl : bs.length + s.size ≤ 200000) :
    Calls Tryz.prog 80 #[.pointer (some ⟨b, 0, none⟩), .string s] w fun e w' => e = .returned (.bool true) ∧ WrS B b (bs ++ s.data.toList) w' ∧ WF B w w' := by
  obtain ⟨i0, hi, hz0, hz1, hz2⟩ := info_parts Tryz.info5
  obtain ⟨hB, hBw, v, hbk, hown⟩ := h
  obtain ⟨va, vc, rfl⟩ := ownsRow_slice hown
  have c0 := cell_at hbk 0
  have f0 := free_at hbk 0
  simp at c0
  have hne := ownsRow_ne_block3 hown hbk (fun cur he => by cases he)
  have HOW := Lib.hid hown
  have HBK := Lib.hid hbk
  have HNE := Lib.hid hne
  clear hown hbk hne
  go_enter Tryz.func80, Tryz.ntmps80
  go_wp2_with (at_builtin; go_loud (refine Lib.wpList_append_own_string _ rfl _ _ 131 9 rfl B 5 i0 Tryz.underlying131 Tryz.underlying9 hi hz0 hz1 hz2 (.slice va bs.length vc) bs.length _ rfl HOW.out s rfl ?c3 ?c4 ?c5 ?_))
  case c3 => unfold maxLen; omega
  case c4 => omega
  case c5 => omega
  intro v2 w2 hown2 hg2 _
  obtain ⟨va2, vc2, rfl⟩ := ownsRow_slice hown2
  have hbk2 := keepG hg2 HBK.out HNE.out
  have d0 := cell_at hbk2 0
  have d1 := free_at hbk2 0
  simp at d0
  have hf2 := (WF.refl B w).put (u := .slice va2 (bs.length + s.size) vc2) hB hBw HBK.out HOW.out hg2
  have hset := hset w2 b 0 (.slice va2 (bs.length + s.size) vc2) _ _ _ hbk2
  have hown3 := ownsRow_setCell_other hown2 (a := ⟨b, 0, none⟩) (fun e => ownsRow_ne_block3 hown2 hbk2 (fun cur he => by cases he) e.symm) (.slice va2 (bs.length + s.size) vc2)
  have HS := Lib.hid hset
  have HO2 := Lib.hid hown3
  have HB2 := Lib.hid hf2
  clear hset hown2 hown3 hf2 hbk2
  go_wp2
  go_returns
  refine ⟨rfl, ⟨hB, Nat.le_trans hBw HB2.out.bel.size, _, HS.out, ?_⟩, HB2.out⟩
  have := HO2.out
  rw [strCells_byte, ← byteCells_app] at this
  simpa using this
set_option maxRecDepth 100000 in
theorem wr_name {B b : Nat} {bs : List UInt8} {w : World} (h : WrS B b bs w) (s : ByteArray) (hs : s.size ≤ 255) (hl : bs.length ≤ 100000) :
    Calls Tryz.prog 104 #[.pointer (some ⟨b, 0, none⟩), .string s] w fun e w' => e = .returned (.bool true) ∧ WrS B b (bs ++ nameB s) w' ∧ WF B w w' := by
  have H := Lib.hid h
  clear h
  go_enter Tryz.func104, Tryz.ntmps104
  go_wp2_with fail
  refine (wr_num (k := 1) (n := s.size) H.out (.inl rfl) (by omega) hl).mono ?_
  rintro e w1 ⟨rfl, h1, hf1⟩
  have H1 := Lib.hid h1
  have F1 := Lib.hid hf1
  clear h1 hf1
  go_wp2_with fail
  refine (wr_raw H1.out s (by rw [List.length_append, leB_len]; omega)).mono ?_
  rintro e w2 ⟨rfl, h2, hf2⟩
  have H2 := Lib.hid h2
  have F2 := Lib.hid hf2
  clear h2 hf2
  go_wp2_with fail
  go_returns
  exact ⟨rfl, by have := H2.out; rw [List.append_assoc] at this; exact this, F1.out.trans F2.out⟩
set_option maxRecDepth 100000 in
theorem wr_part {B b : Nat} {bs : List UInt8} {w : World} (h : WrS B b bs w) (s : ByteArray) (hs : s.size ≤ 100000) (hl : bs.length ≤ 90000) :
    Calls Tryz.prog 47 #[.pointer (some ⟨b, 0, none⟩), .string s] w fun e w' => e = .returned (.bool true) ∧ WrS B b (bs ++ partB s.data.toList) w' ∧ WF B w w' := by
  have H := Lib.hid h
  clear h
  go_enter Tryz.func47, Tryz.ntmps47
  go_wp2_with fail
  refine (wr_num (k := 4) (n := s.size) H.out (.inr (.inr (.inl rfl))) (by omega) (by omega)).mono ?_
  rintro e w1 ⟨rfl, h1, hf1⟩
  have H1 := Lib.hid h1
  have F1 := Lib.hid hf1
  clear h1 hf1
  go_wp2_with fail
  refine (wr_raw H1.out s (by rw [List.length_append, leB_len]; omega)).mono ?_
  rintro e w2 ⟨rfl, h2, hf2⟩
  have H2 := Lib.hid h2
  have F2 := Lib.hid hf2
  clear h2 hf2
  go_wp2_with fail
  go_returns
  exact ⟨rfl, by have := H2.out; rw [List.append_assoc] at this; exact this, F1.out.trans F2.out⟩
set_option maxRecDepth 100000 in
theorem wstring_any (B b : Nat) (bs : List UInt8) (v : Value) (w : World) (hbk : w.heap[b]? = some (.cells #[v] 133 (0, 0))) (hown : w.ownsRow B 5 1 v bs.length (Lib.byteCells bs)) :
    Calls Tryz.prog 49 #[.pointer (some ⟨b, 0, none⟩)] w fun e w' => e = .returned (.string ⟨bs.toArray⟩) ∧ w = w' := by
  obtain ⟨va, vc, rfl⟩ := ownsRow_slice hown
  have c0 := cell_at hbk 0
  simp at c0
  have hcv : (convert 131 9 (.slice va bs.length vc)).run Tryz.prog w = .ok (.string ⟨bs.toArray⟩) w := by
    rcases Nat.eq_zero_or_pos bs.length with h0 | h0
    · obtain rfl := List.eq_nil_of_length_eq_zero h0
      rw [run_convert_bytes_string w 131 9 5 va _ vc Tryz.underlying131 Tryz.underlying5 Tryz.underlying9]
      cases va with
      | none => rfl
      | some a => exact run_bytesToString w a 0 vc [] (run_loadCells_list (P := Tryz.prog) w a [] (by simp))
    · obtain ⟨q, rfl, _, _, hq⟩ := row_block hown h0
      refine run_convert_bytes_back w 131 9 5 ⟨q, 0, none⟩ vc bs Tryz.underlying131 Tryz.underlying5 Tryz.underlying9 (fun j hj => ?_)
      rw [show (⟨q, 0, none⟩ : Addr).add j = ⟨q, j, none⟩ from by simp [Addr.add]; omega]
      exact hq j _ (by simp [Lib.byteCells, hj])
  clear hbk hown
  go_enter Tryz.func49, Tryz.ntmps49
  go_wp2_with fail
  go_returns
  exact ⟨rfl, rfl⟩
theorem wr_string {B b : Nat} {bs : List UInt8} {w : World} (h : WrS B b bs w) : Calls Tryz.prog 49 #[.pointer (some ⟨b, 0, none⟩)] w fun e w' => e = .returned (.string ⟨bs.toArray⟩) ∧ w = w' := by
  obtain ⟨v, h1, h2⟩ := h.held
  exact wstring_any B b bs v w h1 h2
end Go.Proofs.YtgnilkjdpfbjgaaGreat
namespace Go.Proofs.YtgnilkjdpfbjgaaGreat
open Go.RowKit
set_option linter.unusedVariables false
/-- The place of the first field of a name. -/
def namedF (s : ByteArray) (fs : List Fld) : Option Nat := fs.findIdx? fun f => decide (f.name = s)
/-- The formula of a field that is kept, or new. -/
def plainI (old : List Fld) (f : Fld) : InsT :=
  match namedF f.name old with
  | some i => match old[i]? with
    | some g => if (decide (f.count ≤ g.count) && (decide (g.kind = 10) == decide (f.kind = 10))) = true then ⟨3, (i : Int)⟩ else ⟨1, 0⟩
    | none => ⟨1, 0⟩
  | none => ⟨1, 0⟩
def plainU (old : List Cmp) (c : Cmp) : RuT :=
  match findC c.id old with
  | some o => ⟨c.id, c.id, c.fields.map (plainI o.fields)⟩
  | none => ⟨c.id, 0, []⟩
def plainR (old new : List Cmp) : List RuT := new.map (plainU old)
theorem mod_next (v : Int) : (v % 2 = 0 ∧ (v + 1) % 2 ≠ 0) ∨ (v % 2 ≠ 0 ∧ (v + 1) % 2 = 0) := by omega
theorem plainR_mint (v : Int) : plainR (mintC v) (mintC (v + 1)) = mintR v := by
  unfold mintC mintR
  rcases mod_next v with ⟨h1, h2⟩ | ⟨h1, h2⟩
  · rw [if_pos h1, if_neg h2, if_pos h1]
    rcases hpKind_is v with e | e | e <;> rcases hpKind_is (v + 1) with e' | e' | e' <;> rw [e, e'] <;> kernel_rfl
  · rw [if_neg h1, if_pos h2, if_neg h1]
    rcases hpKind_is v with e | e | e <;> rcases hpKind_is (v + 1) with e' | e' | e' <;> rw [e, e'] <;> kernel_rfl
/-- Lengths of what is put row by row. -/
theorem flat_take_len {α β : Type} (f : α → List β) (l : List α) (k : Nat) : ((l.take k).flatMap f).length ≤ (l.flatMap f).length := by
  conv => rhs; rw [← List.take_append_drop k l, List.flatMap_append]
  simp
end Go.Proofs.YtgnilkjdpfbjgaaGreat
