/- Contract of the law's 'rows'. -/
import Derived.Test.YtgngpanimeigbabDoorT7
namespace Go.Proofs.YtgngpanimeigbabDoor
open Go.RowKit
set_option linter.unusedVariables false

structure Mk0 where
  k : Int
  code : Int
  done : Int
  failed : Int
  st : Int
  rows : Int
  ver : Int
def stN (st : Int) : Nat := ((IntKind.u64.wrap st).tmod 9).toNat
theorem stN_lt (st : Int) : stN st < 9 := by
  unfold stN
  rw [IntKind.wrap_u64, Int.tmod_eq_emod_of_nonneg (by omega)]
  omega
theorem stN_cast (st : Int) : (IntKind.u64.wrap st).tmod 9 = (stN st : Int) := by
  unfold stN
  rw [IntKind.wrap_u64, Int.tmod_eq_emod_of_nonneg (by omega)]
  omega
def Mk0.mk' (m : Mk0) : Mk := ⟨m.k, m.code, m.done, m.failed, stN m.st, m.rows, m.ver⟩
def markL (m : Mk0) : List Value := [.int .i64 m.k, .bool (m.code == 0), .int .i64 m.done, .int .i64 m.failed, .int .i64 (stN m.st), .int .i64 m.rows, .int .i64 m.ver]
def MarksAt (B : Nat) (w : World) (a : Option Addr) (n : Nat) (l : List Mk0) : Prop :=
  l.length = n ∧ (n = 0 ∨ ∃ b off, a = some ⟨b, off, none⟩ ∧ b < B ∧ ∀ (i : Nat) (m : Mk0), l[i]? = some m →
    w.cell? ⟨b, off + i * 7, none⟩ = some (.int .i64 m.k) ∧ w.cell? ⟨b, off + i * 7 + 1, none⟩ = some (.int .i64 m.code) ∧ w.cell? ⟨b, off + i * 7 + 2, none⟩ = some (.int .i64 m.done) ∧ w.cell? ⟨b, off + i * 7 + 3, none⟩ = some (.int .i64 m.failed) ∧
    w.cell? ⟨b, off + i * 7 + 4, none⟩ = some (.int .i64 m.st) ∧ w.cell? ⟨b, off + i * 7 + 5, none⟩ = some (.int .i64 m.rows) ∧ w.cell? ⟨b, off + i * 7 + 6, none⟩ = some (.int .i64 m.ver))
theorem MarksAt.get {B : Nat} {w w' : World} {a : Option Addr} {n : Nat} {l : List Mk0} (h : MarksAt B w a n l) (hb : Below B w w') {i : Nat} (hi : i < n) :
    ∃ b off m, a = some ⟨b, off, none⟩ ∧ b < B ∧ l[i]? = some m ∧ w'.cell? ⟨b, off + i * 7, none⟩ = some (.int .i64 m.k) ∧ w'.cell? ⟨b, off + i * 7 + 1, none⟩ = some (.int .i64 m.code) ∧ w'.cell? ⟨b, off + i * 7 + 2, none⟩ = some (.int .i64 m.done) ∧ w'.cell? ⟨b, off + i * 7 + 3, none⟩ = some (.int .i64 m.failed) ∧
    w'.cell? ⟨b, off + i * 7 + 4, none⟩ = some (.int .i64 m.st) ∧ w'.cell? ⟨b, off + i * 7 + 5, none⟩ = some (.int .i64 m.rows) ∧ w'.cell? ⟨b, off + i * 7 + 6, none⟩ = some (.int .i64 m.ver) := by
  obtain ⟨h1, h2⟩ := h
  obtain ⟨b, off, ha, hB, hc⟩ := h2.resolve_left (by omega)
  have hl : i < l.length := by omega
  obtain ⟨c0, c1, c2, c3, c4, c5, c6⟩ := hc i _ (List.getElem?_eq_getElem hl)
  exact ⟨b, off, l[i], ha, hB, List.getElem?_eq_getElem hl, (hb.cell (p := ⟨b, _, none⟩) hB).trans c0, (hb.cell (p := ⟨b, _, none⟩) hB).trans c1, (hb.cell (p := ⟨b, _, none⟩) hB).trans c2, (hb.cell (p := ⟨b, _, none⟩) hB).trans c3, (hb.cell (p := ⟨b, _, none⟩) hB).trans c4, (hb.cell (p := ⟨b, _, none⟩) hB).trans c5, (hb.cell (p := ⟨b, _, none⟩) hB).trans c6⟩
theorem Tryd.info48 : (Tryd.prog.info? 48).map (fun i => (i.zero, i.size, i.bytes)) = some (some (.agg #[.int .i64 0, .int .u64 0, .int .i64 0, .slice none 0 0, .int .u32 0, .int .u32 0, .int .i64 0, .int .u64 0, .int .i64 0, .slice none 0 0, .int .i64 0, .string ByteArray.empty]), 12, 128) := by kernel_rfl
theorem Tryd.info70 : (Tryd.prog.info? 70).map (fun i => (i.zero, i.size, i.bytes)) = some (some (.agg #[.int .i64 0, .int .u64 0, .slice none 0 0, .slice none 0 0, .int .i64 0, .int .i64 0, .slice none 0 0, .int .u32 0, .int .i64 0, .bool false, .int .i64 0, .int .i64 0, .int .i64 0]), 13, 152) := by kernel_rfl
theorem Tryd.info72 : (Tryd.prog.info? 72).map (fun i => (i.zero, i.size, i.bytes)) = some (some (.agg #[.int .i64 0, .bool false, .int .i64 0, .int .i64 0, .int .i64 0, .int .i64 0, .int .i64 0]), 7, 56) := by kernel_rfl
theorem mk_any (n : Nat) (h : n < 9) (w : World) : Sem.run Tryd.prog (Instr.makeSlice 51 (.int .i64 n) (.int .i64 n)) w = .ok (.slice (some ⟨w.heap.size, 0, none⟩) n n) (w.alloc (.cells (Array.replicate n (.string ⟨#[]⟩)) 9)) := by
  rcases (by omega : n = 0 ∨ n = 1 ∨ n = 2 ∨ n = 3 ∨ n = 4 ∨ n = 5 ∨ n = 6 ∨ n = 7 ∨ n = 8) with rfl | rfl | rfl | rfl | rfl | rfl | rfl | rfl | rfl <;> kernel_rfl

def opsC (l : List Mk0) (k : Nat) : List Value := ((l.take k).map (·.k)).flatMap opL
def marksC (l : List Mk0) (k : Nat) : List Value := (l.take k).flatMap markL
/-- The answer of 'rows'. -/
def IsRows (l : List Mk0) (n : Nat) (w : World) (e : Ending) (w' : World) : Prop :=
  ∃ (a1 a2 a3 : Option Addr) (c1 c2 c3 : Nat) (rs : List (Mk × Option Addr × Nat)), e = .returned (.tuple #[.slice a1 n c1, .slice a2 n c2, .slice a3 n c3]) ∧ rs.map (·.1) = l.map Mk0.mk' ∧
    w'.ownsRow w.heap.size 48 12 (.slice a1 n c1) n ((l.map (·.k)).flatMap opL) ∧ w'.ownsRow w.heap.size 70 13 (.slice a2 n c2) n (rs.flatMap recL) ∧ w'.ownsRow w.heap.size 72 7 (.slice a3 n c3) n (l.flatMap markL) ∧ Below w.heap.size w w'
set_option maxRecDepth 100000 in
set_option maxHeartbeats 4000000 in
theorem rows_any (l : List Mk0) (a : Option Addr) (n c : Nat) (w : World) (hm : MarksAt w.heap.size w a n l) (hn : n ≤ 1000) :
    Calls Tryd.prog 6 #[.slice a n c] w (IsRows l n w) := by
  obtain ⟨i0, hi, hz0, hz1, hz2⟩ := info_parts Tryd.info48
  obtain ⟨i1, hj, hy0, hy1, hy2⟩ := info_parts Tryd.info70
  obtain ⟨i2, hk, hx0, hx1, hx2⟩ := info_parts Tryd.info72
  go_enter Tryd.func6, Tryd.ntmps6
  go_wp2_with fail
  go_loopw [5, 6, 7, 8] (fun v1 v2 v3 i wr => ∃ (k : Nat) (a1 a2 a3 : Option Addr) (c1 c2 c3 : Nat) (rs : List (Mk × Option Addr × Nat)), k ≤ n ∧ i = .int .i64 k ∧ v1 = .slice a1 k c1 ∧ v2 = .slice a2 k c2 ∧ v3 = .slice a3 k c3 ∧
      rs.map (·.1) = (l.take k).map Mk0.mk' ∧ wr.ownsRow w.heap.size 48 12 (.slice a1 k c1) k (opsC l k) ∧ wr.ownsRow w.heap.size 70 13 (.slice a2 k c2) k (rs.flatMap recL) ∧
      wr.ownsRow w.heap.size 72 7 (.slice a3 k c3) k (marksC l k) ∧ Below w.heap.size w wr) (fun _ _ _ i _ => n - (intOf i).toNat)
  case atStart =>
    have r1 := ((World.ownsRow_lit (base := w.heap.size) (e := 48) (size := 12) w #[] 0 (Nat.le_refl _) (by unfold maxLen; omega) rfl).alloc (.cells #[] 70)).alloc (.cells #[] 72)
    have r2 := (World.ownsRow_lit (base := w.heap.size) (e := 70) (size := 13) (w.alloc (.cells #[] 48)) #[] 0 (by simp) (by unfold maxLen; omega) rfl).alloc (.cells #[] 72)
    have r3 := World.ownsRow_lit (base := w.heap.size) (e := 72) (size := 7) ((w.alloc (.cells #[] 48)).alloc (.cells #[] 70)) #[] 0 (by simp; omega) (by unfold maxLen; omega) rfl
    simp only [World.size_alloc] at r2 r3
    exact ⟨0, _, _, _, _, _, _, [], by omega, rfl, rfl, rfl, rfl, rfl, r1, r2, r3, by go_grown⟩
  case round =>
    obtain ⟨k, a1, a2, a3, c1, c2, c3, rs, hkn, rfl, rfl, rfl, rfl, hrs, ho1, ho2, ho3, hbw⟩ := hrel
    have hz := hbw.size
    have HRS := Lib.hid hrs
    clear hrs
    by_cases hlt : k < n
    · obtain ⟨b, off, m, rfl, hB, hmk, m0, m1, m2, m3, m4, m5, m6⟩ := hm.get hbw hlt
      have htk := Lib.hid (take_snoc hmk)
      have hst := stN_lt m.st
      have hsc := Lib.hid (stN_cast m.st)
      have j1 : (0 : Int) ≤ (k : Int) := by omega
      have j2 : (k : Int) < (n : Int) := by omega
      have hw : wrap64 ((IntKind.u64.wrap m.st).tmod 9) = (stN m.st : Int) := by rw [stN_cast]; exact wrap64_id ⟨by omega, by omega⟩
      have hmk9 := mk_any (stN m.st) hst
      have hX := keepA (.cells #[.int .i64 m.k, .int .u64 0, .int .i64 0, .slice none 0 0, .int .u32 0, .int .u32 0, .int .i64 0, .int .u64 0, .int .i64 0, .slice none 0 0, .int .i64 0, .string ⟨#[]⟩] 48) (heap_alloc_new wr (.cells #[.int .i64 m.k, .int .i64 m.code, .int .i64 m.done, .int .i64 m.failed, .int .i64 m.st, .int .i64 m.rows, .int .i64 m.ver] 58))
      have hbX : Below w.heap.size w ((wr.alloc (.cells #[.int .i64 m.k, .int .i64 m.code, .int .i64 m.done, .int .i64 m.failed, .int .i64 m.st, .int .i64 m.rows, .int .i64 m.ver] 58)).alloc (.cells #[.int .i64 m.k, .int .u64 0, .int .i64 0, .slice none 0 0, .int .u32 0, .int .u32 0, .int .i64 0, .int .u64 0, .int .i64 0, .slice none 0 0, .int .i64 0, .string ⟨#[]⟩] 48)) := (hbw.alloc hz _).alloc (by simp; omega) _
      have hr1 := (ho1.alloc (.cells #[.int .i64 m.k, .int .i64 m.code, .int .i64 m.done, .int .i64 m.failed, .int .i64 m.st, .int .i64 m.rows, .int .i64 m.ver] 58)).alloc (.cells #[.int .i64 m.k, .int .u64 0, .int .i64 0, .slice none 0 0, .int .u32 0, .int .u32 0, .int .i64 0, .int .u64 0, .int .i64 0, .slice none 0 0, .int .i64 0, .string ⟨#[]⟩] 48)
      have hr2 := (ho2.alloc (.cells #[.int .i64 m.k, .int .i64 m.code, .int .i64 m.done, .int .i64 m.failed, .int .i64 m.st, .int .i64 m.rows, .int .i64 m.ver] 58)).alloc (.cells #[.int .i64 m.k, .int .u64 0, .int .i64 0, .slice none 0 0, .int .u32 0, .int .u32 0, .int .i64 0, .int .u64 0, .int .i64 0, .slice none 0 0, .int .i64 0, .string ⟨#[]⟩] 48)
      have hr3 := (ho3.alloc (.cells #[.int .i64 m.k, .int .i64 m.code, .int .i64 m.done, .int .i64 m.failed, .int .i64 m.st, .int .i64 m.rows, .int .i64 m.ver] 58)).alloc (.cells #[.int .i64 m.k, .int .u64 0, .int .i64 0, .slice none 0 0, .int .u32 0, .int .u32 0, .int .i64 0, .int .u64 0, .int .i64 0, .slice none 0 0, .int .i64 0, .string ⟨#[]⟩] 48)
      have hnw : ∀ j u, (#[.int .i64 m.k, .int .u64 0, .int .i64 0, .slice none 0 0, .int .u32 0, .int .u32 0, .int .i64 0, .int .u64 0, .int .i64 0, .slice none 0 0, .int .i64 0, .string ⟨#[]⟩] : Array Value).toList[j]? = some u → ((wr.alloc (.cells #[.int .i64 m.k, .int .i64 m.code, .int .i64 m.done, .int .i64 m.failed, .int .i64 m.st, .int .i64 m.rows, .int .i64 m.ver] 58)).alloc (.cells #[.int .i64 m.k, .int .u64 0, .int .i64 0, .slice none 0 0, .int .u32 0, .int .u32 0, .int .i64 0, .int .u64 0, .int .i64 0, .slice none 0 0, .int .i64 0, .string ⟨#[]⟩] 48)).cell? ((⟨wr.heap.size + 1, 0, none⟩ : Addr).add j) = some u :=
        World.news_of_block (fr := (0, 0)) (by have := heap_alloc_new (wr.alloc (.cells #[.int .i64 m.k, .int .i64 m.code, .int .i64 m.done, .int .i64 m.failed, .int .i64 m.st, .int .i64 m.rows, .int .i64 m.ver] 58)) (.cells #[.int .i64 m.k, .int .u64 0, .int .i64 0, .slice none 0 0, .int .u32 0, .int .u32 0, .int .i64 0, .int .u64 0, .int .i64 0, .slice none 0 0, .int .i64 0, .string ⟨#[]⟩] 48); rw [World.size_alloc] at this; exact this)
      have h1c : ∀ u ∈ (#[.int .i64 m.k, .int .u64 0, .int .i64 0, .slice none 0 0, .int .u32 0, .int .u32 0, .int .i64 0, .int .u64 0, .int .i64 0, .slice none 0 0, .int .i64 0, .string ⟨#[]⟩] : Array Value).toList, u.oneCell' = true := List.all_eq_true.1 rfl
      have hzX := lt_some (heap_alloc_new wr (.cells #[.int .i64 m.k, .int .i64 m.code, .int .i64 m.done, .int .i64 m.failed, .int .i64 m.st, .int .i64 m.rows, .int .i64 m.ver] 58))
      have HXs := Lib.hid (And.intro hX (And.intro hbX (And.intro hr2 hr3)))
      have HN := Lib.hid (And.intro hnw h1c)
      clear hmk hX hbX ho1 ho2 ho3 hr2 hr3 hnw h1c hbw
      go_wp2_with (at_builtin; refine wpList_append_own _ rfl (.tmp 29) (.tmp 33) 27 rfl w.heap.size 48 i0 (.agg #[.int .i64 0, .int .u64 0, .int .i64 0, .slice none 0 0, .int .u32 0, .int .u32 0, .int .i64 0, .int .u64 0, .int .i64 0, .slice none 0 0, .int .i64 0, .string ByteArray.empty]) 12 128 Tryd.underlying27 hi hz0 hz1 hz2 rfl (by decide) (.slice a1 k c1) k (opsC l k) rfl hr1 ⟨wr.heap.size + 1, 0, none⟩ 1 1 (#[.int .i64 m.k, .int .u64 0, .int .i64 0, .slice none 0 0, .int .u32 0, .int .u32 0, .int .i64 0, .int .u64 0, .int .i64 0, .slice none 0 0, .int .i64 0, .string ⟨#[]⟩] : Array Value).toList rfl rfl HN.out.1 HN.out.2 (by unfold maxLen; omega) (by omega) (by simp; omega) ?_)
      intro v' w2 hown2 hg2 _
      obtain ⟨va', vc', hv'⟩ := ownsRow_slice hown2
      rw [hv'] at hown2 ⊢
      clear hv'
      obtain ⟨hX, hbX, hr2, hr3⟩ := HXs.out
      have hrow := hr1.lt
      have hX2 := keepG hg2 hX (ownsRow_ne_block hr1 hX (fun cur hc => by cases hc))
      have hs2 := hr2.kept hg2 (ownsRow_ne hr2 hr1 (by decide))
      have hs3 := hr3.kept hg2 (ownsRow_ne hr3 hr1 (by decide))
      have hb2 : Below w.heap.size w w2 := hbX.grown hg2 (by simp; omega) (fun x hx => (hrow x hx).1)
      clear hX hbX hr1 hr2 hr3 HXs HN hrow hg2
      generalize wr.heap.size = xb at *
      have x0 := cell_at hX2 0
      have x1 := cell_at hX2 1
      have x2 := cell_at hX2 2
      have x3 := cell_at hX2 3
      have x4 := cell_at hX2 4
      have x5 := cell_at hX2 5
      have x6 := cell_at hX2 6
      simp at x0 x1 x2 x3 x4 x5 x6
      have hzx2 := lt_some hX2
      have hz2w := hb2.size
      have hq2 : ((w2.alloc (.cells (Array.replicate (stN m.st) (.string ⟨#[]⟩)) 9)).alloc (.cells #[.int .i64 m.code, .int .u64 0, .slice none 0 0, .slice none 0 0, .int .i64 m.done, .int .i64 m.failed, .slice (some ⟨w2.heap.size, 0, none⟩) (stN m.st) (stN m.st), .int .u32 0, .int .i64 m.ver, .bool false, .int .i64 m.rows, .int .i64 0, .int .i64 0] 70)).drew.ownsRow w.heap.size 70 13 (.slice a2 k c2) k (rs.flatMap recL) := (hs2.alloc _).alloc _
      have hqn : ∀ j u, (#[.int .i64 m.code, .int .u64 0, .slice none 0 0, .slice none 0 0, .int .i64 m.done, .int .i64 m.failed, .slice (some ⟨w2.heap.size, 0, none⟩) (stN m.st) (stN m.st), .int .u32 0, .int .i64 m.ver, .bool false, .int .i64 m.rows, .int .i64 0, .int .i64 0] : Array Value).toList[j]? = some u → ((w2.alloc (.cells (Array.replicate (stN m.st) (.string ⟨#[]⟩)) 9)).alloc (.cells #[.int .i64 m.code, .int .u64 0, .slice none 0 0, .slice none 0 0, .int .i64 m.done, .int .i64 m.failed, .slice (some ⟨w2.heap.size, 0, none⟩) (stN m.st) (stN m.st), .int .u32 0, .int .i64 m.ver, .bool false, .int .i64 m.rows, .int .i64 0, .int .i64 0] 70)).drew.cell? ((⟨w2.heap.size + 1, 0, none⟩ : Addr).add j) = some u :=
        World.news_of_block (fr := (0, 0)) (by have := heap_alloc_new (w2.alloc (.cells (Array.replicate (stN m.st) (.string ⟨#[]⟩)) 9)) (.cells #[.int .i64 m.code, .int .u64 0, .slice none 0 0, .slice none 0 0, .int .i64 m.done, .int .i64 m.failed, .slice (some ⟨w2.heap.size, 0, none⟩) (stN m.st) (stN m.st), .int .u32 0, .int .i64 m.ver, .bool false, .int .i64 m.rows, .int .i64 0, .int .i64 0] 70); rw [World.size_alloc] at this; exact this)
      have hq1 : ∀ u ∈ (#[.int .i64 m.code, .int .u64 0, .slice none 0 0, .slice none 0 0, .int .i64 m.done, .int .i64 m.failed, .slice (some ⟨w2.heap.size, 0, none⟩) (stN m.st) (stN m.st), .int .u32 0, .int .i64 m.ver, .bool false, .int .i64 m.rows, .int .i64 0, .int .i64 0] : Array Value).toList, u.oneCell' = true := List.all_eq_true.1 rfl
      have hqx : ∀ w3, ((w2.alloc (.cells (Array.replicate (stN m.st) (.string ⟨#[]⟩)) 9)).alloc (.cells #[.int .i64 m.code, .int .u64 0, .slice none 0 0, .slice none 0 0, .int .i64 m.done, .int .i64 m.failed, .slice (some ⟨w2.heap.size, 0, none⟩) (stN m.st) (stN m.st), .int .u32 0, .int .i64 m.ver, .bool false, .int .i64 m.rows, .int .i64 0, .int .i64 0] 70)).drew.grownBy w3 (Value.slice a2 k c2).ownBlock → w3.heap[xb]? = some (.cells #[.int .i64 m.k, .int .i64 m.code, .int .i64 m.done, .int .i64 m.failed, .int .i64 m.st, .int .i64 m.rows, .int .i64 m.ver] 58 (0, 0)) := fun w3 hg =>
        keepG hg (show ((w2.alloc (.cells (Array.replicate (stN m.st) (.string ⟨#[]⟩)) 9)).alloc (.cells #[.int .i64 m.code, .int .u64 0, .slice none 0 0, .slice none 0 0, .int .i64 m.done, .int .i64 m.failed, .slice (some ⟨w2.heap.size, 0, none⟩) (stN m.st) (stN m.st), .int .u32 0, .int .i64 m.ver, .bool false, .int .i64 m.rows, .int .i64 0, .int .i64 0] 70)).drew.heap[xb]? = _ from keepA _ (keepA _ hX2)) (ownsRow_ne_block hq2 (show ((w2.alloc (.cells (Array.replicate (stN m.st) (.string ⟨#[]⟩)) 9)).alloc (.cells #[.int .i64 m.code, .int .u64 0, .slice none 0 0, .slice none 0 0, .int .i64 m.done, .int .i64 m.failed, .slice (some ⟨w2.heap.size, 0, none⟩) (stN m.st) (stN m.st), .int .u32 0, .int .i64 m.ver, .bool false, .int .i64 m.rows, .int .i64 0, .int .i64 0] 70)).drew.heap[xb]? = _ from keepA _ (keepA _ hX2)) (fun cur hc => by cases hc))
      have hfin : ∀ w3, ((w2.alloc (.cells (Array.replicate (stN m.st) (.string ⟨#[]⟩)) 9)).alloc (.cells #[.int .i64 m.code, .int .u64 0, .slice none 0 0, .slice none 0 0, .int .i64 m.done, .int .i64 m.failed, .slice (some ⟨w2.heap.size, 0, none⟩) (stN m.st) (stN m.st), .int .u32 0, .int .i64 m.ver, .bool false, .int .i64 m.rows, .int .i64 0, .int .i64 0] 70)).drew.grownBy w3 (Value.slice a2 k c2).ownBlock → w3.ownsRow w.heap.size 48 12 (.slice va' (k + 1) vc') (k + 1) (opsC l k ++ (#[.int .i64 m.k, .int .u64 0, .int .i64 0, .slice none 0 0, .int .u32 0, .int .u32 0, .int .i64 0, .int .u64 0, .int .i64 0, .slice none 0 0, .int .i64 0, .string ⟨#[]⟩] : Array Value).toList) ∧ w3.ownsRow w.heap.size 72 7 (.slice a3 k c3) k (marksC l k) ∧ Below w.heap.size w w3 := fun w3 hg =>
        ⟨(show ((w2.alloc (.cells (Array.replicate (stN m.st) (.string ⟨#[]⟩)) 9)).alloc (.cells #[.int .i64 m.code, .int .u64 0, .slice none 0 0, .slice none 0 0, .int .i64 m.done, .int .i64 m.failed, .slice (some ⟨w2.heap.size, 0, none⟩) (stN m.st) (stN m.st), .int .u32 0, .int .i64 m.ver, .bool false, .int .i64 m.rows, .int .i64 0, .int .i64 0] 70)).drew.ownsRow _ _ _ _ _ _ from (hown2.alloc _).alloc _).kept hg (ownsRow_ne hown2 hs2 (by decide)), (show ((w2.alloc (.cells (Array.replicate (stN m.st) (.string ⟨#[]⟩)) 9)).alloc (.cells #[.int .i64 m.code, .int .u64 0, .slice none 0 0, .slice none 0 0, .int .i64 m.done, .int .i64 m.failed, .slice (some ⟨w2.heap.size, 0, none⟩) (stN m.st) (stN m.st), .int .u32 0, .int .i64 m.ver, .bool false, .int .i64 m.rows, .int .i64 0, .int .i64 0] 70)).drew.ownsRow _ _ _ _ _ _ from (hs3.alloc _).alloc _).kept hg (ownsRow_ne hs3 hs2 (by decide)),
          (((hb2.alloc hz2w _).alloc (by simp; omega) _).drew).grown hg (by simp; omega) (fun x hx => (hq2.lt x hx).1)⟩
      have HQ2 := Lib.hid hq2
      have HQN := Lib.hid hqn
      have HQ1 := Lib.hid hq1
      have HQX := Lib.hid hqx
      have HFIN := Lib.hid hfin
      have hu1 : k + 1 ≤ maxLen := by unfold maxLen; omega
      have hu2 : (k + 1) * 152 ≤ 140737488355328 := by omega
      have hu3 : w.heap.size ≤ ((w2.alloc (.cells (Array.replicate (stN m.st) (.string ⟨#[]⟩)) 9)).alloc (.cells #[.int .i64 m.code, .int .u64 0, .slice none 0 0, .slice none 0 0, .int .i64 m.done, .int .i64 m.failed, .slice (some ⟨w2.heap.size, 0, none⟩) (stN m.st) (stN m.st), .int .u32 0, .int .i64 m.ver, .bool false, .int .i64 m.rows, .int .i64 0, .int .i64 0] 70)).drew.heap.size := by simp; omega
      clear hq2 hqn hq1 hqx hfin hs2 hs3 hown2 hX2
      go_wp2_with fail
      go_region_held3 (fun w' => w'.cell? ⟨xb, 1, none⟩ = some (.int .i64 m.code) ∧ w'.cell? ⟨xb, 2, none⟩ = some (.int .i64 m.done) ∧ w'.cell? ⟨xb, 3, none⟩ = some (.int .i64 m.failed) ∧ w'.cell? ⟨xb, 5, none⟩ = some (.int .i64 m.rows) ∧ w'.cell? ⟨xb, 6, none⟩ = some (.int .i64 m.ver))
        (first | go_keep | (refine ⟨?_, ?_, ?_, ?_, ?_⟩ <;> (rw [cell_at (HQX.out _ hg3)]; rfl)))
        ((refine step_append_lies _ (by rfl) _ _ 28 (by rfl) w.heap.size 70 i1 _ 13 152 Tryd.underlying28 hj hy0 hy1 hy2 rfl (by omega) (.slice a2 k c2) k (rs.flatMap recL) (by rfl) HQ2.out ⟨w2.heap.size + 1, 0, none⟩ 1 1 (#[.int .i64 m.code, .int .u64 0, .slice none 0 0, .slice none 0 0, .int .i64 m.done, .int .i64 m.failed, .slice (some ⟨w2.heap.size, 0, none⟩) (stN m.st) (stN m.st), .int .u32 0, .int .i64 m.ver, .bool false, .int .i64 m.rows, .int .i64 0, .int .i64 0] : Array Value).toList (by rfl) (by rfl) HQN.out HQ1.out (by omega) hu1 hu2 hu3 (w2.heap.size + 1 + 1) (by simp) ?_; intro g cap w3 hown3 hg3 hat3 hlt3))
      have hX3 := HQX.out _ hg3
      obtain ⟨t1, t3, hb3⟩ := HFIN.out _ hg3
      clear x0 x1 x2 x3 x4 x5 x6 hg3 HQ2 HQN HQ1 HQX HFIN hu2 hu3 hat3 hlt3 hw hmk9 hzx2 hzX
      have x0 := cell_at hX3 0
      have x1 := cell_at hX3 1
      have x2 := cell_at hX3 2
      have x3 := cell_at hX3 3
      have x5 := cell_at hX3 5
      have x6 := cell_at hX3 6
      simp at x0 x1 x2 x3 x5 x6
      have hz3 := hb3.size
      have hq3 := t3.alloc (.cells #[.int .i64 m.k, .bool (m.code == 0), .int .i64 m.done, .int .i64 m.failed, .int .i64 (stN m.st), .int .i64 m.rows, .int .i64 m.ver] 72)
      have hqn : ∀ j u, (#[.int .i64 m.k, .bool (m.code == 0), .int .i64 m.done, .int .i64 m.failed, .int .i64 (stN m.st), .int .i64 m.rows, .int .i64 m.ver] : Array Value).toList[j]? = some u → (w3.alloc (.cells #[.int .i64 m.k, .bool (m.code == 0), .int .i64 m.done, .int .i64 m.failed, .int .i64 (stN m.st), .int .i64 m.rows, .int .i64 m.ver] 72)).cell? ((⟨w3.heap.size, 0, none⟩ : Addr).add j) = some u :=
        World.news_of_block (fr := (0, 0)) (heap_alloc_new w3 (.cells #[.int .i64 m.k, .bool (m.code == 0), .int .i64 m.done, .int .i64 m.failed, .int .i64 (stN m.st), .int .i64 m.rows, .int .i64 m.ver] 72))
      have hq1 : ∀ u ∈ (#[.int .i64 m.k, .bool (m.code == 0), .int .i64 m.done, .int .i64 m.failed, .int .i64 (stN m.st), .int .i64 m.rows, .int .i64 m.ver] : Array Value).toList, u.oneCell' = true := List.all_eq_true.1 rfl
      have HR := Lib.hid (And.intro t1 (And.intro hown3 hb3))
      have HQ := Lib.hid (And.intro hqn hq1)
      clear t1 t3 hown3 hb3 hX3 hqn hq1
      go_wp2_with (at_builtin; refine wpList_append_own _ rfl (.tmp 54) (.tmp 70) 29 rfl w.heap.size 72 i2 (.agg #[.int .i64 0, .bool false, .int .i64 0, .int .i64 0, .int .i64 0, .int .i64 0, .int .i64 0]) 7 56 Tryd.underlying29 hk hx0 hx1 hx2 rfl (by decide) (.slice a3 k c3) k (marksC l k) rfl hq3 ⟨w3.heap.size, 0, none⟩ 1 1 (#[.int .i64 m.k, .bool (m.code == 0), .int .i64 m.done, .int .i64 m.failed, .int .i64 (stN m.st), .int .i64 m.rows, .int .i64 m.ver] : Array Value).toList rfl rfl HQ.out.1 HQ.out.2 (by unfold maxLen; omega) (by omega) (by simp; omega) ?_)
      intro v' w4 hown4 hg4 _
      obtain ⟨vd, vdc, hv'⟩ := ownsRow_slice hown4
      rw [hv'] at hown4 ⊢
      clear hv'
      obtain ⟨t1, t2, hb3⟩ := HR.out
      have hrow := hq3.lt
      have e1 := (t1.alloc (.cells #[.int .i64 m.k, .bool (m.code == 0), .int .i64 m.done, .int .i64 m.failed, .int .i64 (stN m.st), .int .i64 m.rows, .int .i64 m.ver] 72)).kept hg4 (ownsRow_ne (t1.alloc (.cells #[.int .i64 m.k, .bool (m.code == 0), .int .i64 m.done, .int .i64 m.failed, .int .i64 (stN m.st), .int .i64 m.rows, .int .i64 m.ver] 72)) hq3 (by decide))
      have e2 := (t2.alloc (.cells #[.int .i64 m.k, .bool (m.code == 0), .int .i64 m.done, .int .i64 m.failed, .int .i64 (stN m.st), .int .i64 m.rows, .int .i64 m.ver] 72)).kept hg4 (ownsRow_ne (t2.alloc (.cells #[.int .i64 m.k, .bool (m.code == 0), .int .i64 m.done, .int .i64 m.failed, .int .i64 (stN m.st), .int .i64 m.rows, .int .i64 m.ver] 72)) hq3 (by decide))
      have hb4 : Below w.heap.size w w4 := (hb3.alloc hz3 _).grown hg4 (by simp; omega) (fun x hx => (hrow x hx).1)
      have HE := Lib.hid (And.intro e1 (And.intro e2 (And.intro hown4 hb4)))
      clear e1 e2 hown4 hb4 t1 t2 hb3 hrow hq3 hg4 HR HQ
      go_wp2_with fail
      go_roundw
      case rel =>
        obtain ⟨e1, e2, e3, e4⟩ := HE.out
        refine ⟨k + 1, va', some ⟨g, 0, none⟩, vd, vc', cap, vdc, rs ++ [(m.mk', some ⟨w2.heap.size, 0, none⟩, stN m.st)], by omega, by go_num, rfl, rfl, rfl, ?_, ?_, ?_, ?_, e4⟩
        · rw [htk.out, List.map_append, HRS.out, List.map_append]; rfl
        · unfold opsC at e1 ⊢; rw [htk.out, List.map_append, List.flatMap_append]; exact e1
        · rw [List.flatMap_append]; exact e2
        · unfold marksC at e3 ⊢; rw [htk.out, List.flatMap_append]; exact e3
      case measure => simp [intOf]; omega
    · obtain rfl : k = n := by omega
      have ht : l.take k = l := List.take_of_length_le (by have := hm.1; omega)
      have HR := Lib.hid (show IsRows l k w (.returned (.tuple #[.slice a1 k c1, .slice a2 k c2, .slice a3 k c3])) wr from ⟨a1, a2, a3, c1, c2, c3, rs, rfl, by rw [HRS.out, ht], by unfold opsC at ho1; rw [ht] at ho1; exact ho1, ho2, by unfold marksC at ho3; rw [ht] at ho3; exact ho3, hbw⟩)
      clear ho1 ho2 ho3 hbw ht
      go_wp2_with fail
      go_ret3
      exact HR.out
end Go.Proofs.YtgngpanimeigbabDoor
