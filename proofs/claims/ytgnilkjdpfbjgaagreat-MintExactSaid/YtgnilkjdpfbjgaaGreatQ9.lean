/- Systems as bytes: craft.isOp. · Systems as bytes: craft.Check. · Copies of rows of values: slices.Clone of strings, of instructions. Printed by mkfor.py out of MH.in. -/
import Derived.Test.YtgnilkjdpfbjgaaGreatQ8
namespace Go.Proofs.YtgnilkjdpfbjgaaGreat
open Go.RowKit
set_option linter.unusedVariables false
theorem bel3 {q : Nat} {w x : World} (hq : w.heap.size = q) (h : Below q w x) (u1 u2 u3 : Value) (j1 j2 j3 : Nat) : Below w.heap.size w ((((x.setCell ⟨q + 1, j1, none⟩ u1).drew).setCell ⟨q + 1, j2, none⟩ u2).setCell ⟨q + 1, j3, none⟩ u3) := by
  subst hq
  have h1 : Below w.heap.size w (x.setCell ⟨w.heap.size + 1, j1, none⟩ u1) := h.setCell (Nat.le_succ _) _
  have h2 : Below w.heap.size w ((x.setCell ⟨w.heap.size + 1, j1, none⟩ u1).drew.setCell ⟨w.heap.size + 1, j2, none⟩ u2) := (below_drewN h1 1).setCell (Nat.le_succ _) _
  exact h2.setCell (Nat.le_succ _) _
theorem has_no (s : ByteArray) (c : UInt8) (w : World) (b : Bool) (h : decide (0 ≤ Lib.indexByte s.data.toList c) = b) : Calls Tryz.prog 148 #[.string s, .string ⟨#[c]⟩] w fun e w' => e = .returned (.bool b) ∧ w' = w := by
  have := Tryz.strings_Contains_one s c w
  rw [h] at this
  exact this
theorem fldCr_1 (w : World) : Sem.run Tryz.prog (Instr.field 242 (crV 1) 1) w = .ok (.string ⟨#[75]⟩) w := by kernel_rfl
theorem fldCr_2 (w : World) : Sem.run Tryz.prog (Instr.field 242 (crV 2) 1) w = .ok (.string ⟨#[65, 66, 67]⟩) w := by kernel_rfl
theorem fldCr_3 (w : World) : Sem.run Tryz.prog (Instr.field 242 (crV 3) 1) w = .ok (.string ⟨#[65, 66, 67]⟩) w := by kernel_rfl
theorem fldCr_4 (w : World) : Sem.run Tryz.prog (Instr.field 242 (crV 4) 1) w = .ok (.string ⟨#[]⟩) w := by kernel_rfl
set_option maxRecDepth 100000 in
set_option maxHeartbeats 1000000 in
theorem crIsOp_1 (n k : Int) (w : World) : Calls Tryz.prog 132 #[.agg #[.int .i64 1, .int .i64 0, .int .i64 0, .int .i64 0, .int .i64 k], .int .i64 n] w fun e w' => e = .returned (.bool true) ∧ Below w.heap.size w w' := by
  have hfl := fldCr_1
  go_enter Tryz.func132, Tryz.ntmps132
  go_wp2_with fail
  refine (crIsCode_any 1 _ (by decide) (by decide)).mono ?_
  rintro e w1 ⟨rfl, rfl⟩
  go_wp2_with fail
  refine (crOf_1 _ _ _ _ _).mono ?_
  rintro e w1 ⟨rfl, hb1⟩
  have hp := keep hb1 (keepA _ (heap_alloc_new w _))
  have hr := keep hb1 (heap_alloc_new (w.alloc (.cells #[.int .i64 1, .int .i64 0, .int .i64 0, .int .i64 0, .int .i64 k] 83)) _)
  simp only [World.size_alloc] at hr
  have hbel := ((((Below.refl _ w).alloc (Nat.le_refl _) (.cells #[.int .i64 1, .int .i64 0, .int .i64 0, .int .i64 0, .int .i64 k] 83)).alloc (by simp) (.cells #[.int .i64 1, .int .i64 0, .int .i64 0, .int .i64 0, .int .i64 0] 83))).trans (hb1.mono (by simp; omega))
  generalize hq : w.heap.size = q at *
  have p0 := cell_at hp 0
  have p1 := cell_at hp 1
  have p2 := cell_at hp 2
  have p3 := cell_at hp 3
  have p4 := cell_at hp 4
  have r0 := cell_at hr 0
  have r1 := cell_at hr 1
  have r2 := cell_at hr 2
  have r3 := cell_at hr 3
  have r4 := cell_at hr 4
  have f0 := free_at hr 0
  have f1 := free_at hr 1
  have f2 := free_at hr 2
  have f3 := free_at hr 3
  have f4 := free_at hr 4
  simp at p0 p1 p2 p3 p4 r0 r1 r2 r3 r4
  have HB := Lib.hid hbel
  clear hp hr hbel hb1
  go_wp2_with fail
  refine (has_no ⟨#[75]⟩ 65 _ false (by decide)).mono ?_
  rintro e w2 ⟨rfl, rfl⟩
  go_wp2_with fail
  refine (has_no ⟨#[75]⟩ 66 _ false (by decide)).mono ?_
  rintro e w2 ⟨rfl, rfl⟩
  go_wp2_with fail
  go_ret
  exact ⟨rfl, by first | exact hq ▸ HB.out | exact hq ▸ HB.out.setCell (by simp; omega) _⟩
set_option maxRecDepth 100000 in
set_option maxHeartbeats 1000000 in
theorem crIsOp_4 (n k : Int) (w : World) : Calls Tryz.prog 132 #[.agg #[.int .i64 4, .int .i64 0, .int .i64 0, .int .i64 0, .int .i64 0], .int .i64 n] w fun e w' => e = .returned (.bool true) ∧ Below w.heap.size w w' := by
  have hfl := fldCr_4
  go_enter Tryz.func132, Tryz.ntmps132
  go_wp2_with fail
  refine (crIsCode_any 4 _ (by decide) (by decide)).mono ?_
  rintro e w1 ⟨rfl, rfl⟩
  go_wp2_with fail
  refine (crOf_4 _ _ _ _ _).mono ?_
  rintro e w1 ⟨rfl, hb1⟩
  have hp := keep hb1 (keepA _ (heap_alloc_new w _))
  have hr := keep hb1 (heap_alloc_new (w.alloc (.cells #[.int .i64 4, .int .i64 0, .int .i64 0, .int .i64 0, .int .i64 0] 83)) _)
  simp only [World.size_alloc] at hr
  have hbel := ((((Below.refl _ w).alloc (Nat.le_refl _) (.cells #[.int .i64 4, .int .i64 0, .int .i64 0, .int .i64 0, .int .i64 0] 83)).alloc (by simp) (.cells #[.int .i64 4, .int .i64 0, .int .i64 0, .int .i64 0, .int .i64 0] 83))).trans (hb1.mono (by simp; omega))
  generalize hq : w.heap.size = q at *
  have p0 := cell_at hp 0
  have p1 := cell_at hp 1
  have p2 := cell_at hp 2
  have p3 := cell_at hp 3
  have p4 := cell_at hp 4
  have r0 := cell_at hr 0
  have r1 := cell_at hr 1
  have r2 := cell_at hr 2
  have r3 := cell_at hr 3
  have r4 := cell_at hr 4
  have f0 := free_at hr 0
  have f1 := free_at hr 1
  have f2 := free_at hr 2
  have f3 := free_at hr 3
  have f4 := free_at hr 4
  simp at p0 p1 p2 p3 p4 r0 r1 r2 r3 r4
  have HB := Lib.hid hbel
  clear hp hr hbel hb1
  go_wp2_with fail
  refine (has_no ⟨#[]⟩ 65 _ false (by decide)).mono ?_
  rintro e w2 ⟨rfl, rfl⟩
  go_wp2_with fail
  refine (has_no ⟨#[]⟩ 66 _ false (by decide)).mono ?_
  rintro e w2 ⟨rfl, rfl⟩
  go_wp2_with fail
  go_ret
  exact ⟨rfl, by first | exact hq ▸ HB.out | exact hq ▸ HB.out.setCell (by simp; omega) _⟩
set_option maxRecDepth 100000 in
set_option maxHeartbeats 1000000 in
theorem crIsOp_2 (n a b : Int) (w : World) (a0 : 1 ≤ a) (a1 : a ≤ 24) (b0 : 0 ≤ b) (b1 : b ≤ 7) : Calls Tryz.prog 132 #[.agg #[.int .i64 2, .int .i64 a, .int .i64 b, .int .i64 0, .int .i64 0], .int .i64 n] w fun e w' => e = .returned (.bool true) ∧ Below w.heap.size w w' := by
  have hfl := fldCr_2
  go_enter Tryz.func132, Tryz.ntmps132
  go_wp2_with fail
  refine (crIsCode_any 2 _ (by decide) (by decide)).mono ?_
  rintro e w1 ⟨rfl, rfl⟩
  go_wp2_with fail
  refine (crOf_2 _ _ _ _ _).mono ?_
  rintro e w1 ⟨rfl, hb1⟩
  have hp := keep hb1 (keepA _ (heap_alloc_new w _))
  have hr := keep hb1 (heap_alloc_new (w.alloc (.cells #[.int .i64 2, .int .i64 a, .int .i64 b, .int .i64 0, .int .i64 0] 83)) _)
  simp only [World.size_alloc] at hr
  have hbel := ((((Below.refl _ w).alloc (Nat.le_refl _) (.cells #[.int .i64 2, .int .i64 a, .int .i64 b, .int .i64 0, .int .i64 0] 83)).alloc (by simp) (.cells #[.int .i64 2, .int .i64 0, .int .i64 0, .int .i64 0, .int .i64 0] 83))).trans (hb1.mono (by simp; omega))
  generalize hq : w.heap.size = q at *
  have p0 := cell_at hp 0
  have p1 := cell_at hp 1
  have p2 := cell_at hp 2
  have p3 := cell_at hp 3
  have p4 := cell_at hp 4
  have r0 := cell_at hr 0
  have r1 := cell_at hr 1
  have r2 := cell_at hr 2
  have r3 := cell_at hr 3
  have r4 := cell_at hr 4
  have f0 := free_at hr 0
  have f1 := free_at hr 1
  have f2 := free_at hr 2
  have f3 := free_at hr 3
  have f4 := free_at hr 4
  simp at p0 p1 p2 p3 p4 r0 r1 r2 r3 r4
  have HB := Lib.hid hbel
  clear hp hr hbel hb1
  go_wp2_with fail
  refine (has_no ⟨#[65, 66, 67]⟩ 65 _ true (by decide)).mono ?_
  rintro e w2 ⟨rfl, rfl⟩
  go_wp2_with fail
  refine (has_no ⟨#[65, 66, 67]⟩ 66 _ true (by decide)).mono ?_
  rintro e w2 ⟨rfl, rfl⟩
  go_wp2_with fail
  have hmin : min b 0 = 0 := by omega
  have hmax : max b 0 = b := by omega
  go_region
  all_goals
    go_wp2_with fail
    go_ret
    refine ⟨rfl, ?_⟩
    exact bel3 hq HB.out _ _ _ _ _ _
set_option maxRecDepth 100000 in
set_option maxHeartbeats 1000000 in
theorem crIsOp_3 (n a b : Int) (w : World) (a0 : 1 ≤ a) (a1 : a ≤ 24) (b0 : 0 ≤ b) (b1 : b ≤ 7) : Calls Tryz.prog 132 #[.agg #[.int .i64 3, .int .i64 a, .int .i64 b, .int .i64 0, .int .i64 0], .int .i64 n] w fun e w' => e = .returned (.bool true) ∧ Below w.heap.size w w' := by
  have hfl := fldCr_3
  go_enter Tryz.func132, Tryz.ntmps132
  go_wp2_with fail
  refine (crIsCode_any 3 _ (by decide) (by decide)).mono ?_
  rintro e w1 ⟨rfl, rfl⟩
  go_wp2_with fail
  refine (crOf_3 _ _ _ _ _).mono ?_
  rintro e w1 ⟨rfl, hb1⟩
  have hp := keep hb1 (keepA _ (heap_alloc_new w _))
  have hr := keep hb1 (heap_alloc_new (w.alloc (.cells #[.int .i64 3, .int .i64 a, .int .i64 b, .int .i64 0, .int .i64 0] 83)) _)
  simp only [World.size_alloc] at hr
  have hbel := ((((Below.refl _ w).alloc (Nat.le_refl _) (.cells #[.int .i64 3, .int .i64 a, .int .i64 b, .int .i64 0, .int .i64 0] 83)).alloc (by simp) (.cells #[.int .i64 3, .int .i64 0, .int .i64 0, .int .i64 0, .int .i64 0] 83))).trans (hb1.mono (by simp; omega))
  generalize hq : w.heap.size = q at *
  have p0 := cell_at hp 0
  have p1 := cell_at hp 1
  have p2 := cell_at hp 2
  have p3 := cell_at hp 3
  have p4 := cell_at hp 4
  have r0 := cell_at hr 0
  have r1 := cell_at hr 1
  have r2 := cell_at hr 2
  have r3 := cell_at hr 3
  have r4 := cell_at hr 4
  have f0 := free_at hr 0
  have f1 := free_at hr 1
  have f2 := free_at hr 2
  have f3 := free_at hr 3
  have f4 := free_at hr 4
  simp at p0 p1 p2 p3 p4 r0 r1 r2 r3 r4
  have HB := Lib.hid hbel
  clear hp hr hbel hb1
  go_wp2_with fail
  refine (has_no ⟨#[65, 66, 67]⟩ 65 _ true (by decide)).mono ?_
  rintro e w2 ⟨rfl, rfl⟩
  go_wp2_with fail
  refine (has_no ⟨#[65, 66, 67]⟩ 66 _ true (by decide)).mono ?_
  rintro e w2 ⟨rfl, rfl⟩
  go_wp2_with fail
  have hmin : min b 0 = 0 := by omega
  have hmax : max b 0 = b := by omega
  go_region
  all_goals
    go_wp2_with fail
    go_ret
    refine ⟨rfl, ?_⟩
    exact bel3 hq HB.out _ _ _ _ _ _
end Go.Proofs.YtgnilkjdpfbjgaaGreat
namespace Go.Proofs.YtgnilkjdpfbjgaaGreat
open Go.RowKit
set_option linter.unusedVariables false
theorem crIsOp_any (x : OpT) (n : Int) (w : World) (h : opOk x = true) : Calls Tryz.prog 132 #[opV x, .int .i64 n] w fun e w' => e = .returned (.bool true) ∧ Below w.heap.size w w' := by
  obtain ⟨co, a, b, c, k⟩ := x
  unfold opV
  have h := opOk_is h
  dsimp only at h ⊢
  rcases h with ⟨rfl, rfl, rfl, rfl, _, _⟩ | ⟨rfl | rfl, h1, h2, h3, h4, rfl, rfl⟩ | ⟨rfl, rfl, rfl, rfl, rfl⟩
  · exact crIsOp_1 n k w
  · exact crIsOp_2 n a b w h1 h2 h3 h4
  · exact crIsOp_3 n a b w h1 h2 h3 h4
  · exact crIsOp_4 n 0 w
/-- Systems as told data. -/
def opD (x : OpT) : List Dat := [.v (.int .i64 x.code), .v (.int .i64 x.a), .v (.int .i64 x.b), .v (.int .i64 x.c), .v (.int .i64 x.k)]
def opsD (l : List OpT) : Dat := .r l.length (l.flatMap opD)
def strD (s : ByteArray) : Dat := .v (.string s)
def strsD (l : List ByteArray) : Dat := .r l.length (l.map strD)
def sysD (s : SysT) : List Dat := [.v (.string s.name), .v (.int .i64 s.stage), strsD s.after, .v (.int .u32 s.al), .v (.int .u32 s.no), opsD s.code]
def syssD (l : List SysT) : Dat := .r l.length (l.flatMap sysD)
/-- A system that can be. -/
def sysOk (s : SysT) : Bool := isNameB s.name && decide (s.stage = 0) && decide (s.after.length ≤ 1) && s.after.all (fun n => isNameB n && decide (n.data ≠ s.name.data)) && (decide (s.al = 2) || decide (s.al = 4)) && decide (s.no = 0) && decide (s.code.length ≤ 64) && s.code.all opOk
theorem sysOk_mint {v : Int} (h : verB v = true) : (mintS v).all sysOk = true := by
  have h1 : opOk ⟨1, 0, 0, 0, v % 7⟩ = true := by
    unfold opOk
    have : 0 ≤ v % 7 ∧ v % 7 < 1000 := by omega
    simp [this.1, this.2]
  have e : sysOk (sysAge v) = ((sysOk ⟨sAge, 0, [], 2, 0, []⟩) && ([⟨2, 1, 0, 0, 0⟩, ⟨1, 0, 0, 0, v % 7⟩, ⟨4, 0, 0, 0, 0⟩, ⟨3, 1, 0, 0, 0⟩] : List OpT).all opOk) := by
    unfold sysOk sysAge
    simp
  have e2 : sysOk sysMove = true := by decide +kernel
  unfold mintS
  rw [List.all_cons, List.all_cons, e2, e]
  simp only [List.all_cons, h1]
  decide +kernel
set_option maxRecDepth 100000 in
theorem crCheck1_any (x : OpT) (p : Nat) (a : Option Addr) (n c : Nat) (w : World) (h : opOk x = true) (hp : w.cell? ⟨p, 5, none⟩ = some (.slice a n c)) (hpl : p < w.heap.size) : Calls Tryz.prog 131 #[opV x, .pointer (some ⟨p, 0, none⟩)] w fun e w' => e = .returned (.bool false) ∧ Below w.heap.size w w' := by
  have hi := fun n w => crIsOp_any x n w h
  have hp' := fun o => (((Below.refl w.heap.size w).alloc (Nat.le_refl _) o).cell (p := ⟨p, 5, none⟩) hpl).trans hp
  unfold opV at *
  have c5 := hp' (.cells #[.int .i64 x.code, .int .i64 x.a, .int .i64 x.b, .int .i64 x.c, .int .i64 x.k] 83)
  clear hp' hp
  go_enter Tryz.func131, Tryz.ntmps131
  go_wp2_with fail
  refine (hi _ _).mono ?_
  rintro e w1 ⟨rfl, hb1⟩
  go_wp2
  go_ret
  exact ⟨rfl, ((Below.refl _ w).alloc (Nat.le_refl _) _).trans (hb1.mono (by simp))⟩
theorem ops_at {w : World} {T : Nat → TypeId → Prop} {l : List OpT} {u : Value} (h : At w T (opsD l) u) : ∃ a c, u = .slice a l.length c ∧ l.length ≤ c ∧ c ≤ maxLen ∧ ∀ k x, l[k]? = some x → ∃ q off, a = some ⟨q, off, none⟩ ∧ q < w.heap.size ∧ w.cell? ⟨q, off + k * 5, none⟩ = some (.int .i64 x.code) ∧ w.cell? ⟨q, off + k * 5 + 1, none⟩ = some (.int .i64 x.a) ∧ w.cell? ⟨q, off + k * 5 + 2, none⟩ = some (.int .i64 x.b) ∧
    w.cell? ⟨q, off + k * 5 + 3, none⟩ = some (.int .i64 x.c) ∧ w.cell? ⟨q, off + k * 5 + 4, none⟩ = some (.int .i64 x.k) := by
  obtain ⟨a, c, rfl, h1, h2, h3⟩ := row_at opD 5 (fun _ => rfl) (by decide) h
  refine ⟨a, c, rfl, h1, h2, fun k x hx => ?_⟩
  obtain ⟨q, off, rfl, hq, hc⟩ := h3 k x hx
  refine ⟨q, off, rfl, hq, ?_, ?_, ?_, ?_, ?_⟩
  · obtain ⟨y, hy, hd⟩ := hc 0 _ rfl
    cases at_v hd; exact hy
  · obtain ⟨y, hy, hd⟩ := hc 1 _ rfl
    cases at_v hd; exact hy
  · obtain ⟨y, hy, hd⟩ := hc 2 _ rfl
    cases at_v hd; exact hy
  · obtain ⟨y, hy, hd⟩ := hc 3 _ rfl
    cases at_v hd; exact hy
  · obtain ⟨y, hy, hd⟩ := hc 4 _ rfl
    cases at_v hd; exact hy
set_option maxRecDepth 100000 in
set_option maxHeartbeats 1000000 in
theorem ixOp_any (l : List OpT) (p : Nat) (a : Option Addr) (n c : Nat) (w : World) (T : Nat → TypeId → Prop) (u : Value) (hu : At w T (opsD l) u) (h : l.all opOk = true) (hp : w.cell? ⟨p, 5, none⟩ = some (.slice a n c)) (hpl : p < w.heap.size) :
    Calls Tryz.prog 145 #[u, .func (.func 131) #[] #[.pointer (some ⟨p, 0, none⟩)]] w fun e w' => e = .returned (.int .i64 (-1)) ∧ Below w.heap.size w w' := by
  obtain ⟨la, lc, rfl, h1, h2, hrow⟩ := ops_at hu
  have hmx : l.length ≤ maxLen := by omega
  unfold maxLen at hmx
  have HR := Lib.hid hrow
  have HA := Lib.hid h
  clear hu hrow h
  go_enter Tryz.func145, Tryz.ntmps145
  go_wp2_with fail
  go_loopw [8] (fun i wr => ∃ (k : Nat), k ≤ l.length ∧ i = .int .i64 k ∧ Below w.heap.size w wr) (fun i _ => l.length - (intOf i).toNat)
  case atStart => exact ⟨0, Nat.zero_le _, rfl, Below.refl _ _⟩
  case round =>
    obtain ⟨k, hk, rfl, hbw⟩ := hrel
    by_cases hlt : k < l.length
    · have hx := List.getElem?_eq_getElem hlt
      generalize l[k] = x at *
      obtain ⟨q, off, rfl, hq, c0, c1, c2, c3, c4⟩ := HR.out k x hx
      have d := fun o => hbw.cell (p := ⟨q, o, none⟩) hq
      have d0 := (d _).trans c0
      have d1 := (d _).trans c1
      have d2 := (d _).trans c2
      have d3 := (d _).trans c3
      have d4 := (d _).trans c4
      have HC := Lib.hid (crCheck1_any x p a n c wr (all_mem HA.out hx) ((hbw.cell (p := ⟨p, 5, none⟩) hpl).trans hp) (by have := hbw.size; omega))
      unfold opV at HC
      clear d c0 c1 c2 c3 c4
      go_wp2_with fail
      refine HC.out.mono ?_
      rintro e w1 ⟨rfl, hb1⟩
      have hbel := hbw.trans (hb1.mono hbw.size)
      clear hb1
      go_wp2
      go_roundw
      case rel => exact ⟨k + 1, by omega, by go_num, hbel⟩
      case measure => simp [intOf]; omega
    · obtain rfl : k = l.length := by omega
      go_wp2
      go_ret
      exact ⟨rfl, hbw⟩
set_option maxRecDepth 100000 in
theorem hasOp_any (l : List OpT) (p : Nat) (a : Option Addr) (n c : Nat) (w : World) (T : Nat → TypeId → Prop) (u : Value) (hu : At w T (opsD l) u) (h : l.all opOk = true) (hp : w.cell? ⟨p, 5, none⟩ = some (.slice a n c)) (hpl : p < w.heap.size) :
    Calls Tryz.prog 130 #[u, .func (.func 131) #[] #[.pointer (some ⟨p, 0, none⟩)]] w fun e w' => e = .returned (.bool false) ∧ Below w.heap.size w w' := by
  go_enter Tryz.func130, Tryz.ntmps130
  go_wp2_with fail
  refine (ixOp_any l p a n c w T u hu h hp hpl).mono ?_
  rintro e w1 ⟨rfl, hb1⟩
  go_wp2
  go_ret
  exact ⟨rfl, hb1⟩
set_option maxRecDepth 100000 in
theorem strsIx_nil (a : Option Addr) (c : Nat) (s : ByteArray) (w : World) : Calls Tryz.prog 152 #[.slice a 0 c, .string s] w fun e w' => e = .returned (.int .i64 (-1)) ∧ w = w' := by
  go_enter Tryz.func152, Tryz.ntmps152
  go_wp2_with fail
  go_loopw [8] (fun i wr => i = .int .i64 0 ∧ w = wr) (fun i _ => 0)
  case atStart => exact ⟨rfl, rfl⟩
  case round =>
    obtain ⟨rfl, rfl⟩ := hrel
    go_wp2
    go_ret
    exact ⟨rfl, rfl⟩
theorem strsHas_nil (a : Option Addr) (c : Nat) (s : ByteArray) (w : World) : Calls Tryz.prog 144 #[.slice a 0 c, .string s] w fun e w' => e = .returned (.bool false) ∧ w = w' := by
  go_enter Tryz.func144, Tryz.ntmps144
  go_wp2_with fail
  refine (strsIx_nil a c s w).mono ?_
  rintro e w1 ⟨rfl, rfl⟩
  go_wp2
  go_ret
  exact ⟨rfl, rfl⟩
theorem sysOk_is {s : SysT} (h : sysOk s = true) : isNameB s.name = true ∧ s.stage = 0 ∧ s.after.length ≤ 1 ∧ (∀ n ∈ s.after, isNameB n = true ∧ n.data ≠ s.name.data) ∧ (s.al = 2 ∨ s.al = 4) ∧ s.no = 0 ∧ s.code.length ≤ 64 ∧ s.code.all opOk = true := by
  unfold sysOk at h
  simp only [Bool.and_eq_true, Bool.or_eq_true, decide_eq_true_eq] at h
  obtain ⟨⟨⟨⟨⟨⟨⟨h1, h2⟩, h3⟩, h4⟩, h5⟩, h6⟩, h7⟩, h8⟩ := h
  refine ⟨h1, h2, h3, fun n hn => ?_, h5, h6, h7, h8⟩
  have := List.all_eq_true.1 h4 n hn
  simpa using this
theorem name_size {s : ByteArray} (h : isNameB s = true) : s.size ≤ 12 := by
  unfold isNameB at h
  simp only [Bool.and_eq_true, decide_eq_true_eq] at h
  exact h.1.1.2
set_option maxRecDepth 100000 in
set_option maxHeartbeats 1000000 in
theorem after_any (s : SysT) (ca : Option Addr) (cl cc : Nat) (w : World) (T : Nat → TypeId → Prop) (u : Value) (hu : At w T (strsD s.after) u) (h : sysOk s = true) :
    Calls Tryz.prog 127 #[.agg #[.string s.name, .int .i64 s.stage, u, .int .u32 s.al, .int .u32 s.no, .slice ca cl cc]] w fun e w' => e = .returned (.int .i64 0) ∧ Below w.heap.size w w' := by
  obtain ⟨hn, hst, hl, haf, hal, hno, hcl, hco⟩ := sysOk_is h
  clear hst hal hno hcl hco hn
  obtain ⟨la, lc, rfl, h1, h2, hrow⟩ := row1_at strD hu
  have hmx : s.after.length ≤ lc := h1
  have HR := Lib.hid hrow
  have HF := Lib.hid haf
  have hq0 := heap_alloc_new w (.cells #[.string s.name, .int .i64 s.stage, .slice la s.after.length lc, .int .u32 s.al, .int .u32 s.no, .slice ca cl cc] 78)
  have HQ := Lib.hid hq0
  have HB := Lib.hid ((Below.refl _ w).alloc (Nat.le_refl _) (.cells #[.string s.name, .int .i64 s.stage, .slice la s.after.length lc, .int .u32 s.al, .int .u32 s.no, .slice ca cl cc] 78))
  clear hu hrow h haf hq0
  go_enter Tryz.func127, Tryz.ntmps127
  go_wp2_with fail
  go_loopw [12] (fun i wr => ∃ (k : Nat), k ≤ s.after.length ∧ i = .int .i64 k ∧ wr = w.alloc (.cells #[.string s.name, .int .i64 s.stage, .slice la s.after.length lc, .int .u32 s.al, .int .u32 s.no, .slice ca cl cc] 78)) (fun i _ => s.after.length - (intOf i).toNat)
  case atStart => exact ⟨0, Nat.zero_le _, rfl, rfl⟩
  case round =>
    obtain ⟨k, hk, rfl, rfl⟩ := hrel
    by_cases hlt : k < s.after.length
    · obtain rfl : k = 0 := by omega
      have hx := List.getElem?_eq_getElem hlt
      generalize s.after[0] = x at *
      obtain ⟨hnx, hne⟩ := HF.out x (List.mem_of_getElem? hx)
      obtain ⟨q, off, v, rfl, hq, hv, hA⟩ := HR.out 0 x hx
      obtain rfl := at_v hA
      have d0 := (HB.out.cell (p := ⟨q, off + 0, none⟩) hq).trans hv
      rw [Nat.add_zero] at d0
      have hsz := name_size hnx
      have hne' : (x.toList == s.name.toList) = false := by
        rw [beq_eq_false_iff_ne]
        intro e
        rw [ByteArray.toList_eq, ByteArray.toList_eq] at e
        exact hne (Array.toList_inj.1 e)
      generalize hW : w.alloc (.cells #[.string s.name, .int .i64 s.stage, .slice (some ⟨q, off, none⟩) s.after.length lc, .int .u32 s.al, .int .u32 s.no, .slice ca cl cc] 78) = W at *
      have HW := Lib.hid hW
      have HV := Lib.hid hv
      clear hW hv hA hx hne
      have c0 := cell_at HQ.out 0
      have c2 := cell_at HQ.out 2
      simp at c0 c2
      go_wp2_with fail
      refine (isName_any x _ (by unfold maxLen; omega)).mono ?_
      rintro e w1 ⟨rfl, rfl⟩
      rw [hnx]
      go_wp2_with fail
      refine (strsHas_nil _ _ _ _).mono ?_
      rintro e w1 ⟨rfl, rfl⟩
      go_wp2
      go_roundw
      case rel => exact ⟨1, by omega, by go_num, trivial⟩
      case measure => simp [intOf]; omega
    · obtain rfl : k = s.after.length := by omega
      have hbel := HB.out
      go_wp2
      go_ret
      exact ⟨rfl, hbel⟩
theorem sys_slices {w : World} {T : Nat → TypeId → Prop} {s : SysT} {ua uc : Value} (ha : At w T (strsD s.after) ua) (hc : At w T (opsD s.code) uc) : ∃ aa ac ca cc, ua = .slice aa s.after.length ac ∧ uc = .slice ca s.code.length cc := by
  obtain ⟨la, lc, h1, _⟩ := ha.row
  obtain ⟨ka, kc, h2, _⟩ := hc.row
  exact ⟨_, _, _, _, h1, h2⟩
theorem meets_0 {al : Int} (h : al = 2 ∨ al = 4) (w : World) : Calls Tryz.prog 129 #[.int .u32 al, .int .u32 0] w fun e w' => e = .returned (.bool false) ∧ w = w' := by
  have hb : (bits BinOp.and .u32 (bits BinOp.and .u32 al 0) 33554430 != 0) = false := by rcases h with rfl | rfl <;> decide +kernel
  go_enter Tryz.func129, Tryz.ntmps129
  go_wp2_with fail
  go_returns
  exact ⟨rfl, rfl⟩
set_option maxRecDepth 100000 in
set_option maxHeartbeats 1000000 in
theorem crCheck_any (s : SysT) (w : World) (T : Nat → TypeId → Prop) (ua uc : Value) (ha : At w T (strsD s.after) ua) (hc : At w T (opsD s.code) uc) (h : sysOk s = true) :
    Calls Tryz.prog 108 #[.agg #[.string s.name, .int .i64 s.stage, ua, .int .u32 s.al, .int .u32 s.no, uc]] w fun e w' => e = .returned (.int .i64 0) ∧ Below w.heap.size w w' := by
  obtain ⟨aa, ac, ca, cc, rfl, rfl⟩ := sys_slices ha hc
  have HA := fun (W : World) (hb : Below w.heap.size w W) => after_any s ca s.code.length cc W T _ (ha.below hb) h
  have HH := fun (W : World) (hb : Below w.heap.size w W) => hasOp_any s.code w.heap.size ca s.code.length cc W T _ (hc.below hb) (sysOk_is h).2.2.2.2.2.2.2
  obtain ⟨hn, hst, hl, haf, hal, hno, hcl, hco⟩ := sysOk_is h
  obtain ⟨name, stage, after, al, no, code⟩ := s
  dsimp only at hn hst hl hal hno hcl HA HH ⊢
  subst hst hno
  have hsz := name_size hn
  have hsi : sIs al = true := by rcases hal with rfl | rfl <;> decide +kernel
  have hs0 : sIs 0 = true := by decide +kernel
  have hal1 : 0 ≤ al ∧ al ≤ 4294967295 := by omega
  have HM := meets_0 hal
  have hq0 := heap_alloc_new w (.cells #[.string name, .int .i64 0, .slice aa after.length ac, .int .u32 al, .int .u32 0, .slice ca code.length cc] 78)
  have hB0 := (Below.refl _ w).alloc (Nat.le_refl _) (.cells #[.string name, .int .i64 0, .slice aa after.length ac, .int .u32 al, .int .u32 0, .slice ca code.length cc] 78)
  have H1 := Lib.hid HA
  have H2 := Lib.hid HH
  have H3 := Lib.hid HM
  have H4 := Lib.hid hsi
  have HQ := Lib.hid hq0
  have HB := Lib.hid hB0
  clear ha hc h haf hco hal HA HH HM hsi hq0 hB0
  go_enter Tryz.func108, Tryz.ntmps108
  go_wp2_with fail
  refine (isName_any name _ (by unfold maxLen; omega)).mono ?_
  rintro e w1 ⟨rfl, rfl⟩
  rw [hn]
  go_wp2_with fail
  refine (H1.out _ HB.out).mono ?_
  rintro e w2 ⟨rfl, hb2⟩
  have hq2 := keep hb2 HQ.out
  have HB2 := Lib.hid (HB.out.trans (hb2.mono HB.out.size))
  have c3 := cell_at hq2 3
  have c4 := cell_at hq2 4
  have c5 := cell_at hq2 5
  simp at c3 c4 c5
  have hz2 := lt_some hq2
  clear hb2 hq2
  go_wp2_with fail
  refine (sigIs_any al _ hal1.1 hal1.2).mono ?_
  rintro e w3 ⟨rfl, rfl⟩
  rw [H4.out]
  go_wp2_with fail
  refine (sigIs_any 0 _ (by decide) (by decide)).mono ?_
  rintro e w3 ⟨rfl, rfl⟩
  rw [hs0]
  go_wp2_with fail
  refine (H3.out _).mono ?_
  rintro e w3 ⟨rfl, rfl⟩
  go_wp2_with fail
  refine (H2.out _ HB2.out c5 hz2).mono ?_
  rintro e w3 ⟨rfl, hb3⟩
  have hbel := HB2.out.trans (hb3.mono HB2.out.size)
  go_wp2
  go_ret
  exact ⟨rfl, hbel⟩
end Go.Proofs.YtgnilkjdpfbjgaaGreat
namespace Go.Proofs.YtgnilkjdpfbjgaaGreat
open Go.RowKit
set_option linter.unusedVariables false
/-- The types of a system's rows. -/
def TQ : Nat → TypeId → Prop := fun _ t => t = 9 ∨ t = 83
theorem Tryz.infoCS : (Tryz.prog.info? 9).map (fun i => (i.zero, i.size, i.bytes)) = some (some (.string ByteArray.empty), 1, 16) := by kernel_rfl
theorem Tryz.infoCO : (Tryz.prog.info? 83).map (fun i => (i.zero, i.size, i.bytes)) = some (some (.agg #[.int .i64 0, .int .i64 0, .int .i64 0, .int .i64 0, .int .i64 0]), 5, 40) := by kernel_rfl
theorem vals_at {w : World} {T : Nat → TypeId → Prop} {n : Nat} {xs : List Value} {u : Value} (h : At w T (.r n (xs.map .v)) u) : ∃ a c, u = .slice a n c ∧ (a = none → xs = []) ∧ ∀ ad, a = some ad → ∀ j x, xs[j]? = some x → w.cell? (ad.add j) = some x := by
  unfold At at h
  obtain ⟨a, c, rfl, h1, h2, h3⟩ := h
  refine ⟨a, c, rfl, fun ha => ?_, fun ad ha j x hx => ?_⟩
  · rcases h3 with h3 | ⟨q, off, cur, t, fz, ha', _⟩
    · simpa using h3
    · rw [ha] at ha'; cases ha'
  · rcases h3 with h3 | ⟨q, off, cur, t, fz, ha', hq, _, hl⟩
    · obtain rfl : xs = [] := by simpa using h3
      simp at hx
    · rw [ha] at ha'
      cases ha'
      obtain ⟨v, hv, hd⟩ := hl.get (i := j) (d := .v x) (by rw [List.getElem?_map, hx]; rfl)
      obtain rfl := at_v hd
      rw [show (⟨q, off, none⟩ : Addr).add j = ⟨q, off + j, none⟩ by unfold Addr.add; split <;> simp_all]
      exact hv
theorem at_vals {w : World} {B : Nat} {e : TypeId} {size n : Nat} {u : Value} {xs : List Value} (h : w.ownsRow B e size u n xs) {T : Nat → TypeId → Prop} (hT : ∀ q, T q e) : At w T (.r n (xs.map .v)) u := by
  have := (show Own w B e size (fun _ _ => False) u n (xs.map .v) from ⟨⟨xs, h, atV_v xs⟩, fun q h => h⟩).at (T' := T) (fun q t _ ht => by
    rcases ht with ht | rfl
    · exact ht.elim
    · exact hT q)
  exact this
set_option maxRecDepth 100000 in
set_option maxHeartbeats 400000 in
theorem strsClone_vals (n : Nat) (xs : List Value) (w : World) (T : Nat → TypeId → Prop) (u : Value) (hu : At w T (.r n (xs.map .v)) u) (hl : n ≤ 100000) (hx : xs.length = n * 1) (h1 : ∀ u ∈ xs, u.oneCell' = true) :
    Calls Tryz.prog 86 #[u] w fun e w' => ∃ u', e = .returned u' ∧ At w' TQ (.r n (xs.map .v)) u' ∧ Below w.heap.size w w' := by
  obtain ⟨i0, hi, hz0, hz1, hz2⟩ := info_parts Tryz.infoCS
  have hnn := fun (wx : World) (a : Option Addr) (n c : Nat) => Lib.run_eql_slice_nil (P := Tryz.prog) wx 75 9 a n c 0 0 Tryz.underlying75
  obtain ⟨a, c, rfl, hn, hc⟩ := vals_at hu
  cases a with
  | none =>
    obtain rfl := hn rfl
    obtain rfl : n = 0 := by simp at hx; omega
    go_enter Tryz.func86, Tryz.ntmps86
    go_wp2
    go_returns
    exact ⟨_, rfl, by unfold At; exact ⟨none, 0, rfl, Nat.le_refl _, Nat.zero_le _, .inl rfl⟩, Below.refl _ _⟩
  | some ad =>
    have hcc : ∀ j u, xs[j]? = some u → (w.alloc (.cells #[] 9)).cell? (ad.add j) = some u := fun j u hu => by
      have h := hc ad rfl j u hu
      have hb := World.block_lt_of_cell? w _ h
      rw [World.cell?_of_block (w := w) (by rw [halloc, if_neg (by omega)])]
      exact h
    have hown : (w.alloc (.cells #[] 9)).ownsRow w.heap.size 9 1 (.slice (some ⟨w.heap.size, 0, none⟩) 0 0) 0 [] := World.ownsRow_made w #[] 0 (Nat.le_refl _) (by simp) (by simp)
    go_enter Tryz.func86, Tryz.ntmps86
    go_wp2_with (at_builtin; refine wpList_append_own _ rfl (.tmp 5) (.tmp 6) 75 rfl w.heap.size 9 i0 _ 1 16 Tryz.underlying75 hi hz0 hz1 hz2 rfl (by decide) (.slice (some ⟨w.heap.size, 0, none⟩) 0 0) 0 [] rfl hown ad n c xs rfl hx hcc h1 (by unfold maxLen; omega) (by omega) (by simp) ?_)
    intro v' w1 hown1 hg1 hnil
    obtain ⟨va, vc, hv⟩ := ownsRow_slice hown1
    rw [hv] at hown1 hnil ⊢
    clear hv
    have hbel : Below w.heap.size w w1 := ((Below.refl _ w).alloc (Nat.le_refl _) _).grown hg1 (by simp) (fun x hx => by simp [Value.ownBlock] at hx; omega)
    have HO := Lib.hid (at_vals (T := TQ) hown1 (fun q => by unfold TQ; simp))
    clear hown1 hnil
    go_wp2
    go_returns
    exact ⟨_, rfl, by simpa using HO.out, hbel⟩
set_option maxRecDepth 100000 in
set_option maxHeartbeats 400000 in
theorem opsClone_vals (n : Nat) (xs : List Value) (w : World) (T : Nat → TypeId → Prop) (u : Value) (hu : At w T (.r n (xs.map .v)) u) (hl : n ≤ 100000) (hx : xs.length = n * 5) (h1 : ∀ u ∈ xs, u.oneCell' = true) :
    Calls Tryz.prog 87 #[u] w fun e w' => ∃ u', e = .returned u' ∧ At w' TQ (.r n (xs.map .v)) u' ∧ Below w.heap.size w w' := by
  obtain ⟨i0, hi, hz0, hz1, hz2⟩ := info_parts Tryz.infoCO
  have hnn := fun (wx : World) (a : Option Addr) (n c : Nat) => Lib.run_eql_slice_nil (P := Tryz.prog) wx 76 83 a n c 0 0 Tryz.underlying76
  obtain ⟨a, c, rfl, hn, hc⟩ := vals_at hu
  cases a with
  | none =>
    obtain rfl := hn rfl
    obtain rfl : n = 0 := by simp at hx; omega
    go_enter Tryz.func87, Tryz.ntmps87
    go_wp2
    go_returns
    exact ⟨_, rfl, by unfold At; exact ⟨none, 0, rfl, Nat.le_refl _, Nat.zero_le _, .inl rfl⟩, Below.refl _ _⟩
  | some ad =>
    have hcc : ∀ j u, xs[j]? = some u → (w.alloc (.cells #[] 83)).cell? (ad.add j) = some u := fun j u hu => by
      have h := hc ad rfl j u hu
      have hb := World.block_lt_of_cell? w _ h
      rw [World.cell?_of_block (w := w) (by rw [halloc, if_neg (by omega)])]
      exact h
    have hown : (w.alloc (.cells #[] 83)).ownsRow w.heap.size 83 5 (.slice (some ⟨w.heap.size, 0, none⟩) 0 0) 0 [] := World.ownsRow_made w #[] 0 (Nat.le_refl _) (by simp) (by simp)
    go_enter Tryz.func87, Tryz.ntmps87
    go_wp2_with (at_builtin; refine wpList_append_own _ rfl (.tmp 5) (.tmp 6) 76 rfl w.heap.size 83 i0 _ 5 40 Tryz.underlying76 hi hz0 hz1 hz2 rfl (by decide) (.slice (some ⟨w.heap.size, 0, none⟩) 0 0) 0 [] rfl hown ad n c xs rfl hx hcc h1 (by unfold maxLen; omega) (by omega) (by simp) ?_)
    intro v' w1 hown1 hg1 hnil
    obtain ⟨va, vc, hv⟩ := ownsRow_slice hown1
    rw [hv] at hown1 hnil ⊢
    clear hv
    have hbel : Below w.heap.size w w1 := ((Below.refl _ w).alloc (Nat.le_refl _) _).grown hg1 (by simp) (fun x hx => by simp [Value.ownBlock] at hx; omega)
    have HO := Lib.hid (at_vals (T := TQ) hown1 (fun q => by unfold TQ; simp))
    clear hown1 hnil
    go_wp2
    go_returns
    exact ⟨_, rfl, by simpa using HO.out, hbel⟩
theorem strs_vals (l : List ByteArray) : strsD l = .r l.length ((l.map Value.string).map .v) := by
  unfold strsD
  rw [List.map_map]
  rfl
def opL (x : OpT) : List Value := [.int .i64 x.code, .int .i64 x.a, .int .i64 x.b, .int .i64 x.c, .int .i64 x.k]
theorem ops_vals (l : List OpT) : opsD l = .r l.length ((l.flatMap opL).map .v) := by
  unfold opsD
  rw [List.map_flatMap]
  rfl
theorem opL_len (l : List OpT) : (l.flatMap opL).length = l.length * 5 := by
  induction l with
  | nil => rfl
  | cons x r ih => rw [List.flatMap_cons, List.length_append, ih, List.length_cons, Nat.succ_mul]; show 5 + _ = _; omega
theorem strsClone_any (l : List ByteArray) (w : World) (T : Nat → TypeId → Prop) (u : Value) (hu : At w T (strsD l) u) (hl : l.length ≤ 1000) : Calls Tryz.prog 86 #[u] w fun e w' => ∃ u', e = .returned u' ∧ At w' TQ (strsD l) u' ∧ Below w.heap.size w w' := by
  rw [strs_vals] at hu ⊢
  exact strsClone_vals _ _ w T u hu (by omega) (by simp) (fun u hu => by simp at hu; obtain ⟨s, _, rfl⟩ := hu; rfl)
theorem opsClone_any (l : List OpT) (w : World) (T : Nat → TypeId → Prop) (u : Value) (hu : At w T (opsD l) u) (hl : l.length ≤ 1000) : Calls Tryz.prog 87 #[u] w fun e w' => ∃ u', e = .returned u' ∧ At w' TQ (opsD l) u' ∧ Below w.heap.size w w' := by
  rw [ops_vals] at hu ⊢
  exact opsClone_vals _ _ w T u hu (by omega) (opL_len l) (fun u hu => by
    simp only [List.mem_flatMap] at hu
    obtain ⟨x, _, hx⟩ := hu
    simp [opL] at hx
    rcases hx with rfl | rfl | rfl | rfl | rfl <;> rfl)
end Go.Proofs.YtgnilkjdpfbjgaaGreat
