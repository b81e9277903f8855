/- How the marks of the law's arguments are read; the listed table. -/
import Derived.Test.YtgngpanimeigbabDoorT11
import Derived.LaidMore
import Derived.Stop.Joined
import Derived.Stop.LaidErr
namespace Go.Proofs.YtgngpanimeigbabDoor
open Go.ChangeShapes Go.WideShapes Go.ChangeAt Go.RowKit Go.Joins Go.Deep
set_option linter.unusedVariables false
theorem own : ownKnob Tryd.prog.godebug = none := by kernel_rfl
theorem laidOut : laidOutB Tryd.prog = true := by kernel_rfl
theorem gPow : Tryd.prog.globalNamed "internal/strconv.uint64pow10" = some 0 := by kernel_rfl
theorem gPowT : (Tryd.prog.globals[0]?).map (·.type) = some 109 := by kernel_rfl
theorem Tryd.co38 : Tryd.prog.cellsOf 38 = 1 := by kernel_rfl
theorem Tryd.co109 : Tryd.prog.cellsOf 109 = 20 := by kernel_rfl
/-- What the condition gives the walks: the table. -/
theorem tab_of_laid {W : World} (h : laidMetH Tryd.prog Rows.tallySumsRow.laid W) : Tab W := by
  rw [MakeChecks.laidMetH_plain _ _ _ (by kernel_rfl)] at h
  exact Lib.tabIs_of_head (rest := []) gPow gPowT Tryd.underlying109 Tryd.underlying38 Tryd.co38 Tryd.co109 (laidMet.tail (laidMet.tail h))
theorem door_met (os : Os) (args : Array Value) : laidMetH Tryd.prog Rows.tallySumsRow.laid ((World.doorLaid Tryd.prog 400 os).forCall (fun _ _ => 0) ⟨#[], args, []⟩).memory :=
  laidMetH_of_parts3 (fuel := 8) (laidMet_of_run' 8 (by kernel_rfl) (by kernel_rfl)) (by kernel_rfl) (by kernel_rfl)

section
variable {H : Type} {enc : TypeId × Value → H} {w : World} {base : Nat} {spare : Nat → Bool} {held : Bool}
theorem Tryd.one58 : ∃ fs, Tryd.prog.underlying 58 = some (.struct fs) ∧ oneCellFields Tryd.prog fs = true ∧ Tryd.prog.cellsOf 58 = fs.size ∧ fs.size = 7 ∧ (fs[0]?.map (·.type)) = some 3 ∧ (fs[1]?.map (·.type)) = some 3 ∧ (fs[2]?.map (·.type)) = some 3 ∧ (fs[3]?.map (·.type)) = some 3 ∧ (fs[4]?.map (·.type)) = some 3 ∧ (fs[5]?.map (·.type)) = some 3 ∧ (fs[6]?.map (·.type)) = some 3 :=
  ⟨_, Tryd.underlying58, by kernel_rfl, by kernel_rfl, rfl, rfl, rfl, rfl, rfl, rfl, rfl, rfl⟩
theorem open_marks {fuel : Nat} {v : Value} {x : DataW H × List MemPlace} (h : DataW.trod enc Tryd.prog w base spare held fuel 22 [v] = some x) :
    ∃ a len cap l, v = .slice a len cap ∧ MarksAt w.heap.size w a len l ∧ len ≤ maxLen ∧ ∀ m ∈ l, I64 m.rows ∧ I64 m.ver := by
  obtain ⟨fds, hu, hone, hC, hsz, g0, g1, g2, g3, g4, g5, g6⟩ := Tryd.one58
  rcases open_elems Tryd.underlying22 hu hone hC (by omega) h with h1 | ⟨b, off, sp, len, cap, h1, hlm, hsp, hel⟩
  · cases h1
    exact ⟨none, 0, 0, [], rfl, ⟨rfl, .inl rfl⟩, by unfold maxLen; omega, by simp⟩
  · cases h1
    obtain ⟨f0, q0, r0⟩ := field_of g0
    obtain ⟨f1, q1, r1⟩ := field_of g1
    obtain ⟨f2, q2, r2⟩ := field_of g2
    obtain ⟨f3, q3, r3⟩ := field_of g3
    obtain ⟨f4, q4, r4⟩ := field_of g4
    obtain ⟨f5, q5, r5⟩ := field_of g5
    obtain ⟨f6, q6, r6⟩ := field_of g6
    obtain ⟨l, hl, hp⟩ := list_of (fun i (m : Mk0) => (w.cell? ⟨b, off + i * 7, none⟩ = some (.int .i64 m.k) ∧ w.cell? ⟨b, off + i * 7 + 1, none⟩ = some (.int .i64 m.code) ∧ w.cell? ⟨b, off + i * 7 + 2, none⟩ = some (.int .i64 m.done) ∧ w.cell? ⟨b, off + i * 7 + 3, none⟩ = some (.int .i64 m.failed) ∧
        w.cell? ⟨b, off + i * 7 + 4, none⟩ = some (.int .i64 m.st) ∧ w.cell? ⟨b, off + i * 7 + 5, none⟩ = some (.int .i64 m.rows) ∧ w.cell? ⟨b, off + i * 7 + 6, none⟩ = some (.int .i64 m.ver)) ∧ I64 m.rows ∧ I64 m.ver) len (by
      intro i hi
      obtain ⟨v0, y0, n0, c0, t0⟩ := hel i hi 0 f0 q0
      obtain ⟨v1, y1, n1, c1, t1⟩ := hel i hi 1 f1 q1
      obtain ⟨v2, y2, n2, c2, t2⟩ := hel i hi 2 f2 q2
      obtain ⟨v3, y3, n3, c3, t3⟩ := hel i hi 3 f3 q3
      obtain ⟨v4, y4, n4, c4, t4⟩ := hel i hi 4 f4 q4
      obtain ⟨v5, y5, n5, c5, t5⟩ := hel i hi 5 f5 q5
      obtain ⟨v6, y6, n6, c6, t6⟩ := hel i hi 6 f6 q6
      rw [r0] at t0; rw [r1] at t1; rw [r2] at t2; rw [r3] at t3; rw [r4] at t4; rw [r5] at t5; rw [r6] at t6
      obtain ⟨a0, e0, _, w0⟩ := DataW.trod_int Tryd.underlying3 t0
      obtain ⟨a1, e1, _, w1⟩ := DataW.trod_int Tryd.underlying3 t1
      obtain ⟨a2, e2, _, w2⟩ := DataW.trod_int Tryd.underlying3 t2
      obtain ⟨a3, e3, _, w3⟩ := DataW.trod_int Tryd.underlying3 t3
      obtain ⟨a4, e4, _, w4⟩ := DataW.trod_int Tryd.underlying3 t4
      obtain ⟨a5, e5, _, w5⟩ := DataW.trod_int Tryd.underlying3 t5
      obtain ⟨a6, e6, _, w6⟩ := DataW.trod_int Tryd.underlying3 t6
      cases e0; cases e1; cases e2; cases e3; cases e4; cases e5; cases e6
      rw [hsz] at c0 c1 c2 c3 c4 c5 c6
      exact ⟨⟨a0, a1, a2, a3, a4, a5, a6⟩, ⟨c0, c1, c2, c3, c4, c5, c6⟩, i64_of w5, i64_of w6⟩)
    refine ⟨some ⟨b, off, sp⟩, len, cap, l, rfl, ⟨hl, ?_⟩, hlm, fun m hm => ?_⟩
    · by_cases h0 : len = 0
      · exact .inl h0
      · obtain ⟨rfl, hb⟩ := hsp (by omega)
        exact .inr ⟨b, off, rfl, hb, fun i m hm => (hp i m hm).1⟩
    · obtain ⟨i, hi⟩ := List.getElem?_of_mem hm
      exact (hp i m hi).2
end
end Go.Proofs.YtgngpanimeigbabDoor
