/- How TallyExact's arguments are read: a tally, and the marks; the listed table. -/
import Derived.Test.YtgngpanimeigbabDoorE7
import Derived.LaidMore
import Derived.Stop.Joined
import Derived.Stop.LaidErr
namespace Go.Proofs.YtgngpanimeigbabDoor
open Go.ChangeShapes Go.WideShapes Go.ChangeAt Go.RowKit Go.Joins Go.Deep
set_option linter.unusedVariables false
theorem Tryd.tallyFs : ∃ fs, Tryd.prog.underlying 25 = some (.struct fs) ∧ fs.size = 11 ∧ (fs[0]?.map fun f => (f.offset, f.type)) = some (0, 23) ∧ ∀ j, j < 10 → (fs[j + 1]?.map fun f => (f.offset, f.type)) = some (12 + j, 3) := by
  refine ⟨_, Tryd.underlying25, rfl, rfl, fun j hj => ?_⟩
  rcases (by omega : j = 0 ∨ j = 1 ∨ j = 2 ∨ j = 3 ∨ j = 4 ∨ j = 5 ∨ j = 6 ∨ j = 7 ∨ j = 8 ∨ j = 9) with rfl | rfl | rfl | rfl | rfl | rfl | rfl | rfl | rfl | rfl <;> rfl
theorem Tryd.coTally : Tryd.prog.cellsOf 25 = 22 := by kernel_rfl
theorem off_of {fs : Array Field} {j o : Nat} {t : TypeId} (h : (fs[j]?.map fun f => (f.offset, f.type)) = some (o, t)) : ∃ f, fs[j]? = some f ∧ f.offset = o ∧ f.type = t := by
  cases hf : fs[j]? with
  | none => rw [hf] at h; cases h
  | some f => rw [hf] at h; cases h; exact ⟨f, rfl, rfl, rfl⟩
theorem take1 {cs : List Value} {o : Nat} {v : Value} (h : cs[o]? = some v) : (cs.drop o).take 1 = [v] := by
  rw [drop_get h]; rfl
section
variable {H : Type} {enc : TypeId × Value → H} {w W : World} {base b0 : Nat} {spare : Nat → Bool} {held : Bool}
set_option maxRecDepth 100000 in
theorem open_tally {r : Reach} {v : Value} {d : DataW H} {p : List MemPlace} (hv : Value.okWide Tryd.prog W r b0 25 v) (h : DataW.Trod enc Tryd.prog w base spare held 25 v d p) :
    ∃ t : List Int, t.length = 22 ∧ v = .agg (tv t) ∧ ∀ x ∈ t, I64 x := by
  obtain ⟨fs, hu, hsz, h0, h1⟩ := Tryd.tallyFs
  obtain ⟨cs, rfl, hcs⟩ := okWide_struct hu hv
  rw [Tryd.coTally] at hcs
  obtain ⟨fuel, hf⟩ := h
  change DataW.trod enc Tryd.prog w base spare held fuel 25 cs.toList = some (d, p) at hf
  obtain ⟨xs, n, _, _, hl, hxl, hall⟩ := DataW.trod_struct hu hf
  have key : ∀ i, i < 22 → ∃ z : Int, cs[i]? = some (.int .i64 z) ∧ I64 z := by
    intro i hi
    have hci : cs[i]? = some (cs[i]'(by omega)) := Array.getElem?_eq_getElem (by omega)
    have hcl : cs.toList[i]? = some (cs[i]'(by omega)) := by simp
    by_cases h12 : i < 12
    · obtain ⟨f, q0, q1, q2⟩ := off_of h0
      have ha := hall 0 f q0
      rw [q1, q2, Tryd.co23] at ha
      have hx0 : xs[0]? = some (xs[0]'(by omega)) := List.getElem?_eq_getElem (by omega)
      rw [hx0] at ha
      obtain ⟨ys, m, _, _, _, hyl, hel⟩ := DataW.trod_array Tryd.underlying23 ha
      have he := hel i h12
      rw [Tryd.co3, Nat.mul_one] at he
      have hd : (((cs.toList.drop 0).take 12).drop i).take 1 = [cs[i]'(by omega)] := by
        refine take1 ?_
        rw [List.getElem?_take, if_pos h12, List.drop_zero]; exact hcl
      rw [hd] at he
      have hyi : ys[i]? = some (ys[i]'(by omega)) := List.getElem?_eq_getElem (by omega)
      obtain ⟨z, e, _, hz⟩ := DataW.trod_int Tryd.underlying3 (he.trans hyi)
      exact ⟨z, by rw [hci]; exact congrArg some (List.cons.inj e).1, i64_of hz⟩
    · obtain ⟨f, q0, q1, q2⟩ := off_of (h1 (i - 12) (by omega))
      have ha := hall _ f q0
      rw [q1, q2, Tryd.co3, show 12 + (i - 12) = i by omega, take1 hcl] at ha
      have hxi : xs[i - 12 + 1]? = some (xs[i - 12 + 1]'(by omega)) := List.getElem?_eq_getElem (by omega)
      obtain ⟨z, e, _, hz⟩ := DataW.trod_int Tryd.underlying3 (ha.trans hxi)
      exact ⟨z, by rw [hci]; exact congrArg some (List.cons.inj e).1, i64_of hz⟩
  obtain ⟨t, htl, ht⟩ := list_of (fun i (z : Int) => cs[i]? = some (.int .i64 z) ∧ I64 z) 22 key
  refine ⟨t, htl, ?_, fun x hx => ?_⟩
  · congr 1
    apply Array.ext_getElem?
    intro i
    by_cases hi : i < 22
    · have hti : t[i]? = some (t[i]'(by omega)) := List.getElem?_eq_getElem (by omega)
      rw [(ht i _ hti).1]
      simp [tv, hti]
    · rw [Array.getElem?_eq_none (by omega), Array.getElem?_eq_none (by simp [tv]; omega)]
  · obtain ⟨i, hi⟩ := List.getElem?_of_mem hx
    exact (ht i x hi).2
end
theorem own : ownKnob Tryd.prog.godebug = none := by kernel_rfl
theorem laidOut : laidOutB Tryd.prog = true := by kernel_rfl
theorem gPow : Tryd.prog.globalNamed "internal/strconv.uint64pow10" = some 0 := by kernel_rfl
theorem gPowT : (Tryd.prog.globals[0]?).map (·.type) = some 109 := by kernel_rfl
theorem Tryd.co38 : Tryd.prog.cellsOf 38 = 1 := by kernel_rfl
theorem Tryd.co109 : Tryd.prog.cellsOf 109 = 20 := by kernel_rfl
theorem tab_of_laid {W : World} (h : laidMetH Tryd.prog Rows.tallyExactRow.laid W) : Tab W := by
  rw [MakeChecks.laidMetH_plain _ _ _ (by kernel_rfl)] at h
  exact Lib.tabIs_of_head (rest := []) gPow gPowT Tryd.underlying109 Tryd.underlying38 Tryd.co38 Tryd.co109 (laidMet.tail (laidMet.tail h))
theorem door_met (os : Os) (args : Array Value) : laidMetH Tryd.prog Rows.tallyExactRow.laid ((World.doorLaid Tryd.prog 400 os).forCall (fun _ _ => 0) ⟨#[], args, []⟩).memory :=
  laidMetH_of_parts3 (fuel := 8) (laidMet_of_run' 8 (by kernel_rfl) (by kernel_rfl)) (by kernel_rfl) (by kernel_rfl)

section
variable {H : Type} {enc : TypeId × Value → H} {w : World} {base : Nat} {spare : Nat → Bool} {held : Bool}
theorem Tryd.one58 : ∃ fs, Tryd.prog.underlying 58 = some (.struct fs) ∧ oneCellFields Tryd.prog fs = true ∧ Tryd.prog.cellsOf 58 = fs.size ∧ fs.size = 7 ∧ (fs[0]?.map (·.type)) = some 3 ∧ (fs[1]?.map (·.type)) = some 3 ∧ (fs[2]?.map (·.type)) = some 3 ∧ (fs[3]?.map (·.type)) = some 3 ∧ (fs[4]?.map (·.type)) = some 3 ∧ (fs[5]?.map (·.type)) = some 3 ∧ (fs[6]?.map (·.type)) = some 3 :=
  ⟨_, Tryd.underlying58, by kernel_rfl, by kernel_rfl, rfl, rfl, rfl, rfl, rfl, rfl, rfl, rfl⟩
theorem open_marks {fuel : Nat} {v : Value} {x : DataW H × List MemPlace} (h : DataW.trod enc Tryd.prog w base spare held fuel 22 [v] = some x) :
    ∃ a len cap l, v = .slice a len cap ∧ MarksAt w.heap.size w a len l ∧ len ≤ maxLen ∧ ∀ m ∈ l, I64 m.rows ∧ I64 m.ver := by
  obtain ⟨fds, hu, hone, hC, hsz, g0, g1, g2, g3, g4, g5, g6⟩ := Tryd.one58
  rcases open_elems Tryd.underlying22 hu hone hC (by omega) h with h1 | ⟨b, off, sp, len, cap, h1, hlm, hsp, hel⟩
  · cases h1
    exact ⟨none, 0, 0, [], rfl, ⟨rfl, .inl rfl⟩, by unfold maxLen; omega, by simp⟩
  · cases h1
    obtain ⟨f0, q0, r0⟩ := field_of g0
    obtain ⟨f1, q1, r1⟩ := field_of g1
    obtain ⟨f2, q2, r2⟩ := field_of g2
    obtain ⟨f3, q3, r3⟩ := field_of g3
    obtain ⟨f4, q4, r4⟩ := field_of g4
    obtain ⟨f5, q5, r5⟩ := field_of g5
    obtain ⟨f6, q6, r6⟩ := field_of g6
    obtain ⟨l, hl, hp⟩ := list_of (fun i (m : Mk0) => (w.cell? ⟨b, off + i * 7, none⟩ = some (.int .i64 m.k) ∧ w.cell? ⟨b, off + i * 7 + 1, none⟩ = some (.int .i64 m.code) ∧ w.cell? ⟨b, off + i * 7 + 2, none⟩ = some (.int .i64 m.done) ∧ w.cell? ⟨b, off + i * 7 + 3, none⟩ = some (.int .i64 m.failed) ∧
        w.cell? ⟨b, off + i * 7 + 4, none⟩ = some (.int .i64 m.st) ∧ w.cell? ⟨b, off + i * 7 + 5, none⟩ = some (.int .i64 m.rows) ∧ w.cell? ⟨b, off + i * 7 + 6, none⟩ = some (.int .i64 m.ver)) ∧ I64 m.rows ∧ I64 m.ver) len (by
      intro i hi
      obtain ⟨v0, y0, n0, c0, t0⟩ := hel i hi 0 f0 q0
      obtain ⟨v1, y1, n1, c1, t1⟩ := hel i hi 1 f1 q1
      obtain ⟨v2, y2, n2, c2, t2⟩ := hel i hi 2 f2 q2
      obtain ⟨v3, y3, n3, c3, t3⟩ := hel i hi 3 f3 q3
      obtain ⟨v4, y4, n4, c4, t4⟩ := hel i hi 4 f4 q4
      obtain ⟨v5, y5, n5, c5, t5⟩ := hel i hi 5 f5 q5
      obtain ⟨v6, y6, n6, c6, t6⟩ := hel i hi 6 f6 q6
      rw [r0] at t0; rw [r1] at t1; rw [r2] at t2; rw [r3] at t3; rw [r4] at t4; rw [r5] at t5; rw [r6] at t6
      obtain ⟨a0, e0, _, w0⟩ := DataW.trod_int Tryd.underlying3 t0
      obtain ⟨a1, e1, _, w1⟩ := DataW.trod_int Tryd.underlying3 t1
      obtain ⟨a2, e2, _, w2⟩ := DataW.trod_int Tryd.underlying3 t2
      obtain ⟨a3, e3, _, w3⟩ := DataW.trod_int Tryd.underlying3 t3
      obtain ⟨a4, e4, _, w4⟩ := DataW.trod_int Tryd.underlying3 t4
      obtain ⟨a5, e5, _, w5⟩ := DataW.trod_int Tryd.underlying3 t5
      obtain ⟨a6, e6, _, w6⟩ := DataW.trod_int Tryd.underlying3 t6
      cases e0; cases e1; cases e2; cases e3; cases e4; cases e5; cases e6
      rw [hsz] at c0 c1 c2 c3 c4 c5 c6
      exact ⟨⟨a0, a1, a2, a3, a4, a5, a6⟩, ⟨c0, c1, c2, c3, c4, c5, c6⟩, i64_of w5, i64_of w6⟩)
    refine ⟨some ⟨b, off, sp⟩, len, cap, l, rfl, ⟨hl, ?_⟩, hlm, fun m hm => ?_⟩
    · by_cases h0 : len = 0
      · exact .inl h0
      · obtain ⟨rfl, hb⟩ := hsp (by omega)
        exact .inr ⟨b, off, rfl, hb, fun i m hm => (hp i m hm).1⟩
    · obtain ⟨i, hi⟩ := List.getElem?_of_mem hm
      exact (hp i m hi).2
end
end Go.Proofs.YtgngpanimeigbabDoor
