/- How the arguments of the worlds' laws are read: caps, deeds. · How QueryParts' arguments are read: rows of rows of parts. -/
import Derived.Test.YtgebbmfoamkfnaaGreatDoorP43
import Derived.Test.YtgebbmfoamkfnaaGreatDoorP42
namespace Go.Proofs.YtgebbmfoamkfnaaGreatDoor
open Go.ChangeShapes Go.WideShapes Go.RowKit Go.Deep
set_option linter.unusedVariables false
section
variable {H : Type} {enc : TypeId × Value → H} {w : World} {base : Nat} {spare : Nat → Bool} {held : Bool}
/-- A struct of one-cell fields by value: each field's reading. -/
theorem open_struct {P : Program} {t : TypeId} {fs : Array Field} {r : Reach} {b0 : Nat} {v : Value} {d : DataW H} {p : List MemPlace} (hs : P.underlying t = some (.struct fs)) (hone : oneCellFields P fs = true) (hC : P.cellsOf t = fs.size) (hv : Value.okWide P w r b0 t v) (h : DataW.Trod enc P w base spare held t v d p) :
    ∃ cs : Array Value, v = .agg cs ∧ cs.size = fs.size ∧ ∀ (j : Nat) (f : Field), fs[j]? = some f → ∃ (u : Value) (y : DataW H × List MemPlace) (n : Nat), cs[j]? = some u ∧ DataW.trod enc P w base spare held n f.type [u] = some y := by
  obtain ⟨cs, rfl, hsz⟩ := okWide_struct hs hv
  obtain ⟨fuel, hf⟩ := h
  obtain ⟨xs, n, _, _, _, hlen, hg⟩ := DataW.trod_struct hs hf
  refine ⟨cs, rfl, hsz.trans hC, fun j f hj => ?_⟩
  obtain ⟨ho, hk⟩ := hone_of hone j f hj
  have hjl : j < fs.size := (Array.getElem?_eq_some_iff.1 hj).1
  have hjc : j < cs.size := by rw [hsz, hC]; exact hjl
  have h1 := hg j f hj
  rw [ho, hk] at h1
  have h2 : (((Value.agg cs).cells).toList.drop j).take 1 = [cs[j]] := by
    show ((cs.toList).drop j).take 1 = _
    rw [List.drop_eq_getElem_cons (by simpa using hjc)]
    simp
  rw [h2] at h1
  have hx : xs[j]? = some (xs[j]'(by omega)) := List.getElem?_eq_getElem (by omega)
  exact ⟨cs[j], xs[j]'(by omega), n, Array.getElem?_eq_getElem hjc, h1.trans hx⟩
theorem Tryz.one44 : ∃ fs, Tryz.prog.underlying 44 = some (.struct fs) ∧ oneCellFields Tryz.prog fs = true ∧ Tryz.prog.cellsOf 44 = fs.size ∧ fs.size = 6 ∧ (fs[0]?.map (·.type)) = some 3 ∧ (fs[1]?.map (·.type)) = some 3 ∧ (fs[2]?.map (·.type)) = some 3 ∧ (fs[3]?.map (·.type)) = some 3 ∧ (fs[4]?.map (·.type)) = some 3 ∧ (fs[5]?.map (·.type)) = some 3 :=
  ⟨_, Tryz.underlying44, by kernel_rfl, by kernel_rfl, rfl, rfl, rfl, rfl, rfl, rfl, rfl⟩
theorem six {cs : Array Value} (h : cs.size = 6) {a b c d e f : Value} (h0 : cs[0]? = some a) (h1 : cs[1]? = some b) (h2 : cs[2]? = some c) (h3 : cs[3]? = some d) (h4 : cs[4]? = some e) (h5 : cs[5]? = some f) : cs = #[a, b, c, d, e, f] := by
  obtain ⟨l⟩ := cs
  match l, h with
  | [x0, x1, x2, x3, x4, x5], _ =>
    simp at h0 h1 h2 h3 h4 h5
    subst h0; subst h1; subst h2; subst h3; subst h4; subst h5
    rfl
set_option maxRecDepth 100000 in
theorem open_caps {r : Reach} {b0 : Nat} {v : Value} {d : DataW H} {p : List MemPlace} (hv : Value.okWide Tryz.prog w r b0 44 v) (h : DataW.Trod enc Tryz.prog w base spare held 44 v d p) :
    ∃ c : CapsD, v = .agg #[.int .i64 c.ents, .int .i64 c.rows, .int .i64 c.archs, .int .i64 c.cmds, .int .i64 c.fuel, .int .i64 c.gens] := by
  obtain ⟨fds, hu, hone, hC, hsz, g0, g1, g2, g3, g4, g5⟩ := Tryz.one44
  obtain ⟨cs, rfl, hcs, hf⟩ := open_struct hu hone hC hv h
  have key : ∀ (j : Nat), (fds[j]?.map (fun (f : Field) => f.type)) = some 3 → ∃ k, cs[j]? = some (Value.int .i64 k) := by
    intro j hj
    obtain ⟨f, q, rr⟩ := field_of hj
    obtain ⟨u, y, n, hu', ht⟩ := hf j f q
    rw [rr] at ht
    obtain ⟨k, e, _, _⟩ := DataW.trod_int Tryz.underlying3 ht
    cases e
    exact ⟨k, hu'⟩
  obtain ⟨k0, h0⟩ := key 0 g0
  obtain ⟨k1, h1⟩ := key 1 g1
  obtain ⟨k2, h2⟩ := key 2 g2
  obtain ⟨k3, h3⟩ := key 3 g3
  obtain ⟨k4, h4⟩ := key 4 g4
  obtain ⟨k5, h5⟩ := key 5 g5
  exact ⟨⟨k0, k1, k2, k3, k4, k5⟩, by rw [six (by omega) h0 h1 h2 h3 h4 h5]⟩
end
end Go.Proofs.YtgebbmfoamkfnaaGreatDoor
namespace Go.Proofs.YtgebbmfoamkfnaaGreatDoor
open Go.ChangeShapes Go.WideShapes Go.ChangeAt Go.RowKit Go.Joins Go.Deep
set_option linter.unusedVariables false
section
variable {H : Type} {enc : TypeId × Value → H} {w : World} {base : Nat} {spare : Nat → Bool} {held : Bool}
theorem Tryz.coParts : Tryz.prog.cellsOf 48 = 1 := by kernel_rfl
theorem open_partss {fuel : Nat} {v : Value} {x : DataW H × List MemPlace} (h : DataW.trod enc Tryz.prog w base spare held fuel 45 [v] = some x) :
    ∃ a len cap l, v = .slice a len cap ∧ PLAt w.heap.size w a len l := by
  rcases open_ones Tryz.underlying45 Tryz.coParts h with h1 | ⟨b, off, sp, len, cap, h1, hlm, hlc, hsp, hel⟩
  · cases h1
    exact ⟨none, 0, 0, [], rfl, rfl, Nat.zero_le _, (fun s hs => by cases hs), .inl rfl⟩
  · cases h1
    obtain ⟨l, hl, hp⟩ := list_of (fun i (x : PSl) => w.cell? ⟨b, off + i, none⟩ = some (.slice x.pa x.pl x.pc) ∧ PartsAt w.heap.size w x.pa x.pl x.pc x.ps) len (by
      intro i hi
      obtain ⟨v0, y0, n0, c0, t0⟩ := hel i hi
      obtain ⟨pa, pl, pc, ps, rfl, hps⟩ := open_parts t0
      exact ⟨⟨pa, pl, pc, ps⟩, c0, hps⟩)
    refine ⟨some ⟨b, off, sp⟩, len, cap, l, rfl, hl, hlm, fun y hy => ?_, ?_⟩
    · obtain ⟨i, hi⟩ := List.getElem?_of_mem hy
      exact (hp i y hi).2
    · by_cases h0 : len = 0
      · exact .inl h0
      · obtain ⟨rfl, hb⟩ := hsp (by omega)
        exact .inr ⟨b, off, rfl, hb, fun i x hx => (hp i x hx).1⟩
end
end Go.Proofs.YtgebbmfoamkfnaaGreatDoor
