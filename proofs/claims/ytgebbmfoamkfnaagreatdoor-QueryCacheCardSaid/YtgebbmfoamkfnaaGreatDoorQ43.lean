/- Readings: slices of structs of one-cell fields, field by field; slices of one-cell values. · How the arguments of the queries' laws are read: sets, asks; what the library's variables hold. -/
import Derived.Test.YtgebbmfoamkfnaaGreatDoorProg
import Derived.WalkKit
import Derived.ProofKit
import Derived.OpenShut
import Derived.ShutString
import Derived.ChangeOld
import Derived.Below
import Derived.Deep.Slices
import Derived.Deep.Fields
import Derived.Lib.SmallJoins
import Derived.LaidMore
import Derived.LaidLaws
import Derived.Shelf.Vars
import Derived.Stop.Joined
import Derived.Stop.LaidErr
import Derived.Test.YtgebbmfoamkfnaaGreatDoorQ42
import Derived.Test.YtgebbmfoamkfnaaGreatDoorRows
namespace Go.Proofs.YtgebbmfoamkfnaaGreatDoor
open Go.ChangeShapes Go.WideShapes Go.ChangeAt Go.RowKit Go.Joins Go.Deep
set_option linter.unusedVariables false
theorem list_of {α : Type} (P : Nat → α → Prop) : ∀ (len : Nat), (∀ i, i < len → ∃ x, P i x) → ∃ l : List α, l.length = len ∧ ∀ (i : Nat) (x : α), l[i]? = some x → P i x
  | 0, _ => ⟨[], rfl, fun i x h => by simp at h⟩
  | n + 1, h => by
    obtain ⟨l, hl, hp⟩ := list_of P n (fun i hi => h i (by omega))
    obtain ⟨x, hx⟩ := h n (by omega)
    refine ⟨l ++ [x], by simp [hl], fun i y hy => ?_⟩
    by_cases hi : i < n
    · rw [List.getElem?_append_left (by omega)] at hy; exact hp i y hy
    · have hlt := (List.getElem?_eq_some_iff.1 hy).1
      simp [hl] at hlt
      obtain rfl : i = n := by omega
      rw [List.getElem?_append_right (by omega), hl] at hy
      simp at hy
      subst hy; exact hx
section
variable {H : Type} {enc : TypeId × Value → H} {P : Program} {w : World} {base : Nat} {spare : Nat → Bool} {held : Bool}
/-- A slice of structs of one-cell fields: each field's cell, and its reading. -/
theorem open_elems {t e : TypeId} {fs : Array Field} {fuel : Nat} {cs : List Value} {x : DataW H × List MemPlace} (ht : P.underlying t = some (.slice e)) (he : P.underlying e = some (.struct fs)) (hone : oneCellFields P fs = true) (hC : P.cellsOf e = fs.size) (h0 : 0 < fs.size)
    (h : DataW.trod enc P w base spare held fuel t cs = some x) :
    cs = [.slice none 0 0] ∨ ∃ (b off : Nat) (sp : Option Nat) (len cap : Nat), cs = [.slice (some ⟨b, off, sp⟩) len cap] ∧ len ≤ maxLen ∧ (len ≤ cap ∧ cap ≤ maxLen) ∧ (0 < len → sp = none ∧ b < w.heap.size) ∧
      ∀ i, i < len → ∀ (j : Nat) (f : Field), fs[j]? = some f → ∃ (v : Value) (y : DataW H × List MemPlace) (n : Nat), w.cell? ⟨b, off + (i * fs.size + j), none⟩ = some v ∧ DataW.trod enc P w base spare held n f.type [v] = some y := by
  rcases open_slice ht h with ⟨h1, _⟩ | ⟨a, len, cap, m, n, D, Pl, hcs, hb, hl, hm, hmm, hx, hi⟩
  · exact .inl h1
  · obtain ⟨b, off, sp⟩ := a
    have hlm : len ≤ m := by rw [hmm]; split <;> omega
    have key : ∀ i, i < len → ∀ (j : Nat) (f : Field), fs[j]? = some f → ∃ (v : Value) (y : DataW H × List MemPlace) (n : Nat), w.cell? ((⟨b, off, sp⟩ : Addr).add (i * fs.size + j)) = some v ∧ DataW.trod enc P w base spare held n f.type [v] = some y := by
      intro i hil j f hf
      obtain ⟨cs', hc, ht'⟩ := hi i (by omega)
      rw [hC] at hc
      obtain ⟨_, hcl, hcell⟩ := World.cells?_some hc
      obtain ⟨xs, n', _, _, _, hxl, hall⟩ := DataW.trod_struct he ht'
      obtain ⟨ho, hc1⟩ := hone_of hone j f hf
      have hj : j < fs.size := (Array.getElem?_eq_some_iff.1 hf).1
      have hlt : j < cs'.length := by omega
      have ha := hall j f hf
      rw [ho, hc1, List.drop_eq_getElem_cons hlt] at ha
      simp only [List.take_succ_cons, List.take_zero] at ha
      have hxs : xs[j]? = some (xs[j]'(by omega)) := List.getElem?_eq_getElem (by omega)
      refine ⟨cs'[j], xs[j]'(by omega), n', ?_, ha.trans hxs⟩
      have := hcell j hj
      rw [List.getElem?_eq_getElem hlt] at this
      rw [← Go.Deep.add_add]
      exact this
    refine .inr ⟨b, off, sp, len, cap, hcs, by omega, ⟨hl, hm⟩, fun hpos => ?_, fun i hil j f hf => ?_⟩
    · obtain ⟨v, y, n', hv, _⟩ := key 0 hpos 0 fs[0] (Array.getElem?_eq_getElem h0)
      have e : (⟨b, off, sp⟩ : Addr).add (0 * fs.size + 0) = ⟨b, off, sp⟩ := by simp [Addr.add]
      rw [e] at hv
      exact ⟨World.cell?_spot hv, World.block_lt_of_cell? w _ hv⟩
    · obtain ⟨v, y, n', hv, ht'⟩ := key i hil j f hf
      refine ⟨v, y, n', ?_, ht'⟩
      obtain ⟨v0, y0, n0, hv0, _⟩ := key 0 (by omega) 0 fs[0] (Array.getElem?_eq_getElem h0)
      have e : (⟨b, off, sp⟩ : Addr).add (0 * fs.size + 0) = ⟨b, off, sp⟩ := by simp [Addr.add]
      rw [e] at hv0
      have hsp : sp = none := World.cell?_spot hv0
      subst hsp
      have hadd : (⟨b, off, none⟩ : Addr).add (i * fs.size + j) = ⟨b, off + (i * fs.size + j), none⟩ := by unfold Addr.add; split <;> simp_all
      rw [← hadd]; exact hv
end
theorem field_of {fs : Array Field} {j : Nat} {t : TypeId} (h : (fs[j]?.map (·.type)) = some t) : ∃ f, fs[j]? = some f ∧ f.type = t := by
  cases hf : fs[j]? with
  | none => rw [hf] at h; cases h
  | some f => rw [hf] at h; exact ⟨f, rfl, Option.some.inj h⟩
theorem u32_of {n : Int} (h : (Lit.int .u32 n).wf = true) : 0 ≤ n ∧ n ≤ 4294967295 := by
  simpa [Lit.wf, IntKind.min, IntKind.max, IntKind.signed, IntKind.bits] using h
section
variable {H : Type} {enc : TypeId × Value → H} {P : Program} {w : World} {base : Nat} {spare : Nat → Bool} {held : Bool}
/-- A slice of one-cell values: each cell, and its reading. -/
theorem open_ones {t e : TypeId} {fuel : Nat} {cs : List Value} {x : DataW H × List MemPlace} (ht : P.underlying t = some (.slice e)) (hC : P.cellsOf e = 1)
    (h : DataW.trod enc P w base spare held fuel t cs = some x) :
    cs = [.slice none 0 0] ∨ ∃ (b off : Nat) (sp : Option Nat) (len cap : Nat), cs = [.slice (some ⟨b, off, sp⟩) len cap] ∧ len ≤ maxLen ∧ (len ≤ cap ∧ cap ≤ maxLen) ∧ (0 < len → sp = none ∧ b < w.heap.size) ∧
      ∀ i, i < len → ∃ (v : Value) (y : DataW H × List MemPlace) (n : Nat), w.cell? ⟨b, off + i, none⟩ = some v ∧ DataW.trod enc P w base spare held n e [v] = some y := by
  rcases open_slice ht h with ⟨h1, _⟩ | ⟨a, len, cap, m, n, D, Pl, hcs, hb, hl, hm, hmm, hx, hi⟩
  · exact .inl h1
  · obtain ⟨b, off, sp⟩ := a
    have hlm : len ≤ m := by rw [hmm]; split <;> omega
    have key : ∀ i, i < len → ∃ (v : Value) (y : DataW H × List MemPlace) (n : Nat), w.cell? ((⟨b, off, sp⟩ : Addr).add i) = some v ∧ DataW.trod enc P w base spare held n e [v] = some y := by
      intro i hil
      obtain ⟨cs', hc, ht'⟩ := hi i (by omega)
      rw [hC] at hc
      obtain ⟨_, hcl, hcell⟩ := World.cells?_some hc
      obtain ⟨v, rfl⟩ := List.length_eq_one_iff.1 hcl
      have := hcell 0 (by omega)
      rw [Nat.mul_one] at this
      refine ⟨v, _, _, ?_, ht'⟩
      have e0 : ((⟨b, off, sp⟩ : Addr).add i).add 0 = (⟨b, off, sp⟩ : Addr).add i := by simp [Addr.add]
      rw [e0] at this
      exact this
    refine .inr ⟨b, off, sp, len, cap, hcs, by omega, ⟨hl, hm⟩, fun hpos => ?_, fun i hil => ?_⟩
    · obtain ⟨v, y, n', hv, _⟩ := key 0 hpos
      have e : (⟨b, off, sp⟩ : Addr).add 0 = ⟨b, off, sp⟩ := by simp [Addr.add]
      rw [e] at hv
      exact ⟨World.cell?_spot hv, World.block_lt_of_cell? w _ hv⟩
    · obtain ⟨v, y, n', hv, ht'⟩ := key i hil
      refine ⟨v, y, n', ?_, ht'⟩
      obtain ⟨v0, y0, n0, hv0, _⟩ := key 0 (by omega)
      have e : (⟨b, off, sp⟩ : Addr).add 0 = ⟨b, off, sp⟩ := by simp [Addr.add]
      rw [e] at hv0
      have hsp : sp = none := World.cell?_spot hv0
      subst hsp
      have hadd : (⟨b, off, none⟩ : Addr).add i = ⟨b, off + i, none⟩ := by unfold Addr.add; split <;> simp_all
      rw [← hadd]; exact hv
end
end Go.Proofs.YtgebbmfoamkfnaaGreatDoor
namespace Go.Proofs.YtgebbmfoamkfnaaGreatDoor
open Go.ChangeShapes Go.WideShapes Go.ChangeAt Go.RowKit Go.Joins Go.Deep
set_option linter.unusedVariables false
/-- The plain wrap, with a condition of the row's own and the world's shape kept. -/
theorem wrap_open {H : Type} {enc : TypeId × Value → H} {a : Assume} {C : Checked} {os : Os} {f : FuncId} {fn : Func} {s : ChangeSpec} {conds : List PathCond} {apart fresh handsOn again : Bool} {X : World → Array Value → Prop}
    (hX : ∀ (w w' : World) (args : Array Value), w.heap = w'.heap → X w args → X w' args)
    (own : ownKnob C.prog.godebug = none) (started : os.Started) (noInit : C.prog.inits.idxOf? f = none) (hfn : C.prog.funcs[f]? = some fn)
    (witness : ∃ (w : World) (tape : Tape) (i : Input), w.os = os ∧ (w.forCall tape i).Shaped C.prog ∧ i.vars = [] ∧ Input.okWide C.prog (w.forCall tape i) .any w.heap.size f i ∧
      ((s.pre enc C.prog fn conds apart (w.forCall tape i).memory i.args ∧ X (w.forCall tape i).memory i.args) ∧ sizedMet enc C.prog fn (OpenSpec.ofChange s) apart (w.forCall tape i).memory i.args) ∧ a.holds C.prog (lone (Frame.enter C.prog f i.args .normal) [] (w.forCall tape i)))
    (contract : ∀ (W : World) (base : Nat) (args : Array Value) (ds gs : List (DataW H)) (before : List MemPlace),
      (∀ (j : Nat) t v, fn.params[j]? = some t → args[j]? = some v → Value.okWide C.prog W .any base t v) →
      DataW.Whole enc C.prog fn.params.toList s.vars apart W args.toList ds gs before → X W args → W.ShapedOpen C.prog →
      Calls C.prog f args W fun e W' => ∃ v, e = .returned v ∧ s.post enc C.prog fn apart fresh handsOn again W args v W') :
    ReturnsInHanded a C os f .any (fun w args => (s.pre enc C.prog fn conds apart w args ∧ X w args) ∧ sizedMet enc C.prog fn (OpenSpec.ofChange s) apart w args) (s.post enc C.prog fn apart fresh handsOn again) := by
  refine returnsInHanded_of_calls own started noInit witness ?_
  intro w tape i _ hsh _ hok hpre _
  obtain ⟨_, _, _, fn', hfn', _, _, _, _, hval⟩ := hok
  obtain rfl : fn' = fn := Option.some.inj (hfn'.symm.trans hfn)
  obtain ⟨⟨⟨ds, gs, before, hw, _⟩, hx⟩, _⟩ := hpre
  refine (contract (w.forCall tape i) w.heap.size i.args ds gs before hval (DataW.Whole.of_heap (w' := w.forCall tape i) (by rfl) hw) (hX _ _ _ (by rfl) hx) hsh).mono fun e W' ⟨v, he, hp⟩ => ?_
  subst he
  exact ChangeSpec.post_blind hp
theorem gSyn : Tryz.prog.globalNamed "strconv.ErrSyntax" = some 1 := by kernel_rfl
theorem gSynT : (Tryz.prog.globals[1]?).map (·.type) = some 142 := by kernel_rfl
theorem gRng : Tryz.prog.globalNamed "strconv.ErrRange" = some 2 := by kernel_rfl
theorem gRngT : (Tryz.prog.globals[2]?).map (·.type) = some 142 := by kernel_rfl
theorem starErr : "*" ++ "errors.errorString" = "*errors.errorString" := by decide
theorem rowErr (u : TypeId) (h : Tryz.prog.typeName? 3 u = some "*errors.errorString") : u = 300 :=
  typeName_ptr_named (nm := "errors.errorString") (by rw [starErr]; kernel_rfl) (by kernel_rfl) (by decide) u (by rw [starErr]; exact h)
theorem Tryz.coErr : Tryz.prog.cellsOf 302 = 1 := by kernel_rfl
theorem Tryz.coStr : Tryz.prog.cellsOf 9 = 1 := by kernel_rfl
/-- What the condition and the world's shape give the walks. -/
theorem qv_of {W : World} (hL : laidMetH Tryz.prog Rows.queryCacheRow.laid W) (hs : W.ShapedOpen Tryz.prog) : QV W := by
  rw [MakeChecks.laidMetH_plain _ _ _ (by kernel_rfl)] at hL
  have h5 := laidMet.tail (laidMet.tail (laidMet.tail (laidMet.tail hL)))
  obtain ⟨a0, s0, hva, _, _, _⟩ := laid_sentinel h5 gRng gRngT Tryz.underlying142 rowErr Tryz.underlying300 Tryz.underlying302 rfl rfl Tryz.underlying9 Tryz.coErr Tryz.coStr
  obtain ⟨a1, s1, hvb, _, _, _⟩ := laid_sentinel (laidMet.tail h5) gSyn gSynT Tryz.underlying142 rowErr Tryz.underlying300 Tryz.underlying302 rfl rfl Tryz.underlying9 Tryz.coErr Tryz.coStr
  have c2 := World.var?_cell gRng hva 0
  have c1 := World.var?_cell gSyn hvb 0
  refine ⟨cell_of_shapedOpen_int (g := 0) (zero := #[.int .i64 0]) (t := 3) hs (of_decide_eq_true (by kernel_rfl)) (by kernel_rfl) rfl (by kernel_rfl) (by kernel_rfl) Tryz.underlying3, ⟨_, by simpa using c1, .inr ⟨_, _, rfl⟩⟩, ⟨_, by simpa using c2, .inr ⟨_, _, rfl⟩⟩, ?_⟩
  have c3 : W.cell? ⟨2, 0, none⟩ = some (.iface 300 (.pointer (some a0))) := by simpa using c2
  exact World.block_lt_of_cell? W _ c3
section
variable {H : Type} {enc : TypeId × Value → H} {w : World} {base : Nat} {spare : Nat → Bool} {held : Bool}
theorem open_sets {fuel : Nat} {v : Value} {x : DataW H × List MemPlace} (h : DataW.trod enc Tryz.prog w base spare held fuel 63 [v] = some x) :
    ∃ a len cap l, v = .slice a len cap ∧ SetsAt w.heap.size w a len l ∧ setsOk l := by
  rcases open_ones Tryz.underlying63 Tryz.coU32 h with h1 | ⟨b, off, sp, len, cap, h1, hlm, hlc, hsp, hel⟩
  · cases h1
    exact ⟨none, 0, 0, [], rfl, ⟨rfl, Nat.zero_le _, .inl rfl⟩, fun s hs => by cases hs⟩
  · cases h1
    obtain ⟨l, hl, hp⟩ := list_of (fun i (x : Int) => w.cell? ⟨b, off + i, none⟩ = some (.int .u32 x) ∧ 0 ≤ x ∧ x ≤ 4294967295) len (by
      intro i hi
      obtain ⟨v0, y0, n0, c0, t0⟩ := hel i hi
      obtain ⟨a0, e0, _, w0⟩ := DataW.trod_int Tryz.underlying25 t0
      cases e0
      exact ⟨a0, c0, u32_of w0⟩)
    refine ⟨some ⟨b, off, sp⟩, len, cap, l, rfl, ⟨hl, hlm, ?_⟩, fun s hs => ?_⟩
    · by_cases h0 : len = 0
      · exact .inl h0
      · obtain ⟨rfl, hb⟩ := hsp (by omega)
        exact .inr ⟨b, off, rfl, hb, fun i x hx => (hp i x hx).1⟩
    · obtain ⟨i, hi⟩ := List.getElem?_of_mem hs
      exact (hp i s hi).2
theorem Tryz.one69 : ∃ fs, Tryz.prog.underlying 69 = some (.struct fs) ∧ oneCellFields Tryz.prog fs = true ∧ Tryz.prog.cellsOf 69 = fs.size ∧ fs.size = 5 ∧ (fs[0]?.map (·.type)) = some 25 ∧ (fs[1]?.map (·.type)) = some 25 ∧ (fs[2]?.map (·.type)) = some 3 ∧ (fs[3]?.map (·.type)) = some 4 ∧ (fs[4]?.map (·.type)) = some 4 :=
  ⟨_, Tryz.underlying69, by kernel_rfl, by kernel_rfl, rfl, rfl, rfl, rfl, rfl, rfl⟩
theorem open_asks {fuel : Nat} {v : Value} {x : DataW H × List MemPlace} (h : DataW.trod enc Tryz.prog w base spare held fuel 64 [v] = some x) :
    ∃ a len cap l, v = .slice a len cap ∧ AsksAt w.heap.size w a len l := by
  obtain ⟨fds, hu, hone, hC, hsz, g0, g1, g2, g3, g4⟩ := Tryz.one69
  rcases open_elems Tryz.underlying64 hu hone hC (by omega) h with h1 | ⟨b, off, sp, len, cap, h1, hlm, hlc, hsp, hel⟩
  · cases h1
    exact ⟨none, 0, 0, [], rfl, rfl, Nat.zero_le _, by simp, .inl rfl⟩
  · cases h1
    obtain ⟨f0, q0, r0⟩ := field_of g0
    obtain ⟨f1, q1, r1⟩ := field_of g1
    obtain ⟨f2, q2, r2⟩ := field_of g2
    obtain ⟨f3, q3, r3⟩ := field_of g3
    obtain ⟨f4, q4, r4⟩ := field_of g4
    obtain ⟨l, hl, hp⟩ := list_of (fun i (x : AskD) => (∀ (j : Nat) (v : Value), (askL x)[j]? = some v → w.cell? ⟨b, off + i * 5 + j, none⟩ = some v) ∧ x.wf) len (by
      intro i hi
      obtain ⟨v0, y0, n0, c0, t0⟩ := hel i hi 0 f0 q0
      obtain ⟨v1, y1, n1, c1, t1⟩ := hel i hi 1 f1 q1
      obtain ⟨v2, y2, n2, c2, t2⟩ := hel i hi 2 f2 q2
      obtain ⟨v3, y3, n3, c3, t3⟩ := hel i hi 3 f3 q3
      obtain ⟨v4, y4, n4, c4, t4⟩ := hel i hi 4 f4 q4
      rw [r0] at t0; rw [r1] at t1; rw [r2] at t2; rw [r3] at t3; rw [r4] at t4
      obtain ⟨a0, e0, _, w0⟩ := DataW.trod_int Tryz.underlying25 t0
      obtain ⟨a1, e1, _, w1⟩ := DataW.trod_int Tryz.underlying25 t1
      obtain ⟨a2, e2, _, w2⟩ := DataW.trod_int Tryz.underlying3 t2
      obtain ⟨a3, e3, _⟩ := DataW.trod_bool Tryz.underlying4 t3
      obtain ⟨a4, e4, _⟩ := DataW.trod_bool Tryz.underlying4 t4
      cases e0; cases e1; cases e2; cases e3; cases e4
      rw [hsz] at c0 c1 c2 c3 c4
      refine ⟨⟨a0, a1, a2, a3, a4⟩, fun j v hv => ?_, u32_of w0, u32_of w1⟩
      rw [Nat.add_assoc]
      match j, hv with
      | 0, hv => cases hv; exact c0
      | 1, hv => cases hv; exact c1
      | 2, hv => cases hv; exact c2
      | 3, hv => cases hv; exact c3
      | 4, hv => cases hv; exact c4
      | n + 5, hv => simp [askL] at hv)
    refine ⟨some ⟨b, off, sp⟩, len, cap, l, rfl, hl, hlm, fun x hx => ?_, ?_⟩
    · obtain ⟨i, hi⟩ := List.getElem?_of_mem hx
      exact (hp i x hi).2
    · by_cases h0 : len = 0
      · exact .inl h0
      · obtain ⟨rfl, hb⟩ := hsp (by omega)
        exact .inr ⟨b, off, rfl, hb, fun i x hx => (hp i x hx).1⟩
end
end Go.Proofs.YtgebbmfoamkfnaaGreatDoor
