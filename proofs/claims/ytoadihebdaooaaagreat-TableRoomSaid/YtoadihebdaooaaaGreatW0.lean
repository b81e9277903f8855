/- How the arguments of the tables' laws are read: a schema, parts, deeds. -/
import Derived.Test.YtoadihebdaooaaaGreatV9
import Derived.ProofKit
import Derived.OpenShut
import Derived.Deep.Slices
import Derived.Deep.Fields
import Derived.Lib.SmallJoins
namespace Go.Proofs.YtoadihebdaooaaaGreat
open Go.ChangeShapes Go.WideShapes Go.RowKit Go.Deep
set_option linter.unusedVariables false
theorem list_of {α : Type} (P : Nat → α → Prop) : ∀ (len : Nat), (∀ i, i < len → ∃ x, P i x) → ∃ l : List α, l.length = len ∧ ∀ (i : Nat) (x : α), l[i]? = some x → P i x
  | 0, _ => ⟨[], rfl, fun i x h => by simp at h⟩
  | n + 1, h => by
    obtain ⟨l, hl, hp⟩ := list_of P n (fun i hi => h i (by omega))
    obtain ⟨x, hx⟩ := h n (by omega)
    refine ⟨l ++ [x], by simp [hl], fun i y hy => ?_⟩
    by_cases hi : i < n
    · rw [List.getElem?_append_left (by omega)] at hy; exact hp i y hy
    · have hlt := (List.getElem?_eq_some_iff.1 hy).1
      simp [hl] at hlt
      obtain rfl : i = n := by omega
      rw [List.getElem?_append_right (by omega), hl] at hy
      simp at hy
      subst hy; exact hx
section
variable {H : Type} {enc : TypeId × Value → H} {P : Program} {w : World} {base : Nat} {spare : Nat → Bool} {held : Bool}
/-- A slice of structs of one-cell fields: each field's cell, and its reading. -/
theorem open_elems {t e : TypeId} {fs : Array Field} {fuel : Nat} {cs : List Value} {x : DataW H × List MemPlace} (ht : P.underlying t = some (.slice e)) (he : P.underlying e = some (.struct fs)) (hone : oneCellFields P fs = true) (hC : P.cellsOf e = fs.size) (h0 : 0 < fs.size)
    (h : DataW.trod enc P w base spare held fuel t cs = some x) :
    cs = [.slice none 0 0] ∨ ∃ (b off : Nat) (sp : Option Nat) (len cap : Nat), cs = [.slice (some ⟨b, off, sp⟩) len cap] ∧ len ≤ maxLen ∧ (len ≤ cap ∧ cap ≤ maxLen) ∧ (0 < len → sp = none ∧ b < w.heap.size) ∧
      ∀ i, i < len → ∀ (j : Nat) (f : Field), fs[j]? = some f → ∃ (v : Value) (y : DataW H × List MemPlace) (n : Nat), w.cell? ⟨b, off + (i * fs.size + j), none⟩ = some v ∧ DataW.trod enc P w base spare held n f.type [v] = some y := by
  rcases open_slice ht h with ⟨h1, _⟩ | ⟨a, len, cap, m, n, D, Pl, hcs, hb, hl, hm, hmm, hx, hi⟩
  · exact .inl h1
  · obtain ⟨b, off, sp⟩ := a
    have hlm : len ≤ m := by rw [hmm]; split <;> omega
    have key : ∀ i, i < len → ∀ (j : Nat) (f : Field), fs[j]? = some f → ∃ (v : Value) (y : DataW H × List MemPlace) (n : Nat), w.cell? ((⟨b, off, sp⟩ : Addr).add (i * fs.size + j)) = some v ∧ DataW.trod enc P w base spare held n f.type [v] = some y := by
      intro i hil j f hf
      obtain ⟨cs', hc, ht'⟩ := hi i (by omega)
      rw [hC] at hc
      obtain ⟨_, hcl, hcell⟩ := World.cells?_some hc
      obtain ⟨xs, n', _, _, _, hxl, hall⟩ := DataW.trod_struct he ht'
      obtain ⟨ho, hc1⟩ := hone_of hone j f hf
      have hj : j < fs.size := (Array.getElem?_eq_some_iff.1 hf).1
      have hlt : j < cs'.length := by omega
      have ha := hall j f hf
      rw [ho, hc1, List.drop_eq_getElem_cons hlt] at ha
      simp only [List.take_succ_cons, List.take_zero] at ha
      have hxs : xs[j]? = some (xs[j]'(by omega)) := List.getElem?_eq_getElem (by omega)
      refine ⟨cs'[j], xs[j]'(by omega), n', ?_, ha.trans hxs⟩
      have := hcell j hj
      rw [List.getElem?_eq_getElem hlt] at this
      rw [← Go.Deep.add_add]
      exact this
    refine .inr ⟨b, off, sp, len, cap, hcs, by omega, ⟨hl, hm⟩, fun hpos => ?_, fun i hil j f hf => ?_⟩
    · obtain ⟨v, y, n', hv, _⟩ := key 0 hpos 0 fs[0] (Array.getElem?_eq_getElem h0)
      have e : (⟨b, off, sp⟩ : Addr).add (0 * fs.size + 0) = ⟨b, off, sp⟩ := by simp [Addr.add]
      rw [e] at hv
      exact ⟨World.cell?_spot hv, World.block_lt_of_cell? w _ hv⟩
    · obtain ⟨v, y, n', hv, ht'⟩ := key i hil j f hf
      refine ⟨v, y, n', ?_, ht'⟩
      obtain ⟨v0, y0, n0, hv0, _⟩ := key 0 (by omega) 0 fs[0] (Array.getElem?_eq_getElem h0)
      have e : (⟨b, off, sp⟩ : Addr).add (0 * fs.size + 0) = ⟨b, off, sp⟩ := by simp [Addr.add]
      rw [e] at hv0
      have hsp : sp = none := World.cell?_spot hv0
      subst hsp
      have hadd : (⟨b, off, none⟩ : Addr).add (i * fs.size + j) = ⟨b, off + (i * fs.size + j), none⟩ := by unfold Addr.add; split <;> simp_all
      rw [← hadd]; exact hv
end

section
variable {H : Type} {enc : TypeId × Value → H} {w : World} {base : Nat} {spare : Nat → Bool} {held : Bool}
theorem Tryz.one123 : ∃ fs, Tryz.prog.underlying 123 = some (.struct fs) ∧ oneCellFields Tryz.prog fs = true ∧ Tryz.prog.cellsOf 123 = fs.size ∧ fs.size = 3 ∧ (fs[0]?.map (·.type)) = some 9 ∧ (fs[1]?.map (·.type)) = some 121 ∧ (fs[2]?.map (·.type)) = some 3 :=
  ⟨_, Tryz.underlying123, by kernel_rfl, by kernel_rfl, rfl, rfl, rfl, rfl⟩
theorem Tryz.one112 : ∃ fs, Tryz.prog.underlying 112 = some (.struct fs) ∧ oneCellFields Tryz.prog fs = true ∧ Tryz.prog.cellsOf 112 = fs.size ∧ fs.size = 3 ∧ (fs[0]?.map (·.type)) = some 3 ∧ (fs[1]?.map (·.type)) = some 9 ∧ (fs[2]?.map (·.type)) = some 110 :=
  ⟨_, Tryz.underlying112, by kernel_rfl, by kernel_rfl, rfl, rfl, rfl, rfl⟩
theorem Tryz.one148 : ∃ fs, Tryz.prog.underlying 148 = some (.struct fs) ∧ oneCellFields Tryz.prog fs = true ∧ Tryz.prog.cellsOf 148 = fs.size ∧ fs.size = 3 ∧ (fs[0]?.map (·.type)) = some 4 ∧ (fs[1]?.map (·.type)) = some 60 ∧ (fs[2]?.map (·.type)) = some 60 :=
  ⟨_, Tryz.underlying148, by kernel_rfl, by kernel_rfl, rfl, rfl, rfl, rfl⟩
theorem Tryz.one85 : ∃ fs, Tryz.prog.underlying 85 = some (.struct fs) ∧ oneCellFields Tryz.prog fs = true ∧ Tryz.prog.cellsOf 85 = fs.size ∧ fs.size = 2 ∧ (fs[0]?.map (·.type)) = some 3 ∧ (fs[1]?.map (·.type)) = some 83 :=
  ⟨_, Tryz.underlying85, by kernel_rfl, by kernel_rfl, rfl, rfl, rfl⟩
theorem Tryz.one72 : ∃ fs, Tryz.prog.underlying 72 = some (.struct fs) ∧ oneCellFields Tryz.prog fs = true ∧ Tryz.prog.cellsOf 72 = fs.size ∧ fs.size = 4 ∧ (fs[0]?.map (·.type)) = some 3 ∧ (fs[1]?.map (·.type)) = some 3 ∧ (fs[2]?.map (·.type)) = some 60 ∧ (fs[3]?.map (·.type)) = some 70 :=
  ⟨_, Tryz.underlying72, by kernel_rfl, by kernel_rfl, rfl, rfl, rfl, rfl, rfl⟩
theorem field_of {fs : Array Field} {j : Nat} {t : TypeId} (h : (fs[j]?.map (·.type)) = some t) : ∃ f, fs[j]? = some f ∧ f.type = t := by
  cases hf : fs[j]? with
  | none => rw [hf] at h; cases h
  | some f => rw [hf] at h; exact ⟨f, rfl, Option.some.inj h⟩

theorem open_fields {fuel : Nat} {v : Value} {x : DataW H × List MemPlace} (h : DataW.trod enc Tryz.prog w base spare held fuel 110 [v] = some x) :
    ∃ a len cap fs, v = .slice a len cap ∧ FieldsAt w.heap.size w a len fs ∧ (a = none → len = 0 ∧ cap = 0) ∧ ∀ f ∈ fs, f.name.size ≤ maxLen := by
  obtain ⟨fds, hu, hone, hC, hsz, g0, g1, g2⟩ := Tryz.one123
  rcases open_elems Tryz.underlying110 hu hone hC (by omega) h with h1 | ⟨b, off, sp, len, cap, h1, hlm, hlc, hsp, hel⟩
  · cases h1
    exact ⟨none, 0, 0, [], rfl, ⟨rfl, by unfold maxLen; omega, .inl rfl⟩, fun _ => ⟨rfl, rfl⟩, by simp⟩
  · cases h1
    obtain ⟨f0, q0, r0⟩ := field_of g0
    obtain ⟨f1, q1, r1⟩ := field_of g1
    obtain ⟨f2, q2, r2⟩ := field_of g2
    obtain ⟨l, hl, hp⟩ := list_of (fun i (f : Fld) => w.cell? ⟨b, off + i * 3, none⟩ = some (.string f.name) ∧ w.cell? ⟨b, off + i * 3 + 1, none⟩ = some (.int .i64 f.kind) ∧ w.cell? ⟨b, off + i * 3 + 2, none⟩ = some (.int .i64 f.count) ∧ f.name.size ≤ maxLen) len (by
      intro i hi
      obtain ⟨v0, y0, n0, c0, t0⟩ := hel i hi 0 f0 q0
      obtain ⟨v1, y1, n1, c1, t1⟩ := hel i hi 1 f1 q1
      obtain ⟨v2, y2, n2, c2, t2⟩ := hel i hi 2 f2 q2
      rw [r0] at t0; rw [r1] at t1; rw [r2] at t2
      obtain ⟨s, e0, _, hs⟩ := DataW.trod_string Tryz.underlying9 t0
      obtain ⟨k, e1, _, hk⟩ := DataW.trod_int Tryz.underlying121 t1
      obtain ⟨c, e2, _, hc⟩ := DataW.trod_int Tryz.underlying3 t2
      cases e0; cases e1; cases e2
      rw [hsz] at c0 c1 c2
      exact ⟨⟨s, k, c⟩, c0, c1, c2, hs⟩)
    refine ⟨some ⟨b, off, sp⟩, len, cap, l, rfl, ⟨hl, hlm, ?_⟩, fun hh => by (cases hh), fun f hf => ?_⟩
    · by_cases h0 : len = 0
      · exact .inl h0
      · obtain ⟨rfl, hb⟩ := hsp (by omega)
        exact .inr ⟨b, off, rfl, hb, fun i f hf => ⟨(hp i f hf).1, (hp i f hf).2.1, (hp i f hf).2.2.1⟩⟩
    · obtain ⟨i, hi⟩ := List.getElem?_of_mem hf
      exact (hp i f hi).2.2.2

theorem open_comps {fuel : Nat} {v : Value} {x : DataW H × List MemPlace} (h : DataW.trod enc Tryz.prog w base spare held fuel 22 [v] = some x) :
    ∃ a len cap cs, v = .slice a len cap ∧ CompsAt w.heap.size w a len cs ∧ (a = none → len = 0 ∧ cap = 0) ∧ CompsWf cs := by
  obtain ⟨fds, hu, hone, hC, hsz, g0, g1, g2⟩ := Tryz.one112
  rcases open_elems Tryz.underlying22 hu hone hC (by omega) h with h1 | ⟨b, off, sp, len, cap, h1, hlm, hlc, hsp, hel⟩
  · cases h1
    exact ⟨none, 0, 0, [], rfl, ⟨rfl, by unfold maxLen; omega, .inl rfl⟩, fun _ => ⟨rfl, rfl⟩, by intro c hc; cases hc⟩
  · cases h1
    obtain ⟨f0, q0, r0⟩ := field_of g0
    obtain ⟨f1, q1, r1⟩ := field_of g1
    obtain ⟨f2, q2, r2⟩ := field_of g2
    obtain ⟨l, hl, hp⟩ := list_of (fun i (c : Cmp) => (w.cell? ⟨b, off + i * 3, none⟩ = some (.int .i64 c.id) ∧ w.cell? ⟨b, off + i * 3 + 1, none⟩ = some (.string c.name) ∧
        ∃ fa fl fc, w.cell? ⟨b, off + i * 3 + 2, none⟩ = some (.slice fa fl fc) ∧ FieldsAt w.heap.size w fa fl c.fields ∧ (fa = none → fl = 0 ∧ fc = 0)) ∧ c.name.size ≤ maxLen ∧ ∀ f ∈ c.fields, f.name.size ≤ maxLen) len (by
      intro i hi
      obtain ⟨v0, y0, n0, c0, t0⟩ := hel i hi 0 f0 q0
      obtain ⟨v1, y1, n1, c1, t1⟩ := hel i hi 1 f1 q1
      obtain ⟨v2, y2, n2, c2, t2⟩ := hel i hi 2 f2 q2
      rw [r0] at t0; rw [r1] at t1; rw [r2] at t2
      obtain ⟨k, e0, _, hk⟩ := DataW.trod_int Tryz.underlying3 t0
      obtain ⟨s, e1, _, hs⟩ := DataW.trod_string Tryz.underlying9 t1
      obtain ⟨fa, fl, fc, fs, e2, hF, hn, hfn⟩ := open_fields t2
      cases e0; cases e1; subst e2
      rw [hsz] at c0 c1 c2
      exact ⟨⟨k, s, fs⟩, ⟨c0, c1, fa, fl, fc, c2, hF, hn⟩, hs, hfn⟩)
    refine ⟨some ⟨b, off, sp⟩, len, cap, l, rfl, ⟨hl, hlm, ?_⟩, fun hh => by (cases hh), fun c hc => ?_⟩
    · by_cases h0 : len = 0
      · exact .inl h0
      · obtain ⟨rfl, hb⟩ := hsp (by omega)
        exact .inr ⟨b, off, rfl, hb, fun i c hc => (hp i c hc).1⟩
    · obtain ⟨i, hi⟩ := List.getElem?_of_mem hc
      exact (hp i c hi).2

theorem u32_of {n : Int} (h : (Lit.int .u32 n).wf = true) : 0 ≤ n ∧ n ≤ 4294967295 := by
  simpa [Lit.wf, IntKind.min, IntKind.max, IntKind.signed, IntKind.bits] using h
theorem u64_of {n : Int} (h : (Lit.int .u64 n).wf = true) : 0 ≤ n ∧ n ≤ 18446744073709551615 := by
  simpa [Lit.wf, IntKind.min, IntKind.max, IntKind.signed, IntKind.bits] using h
theorem open_ints16 {fuel : Nat} {v : Value} {x : DataW H × List MemPlace} (h : DataW.trod enc Tryz.prog w base spare held fuel 83 [v] = some x) :
    ∃ a len cap xs, v = .slice a len cap ∧ IntsAt w.heap.size w a len cap xs := by
  obtain ⟨fds, hu, hone, hC, hsz, g0, g1, g2⟩ := Tryz.one148
  rcases open_elems Tryz.underlying83 hu hone hC (by omega) h with h1 | ⟨b, off, sp, len, cap, h1, hlm, hlc, hsp, hel⟩
  · cases h1
    exact ⟨none, 0, 0, [], rfl, rfl, Nat.le_refl _, by unfold maxLen; omega, by simp, .inl rfl⟩
  · cases h1
    obtain ⟨f0, q0, r0⟩ := field_of g0
    obtain ⟨f1, q1, r1⟩ := field_of g1
    obtain ⟨f2, q2, r2⟩ := field_of g2
    obtain ⟨l, hl, hp⟩ := list_of (fun i (y : WI) => (w.cell? ⟨b, off + i * 3, none⟩ = some (.bool y.neg) ∧ w.cell? ⟨b, off + i * 3 + 1, none⟩ = some (.int .u64 y.hi) ∧ w.cell? ⟨b, off + i * 3 + 2, none⟩ = some (.int .u64 y.lo)) ∧ y.wf) len (by
      intro i hi
      obtain ⟨v0, y0, n0, c0, t0⟩ := hel i hi 0 f0 q0
      obtain ⟨v1, y1, n1, c1, t1⟩ := hel i hi 1 f1 q1
      obtain ⟨v2, y2, n2, c2, t2⟩ := hel i hi 2 f2 q2
      rw [r0] at t0; rw [r1] at t1; rw [r2] at t2
      obtain ⟨a0, e0, _⟩ := DataW.trod_bool Tryz.underlying4 t0
      obtain ⟨a1, e1, _, w1⟩ := DataW.trod_int Tryz.underlying60 t1
      obtain ⟨a2, e2, _, w2⟩ := DataW.trod_int Tryz.underlying60 t2
      cases e0; cases e1; cases e2
      rw [hsz] at c0 c1 c2
      exact ⟨⟨a0, a1, a2⟩, ⟨c0, c1, c2⟩, u64_of w1, u64_of w2⟩)
    refine ⟨some ⟨b, off, sp⟩, len, cap, l, rfl, hl, hlc.1, hlc.2, fun y hy => ?_, ?_⟩
    · obtain ⟨i, hi⟩ := List.getElem?_of_mem hy
      exact (hp i y hi).2
    · by_cases h0 : len = 0
      · exact .inl h0
      · obtain ⟨rfl, hb⟩ := hsp (by omega)
        exact .inr ⟨b, off, rfl, hb, fun i y hy => (hp i y hy).1⟩
theorem open_parts {fuel : Nat} {v : Value} {x : DataW H × List MemPlace} (h : DataW.trod enc Tryz.prog w base spare held fuel 70 [v] = some x) :
    ∃ a len cap ps, v = .slice a len cap ∧ PartsAt w.heap.size w a len cap ps := by
  obtain ⟨fds, hu, hone, hC, hsz, g0, g1⟩ := Tryz.one85
  rcases open_elems Tryz.underlying70 hu hone hC (by omega) h with h1 | ⟨b, off, sp, len, cap, h1, hlm, hlc, hsp, hel⟩
  · cases h1
    exact ⟨none, 0, 0, [], rfl, rfl, Nat.le_refl _, by unfold maxLen; omega, by simp, .inl rfl⟩
  · cases h1
    obtain ⟨f0, q0, r0⟩ := field_of g0
    obtain ⟨f1, q1, r1⟩ := field_of g1
    obtain ⟨l, hl, hp⟩ := list_of (fun i (p : PW) => (w.cell? ⟨b, off + i * 2, none⟩ = some (.int .i64 p.comp) ∧ w.cell? ⟨b, off + i * 2 + 1, none⟩ = some (.slice p.va p.vl p.vc)) ∧ IntsAt w.heap.size w p.va p.vl p.vc p.val) len (by
      intro i hi
      obtain ⟨v0, y0, n0, c0, t0⟩ := hel i hi 0 f0 q0
      obtain ⟨v1, y1, n1, c1, t1⟩ := hel i hi 1 f1 q1
      rw [r0] at t0; rw [r1] at t1
      obtain ⟨a0, e0, _, _⟩ := DataW.trod_int Tryz.underlying3 t0
      obtain ⟨va, vl, vc, xs, e1, hv⟩ := open_ints16 t1
      cases e0; subst e1
      rw [hsz] at c0 c1
      exact ⟨⟨a0, va, vl, vc, xs⟩, ⟨c0, c1⟩, hv⟩)
    refine ⟨some ⟨b, off, sp⟩, len, cap, l, rfl, hl, hlc.1, hlc.2, fun y hy => ?_, ?_⟩
    · obtain ⟨i, hi⟩ := List.getElem?_of_mem hy
      exact (hp i y hi).2
    · by_cases h0 : len = 0
      · exact .inl h0
      · obtain ⟨rfl, hb⟩ := hsp (by omega)
        exact .inr ⟨b, off, rfl, hb, fun i y hy => (hp i y hy).1⟩
theorem open_tacts {fuel : Nat} {v : Value} {x : DataW H × List MemPlace} (h : DataW.trod enc Tryz.prog w base spare held fuel 67 [v] = some x) :
    ∃ a len cap l, v = .slice a len cap ∧ TActsAt w.heap.size w a len l := by
  obtain ⟨fds, hu, hone, hC, hsz, g0, g1, g2, g3⟩ := Tryz.one72
  rcases open_elems Tryz.underlying67 hu hone hC (by omega) h with h1 | ⟨b, off, sp, len, cap, h1, hlm, hlc, hsp, hel⟩
  · cases h1
    exact ⟨none, 0, 0, [], rfl, rfl, by unfold maxLen; omega, by simp, .inl rfl⟩
  · cases h1
    obtain ⟨f0, q0, r0⟩ := field_of g0
    obtain ⟨f1, q1, r1⟩ := field_of g1
    obtain ⟨f2, q2, r2⟩ := field_of g2
    obtain ⟨f3, q3, r3⟩ := field_of g3
    obtain ⟨l, hl, hp⟩ := list_of (fun i (x : TA) => (w.cell? ⟨b, off + i * 4, none⟩ = some (.int .i64 x.kind) ∧ w.cell? ⟨b, off + i * 4 + 1, none⟩ = some (.int .i64 x.i) ∧ w.cell? ⟨b, off + i * 4 + 2, none⟩ = some (.int .u64 x.e) ∧ w.cell? ⟨b, off + i * 4 + 3, none⟩ = some (.slice x.pa x.pl x.pc)) ∧ PartsAt w.heap.size w x.pa x.pl x.pc x.ps) len (by
      intro i hi
      obtain ⟨v0, y0, n0, c0, t0⟩ := hel i hi 0 f0 q0
      obtain ⟨v1, y1, n1, c1, t1⟩ := hel i hi 1 f1 q1
      obtain ⟨v2, y2, n2, c2, t2⟩ := hel i hi 2 f2 q2
      obtain ⟨v3, y3, n3, c3, t3⟩ := hel i hi 3 f3 q3
      rw [r0] at t0; rw [r1] at t1; rw [r2] at t2; rw [r3] at t3
      obtain ⟨a0, e0, _, _⟩ := DataW.trod_int Tryz.underlying3 t0
      obtain ⟨a1, e1, _, _⟩ := DataW.trod_int Tryz.underlying3 t1
      obtain ⟨a2, e2, _, _⟩ := DataW.trod_int Tryz.underlying60 t2
      obtain ⟨pa, pl, pc, ps, e3, hv⟩ := open_parts t3
      cases e0; cases e1; cases e2; subst e3
      rw [hsz] at c0 c1 c2 c3
      exact ⟨⟨a0, a1, a2, pa, pl, pc, ps⟩, ⟨c0, c1, c2, c3⟩, hv⟩)
    refine ⟨some ⟨b, off, sp⟩, len, cap, l, rfl, hl, hlm, fun x hx => ?_, ?_⟩
    · obtain ⟨i, hi⟩ := List.getElem?_of_mem hx
      exact (hp i x hi).2
    · by_cases h0 : len = 0
      · exact .inl h0
      · obtain ⟨rfl, hb⟩ := hsp (by omega)
        exact .inr ⟨b, off, rfl, hb, fun i x hx => (hp i x hx).1⟩
end
end Go.Proofs.YtoadihebdaooaaaGreat
