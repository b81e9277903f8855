/- How the arguments of the tables' laws are read: a schema, parts, deeds. · The worlds' laws: deeds as they lie; wild deeds. · How the arguments of the worlds' laws are read: caps, deeds. · How the arguments of CmdLines are read: a schema, commands; the listed table. -/
import Derived.Test.YtnhlnnehpmjeiaaGreatDoorP40
import Derived.ProofKit
import Derived.OpenShut
import Derived.Deep.Slices
import Derived.Deep.Fields
import Derived.Lib.SmallJoins
import Derived.Test.YtnhlnnehpmjeiaaGreatDoorP32
import Derived.Test.YtnhlnnehpmjeiaaGreatDoorRows
import Derived.WalkKit
import Derived.ShutString
import Derived.ChangeOld
import Derived.Below
import Derived.LaidMore
import Derived.Stop.Joined
import Derived.Stop.LaidErr
namespace Go.Proofs.YtnhlnnehpmjeiaaGreatDoor
open Go.ChangeShapes Go.WideShapes Go.RowKit Go.Deep
set_option linter.unusedVariables false
theorem list_of {α : Type} (P : Nat → α → Prop) : ∀ (len : Nat), (∀ i, i < len → ∃ x, P i x) → ∃ l : List α, l.length = len ∧ ∀ (i : Nat) (x : α), l[i]? = some x → P i x
  | 0, _ => ⟨[], rfl, fun i x h => by simp at h⟩
  | n + 1, h => by
    obtain ⟨l, hl, hp⟩ := list_of P n (fun i hi => h i (by omega))
    obtain ⟨x, hx⟩ := h n (by omega)
    refine ⟨l ++ [x], by simp [hl], fun i y hy => ?_⟩
    by_cases hi : i < n
    · rw [List.getElem?_append_left (by omega)] at hy; exact hp i y hy
    · have hlt := (List.getElem?_eq_some_iff.1 hy).1
      simp [hl] at hlt
      obtain rfl : i = n := by omega
      rw [List.getElem?_append_right (by omega), hl] at hy
      simp at hy
      subst hy; exact hx
section
variable {H : Type} {enc : TypeId × Value → H} {P : Program} {w : World} {base : Nat} {spare : Nat → Bool} {held : Bool}
/-- A slice of structs of one-cell fields: each field's cell, and its reading. -/
theorem open_elems {t e : TypeId} {fs : Array Field} {fuel : Nat} {cs : List Value} {x : DataW H × List MemPlace} (ht : P.underlying t = some (.slice e)) (he : P.underlying e = some (.struct fs)) (hone : oneCellFields P fs = true) (hC : P.cellsOf e = fs.size) (h0 : 0 < fs.size)
    (h : DataW.trod enc P w base spare held fuel t cs = some x) :
    cs = [.slice none 0 0] ∨ ∃ (b off : Nat) (sp : Option Nat) (len cap : Nat), cs = [.slice (some ⟨b, off, sp⟩) len cap] ∧ len ≤ maxLen ∧ (len ≤ cap ∧ cap ≤ maxLen) ∧ (0 < len → sp = none ∧ b < w.heap.size) ∧
      ∀ i, i < len → ∀ (j : Nat) (f : Field), fs[j]? = some f → ∃ (v : Value) (y : DataW H × List MemPlace) (n : Nat), w.cell? ⟨b, off + (i * fs.size + j), none⟩ = some v ∧ DataW.trod enc P w base spare held n f.type [v] = some y := by
  rcases open_slice ht h with ⟨h1, _⟩ | ⟨a, len, cap, m, n, D, Pl, hcs, hb, hl, hm, hmm, hx, hi⟩
  · exact .inl h1
  · obtain ⟨b, off, sp⟩ := a
    have hlm : len ≤ m := by rw [hmm]; split <;> omega
    have key : ∀ i, i < len → ∀ (j : Nat) (f : Field), fs[j]? = some f → ∃ (v : Value) (y : DataW H × List MemPlace) (n : Nat), w.cell? ((⟨b, off, sp⟩ : Addr).add (i * fs.size + j)) = some v ∧ DataW.trod enc P w base spare held n f.type [v] = some y := by
      intro i hil j f hf
      obtain ⟨cs', hc, ht'⟩ := hi i (by omega)
      rw [hC] at hc
      obtain ⟨_, hcl, hcell⟩ := World.cells?_some hc
      obtain ⟨xs, n', _, _, _, hxl, hall⟩ := DataW.trod_struct he ht'
      obtain ⟨ho, hc1⟩ := hone_of hone j f hf
      have hj : j < fs.size := (Array.getElem?_eq_some_iff.1 hf).1
      have hlt : j < cs'.length := by omega
      have ha := hall j f hf
      rw [ho, hc1, List.drop_eq_getElem_cons hlt] at ha
      simp only [List.take_succ_cons, List.take_zero] at ha
      have hxs : xs[j]? = some (xs[j]'(by omega)) := List.getElem?_eq_getElem (by omega)
      refine ⟨cs'[j], xs[j]'(by omega), n', ?_, ha.trans hxs⟩
      have := hcell j hj
      rw [List.getElem?_eq_getElem hlt] at this
      rw [← Go.Deep.add_add]
      exact this
    refine .inr ⟨b, off, sp, len, cap, hcs, by omega, ⟨hl, hm⟩, fun hpos => ?_, fun i hil j f hf => ?_⟩
    · obtain ⟨v, y, n', hv, _⟩ := key 0 hpos 0 fs[0] (Array.getElem?_eq_getElem h0)
      have e : (⟨b, off, sp⟩ : Addr).add (0 * fs.size + 0) = ⟨b, off, sp⟩ := by simp [Addr.add]
      rw [e] at hv
      exact ⟨World.cell?_spot hv, World.block_lt_of_cell? w _ hv⟩
    · obtain ⟨v, y, n', hv, ht'⟩ := key i hil j f hf
      refine ⟨v, y, n', ?_, ht'⟩
      obtain ⟨v0, y0, n0, hv0, _⟩ := key 0 (by omega) 0 fs[0] (Array.getElem?_eq_getElem h0)
      have e : (⟨b, off, sp⟩ : Addr).add (0 * fs.size + 0) = ⟨b, off, sp⟩ := by simp [Addr.add]
      rw [e] at hv0
      have hsp : sp = none := World.cell?_spot hv0
      subst hsp
      have hadd : (⟨b, off, none⟩ : Addr).add (i * fs.size + j) = ⟨b, off + (i * fs.size + j), none⟩ := by unfold Addr.add; split <;> simp_all
      rw [← hadd]; exact hv
end
section
variable {H : Type} {enc : TypeId × Value → H} {w : World} {base : Nat} {spare : Nat → Bool} {held : Bool}
theorem Tryz.one143 : ∃ fs, Tryz.prog.underlying 143 = some (.struct fs) ∧ oneCellFields Tryz.prog fs = true ∧ Tryz.prog.cellsOf 143 = fs.size ∧ fs.size = 3 ∧ (fs[0]?.map (·.type)) = some 9 ∧ (fs[1]?.map (·.type)) = some 141 ∧ (fs[2]?.map (·.type)) = some 3 :=
  ⟨_, Tryz.underlying143, by kernel_rfl, by kernel_rfl, rfl, rfl, rfl, rfl⟩
theorem Tryz.one51 : ∃ fs, Tryz.prog.underlying 51 = some (.struct fs) ∧ oneCellFields Tryz.prog fs = true ∧ Tryz.prog.cellsOf 51 = fs.size ∧ fs.size = 3 ∧ (fs[0]?.map (·.type)) = some 3 ∧ (fs[1]?.map (·.type)) = some 9 ∧ (fs[2]?.map (·.type)) = some 49 :=
  ⟨_, Tryz.underlying51, by kernel_rfl, by kernel_rfl, rfl, rfl, rfl, rfl⟩
theorem Tryz.one96 : ∃ fs, Tryz.prog.underlying 96 = some (.struct fs) ∧ oneCellFields Tryz.prog fs = true ∧ Tryz.prog.cellsOf 96 = fs.size ∧ fs.size = 3 ∧ (fs[0]?.map (·.type)) = some 4 ∧ (fs[1]?.map (·.type)) = some 30 ∧ (fs[2]?.map (·.type)) = some 30 :=
  ⟨_, Tryz.underlying96, by kernel_rfl, by kernel_rfl, rfl, rfl, rfl, rfl⟩
theorem Tryz.one73 : ∃ fs, Tryz.prog.underlying 73 = some (.struct fs) ∧ oneCellFields Tryz.prog fs = true ∧ Tryz.prog.cellsOf 73 = fs.size ∧ fs.size = 2 ∧ (fs[0]?.map (·.type)) = some 3 ∧ (fs[1]?.map (·.type)) = some 71 :=
  ⟨_, Tryz.underlying73, by kernel_rfl, by kernel_rfl, rfl, rfl, rfl⟩
theorem field_of {fs : Array Field} {j : Nat} {t : TypeId} (h : (fs[j]?.map (·.type)) = some t) : ∃ f, fs[j]? = some f ∧ f.type = t := by
  cases hf : fs[j]? with
  | none => rw [hf] at h; cases h
  | some f => rw [hf] at h; exact ⟨f, rfl, Option.some.inj h⟩
theorem open_fields {fuel : Nat} {v : Value} {x : DataW H × List MemPlace} (h : DataW.trod enc Tryz.prog w base spare held fuel 49 [v] = some x) :
    ∃ a len cap fs, v = .slice a len cap ∧ FieldsAt w.heap.size w a len fs ∧ (a = none → len = 0 ∧ cap = 0) ∧ ∀ f ∈ fs, f.name.size ≤ maxLen := by
  obtain ⟨fds, hu, hone, hC, hsz, g0, g1, g2⟩ := Tryz.one143
  rcases open_elems Tryz.underlying49 hu hone hC (by omega) h with h1 | ⟨b, off, sp, len, cap, h1, hlm, hlc, hsp, hel⟩
  · cases h1
    exact ⟨none, 0, 0, [], rfl, ⟨rfl, by unfold maxLen; omega, .inl rfl⟩, fun _ => ⟨rfl, rfl⟩, by simp⟩
  · cases h1
    obtain ⟨f0, q0, r0⟩ := field_of g0
    obtain ⟨f1, q1, r1⟩ := field_of g1
    obtain ⟨f2, q2, r2⟩ := field_of g2
    obtain ⟨l, hl, hp⟩ := list_of (fun i (f : Fld) => w.cell? ⟨b, off + i * 3, none⟩ = some (.string f.name) ∧ w.cell? ⟨b, off + i * 3 + 1, none⟩ = some (.int .i64 f.kind) ∧ w.cell? ⟨b, off + i * 3 + 2, none⟩ = some (.int .i64 f.count) ∧ f.name.size ≤ maxLen) len (by
      intro i hi
      obtain ⟨v0, y0, n0, c0, t0⟩ := hel i hi 0 f0 q0
      obtain ⟨v1, y1, n1, c1, t1⟩ := hel i hi 1 f1 q1
      obtain ⟨v2, y2, n2, c2, t2⟩ := hel i hi 2 f2 q2
      rw [r0] at t0; rw [r1] at t1; rw [r2] at t2
      obtain ⟨s, e0, _, hs⟩ := DataW.trod_string Tryz.underlying9 t0
      obtain ⟨k, e1, _, hk⟩ := DataW.trod_int Tryz.underlying141 t1
      obtain ⟨c, e2, _, hc⟩ := DataW.trod_int Tryz.underlying3 t2
      cases e0; cases e1; cases e2
      rw [hsz] at c0 c1 c2
      exact ⟨⟨s, k, c⟩, c0, c1, c2, hs⟩)
    refine ⟨some ⟨b, off, sp⟩, len, cap, l, rfl, ⟨hl, hlm, ?_⟩, fun hh => by (cases hh), fun f hf => ?_⟩
    · by_cases h0 : len = 0
      · exact .inl h0
      · obtain ⟨rfl, hb⟩ := hsp (by omega)
        exact .inr ⟨b, off, rfl, hb, fun i f hf => ⟨(hp i f hf).1, (hp i f hf).2.1, (hp i f hf).2.2.1⟩⟩
    · obtain ⟨i, hi⟩ := List.getElem?_of_mem hf
      exact (hp i f hi).2.2.2
theorem open_comps {fuel : Nat} {v : Value} {x : DataW H × List MemPlace} (h : DataW.trod enc Tryz.prog w base spare held fuel 41 [v] = some x) :
    ∃ a len cap cs, v = .slice a len cap ∧ CompsAt w.heap.size w a len cs ∧ (a = none → len = 0 ∧ cap = 0) ∧ CompsWf cs := by
  obtain ⟨fds, hu, hone, hC, hsz, g0, g1, g2⟩ := Tryz.one51
  rcases open_elems Tryz.underlying41 hu hone hC (by omega) h with h1 | ⟨b, off, sp, len, cap, h1, hlm, hlc, hsp, hel⟩
  · cases h1
    exact ⟨none, 0, 0, [], rfl, ⟨rfl, by unfold maxLen; omega, .inl rfl⟩, fun _ => ⟨rfl, rfl⟩, by intro c hc; cases hc⟩
  · cases h1
    obtain ⟨f0, q0, r0⟩ := field_of g0
    obtain ⟨f1, q1, r1⟩ := field_of g1
    obtain ⟨f2, q2, r2⟩ := field_of g2
    obtain ⟨l, hl, hp⟩ := list_of (fun i (c : Cmp) => (w.cell? ⟨b, off + i * 3, none⟩ = some (.int .i64 c.id) ∧ w.cell? ⟨b, off + i * 3 + 1, none⟩ = some (.string c.name) ∧
        ∃ fa fl fc, w.cell? ⟨b, off + i * 3 + 2, none⟩ = some (.slice fa fl fc) ∧ FieldsAt w.heap.size w fa fl c.fields ∧ (fa = none → fl = 0 ∧ fc = 0)) ∧ c.name.size ≤ maxLen ∧ ∀ f ∈ c.fields, f.name.size ≤ maxLen) len (by
      intro i hi
      obtain ⟨v0, y0, n0, c0, t0⟩ := hel i hi 0 f0 q0
      obtain ⟨v1, y1, n1, c1, t1⟩ := hel i hi 1 f1 q1
      obtain ⟨v2, y2, n2, c2, t2⟩ := hel i hi 2 f2 q2
      rw [r0] at t0; rw [r1] at t1; rw [r2] at t2
      obtain ⟨k, e0, _, hk⟩ := DataW.trod_int Tryz.underlying3 t0
      obtain ⟨s, e1, _, hs⟩ := DataW.trod_string Tryz.underlying9 t1
      obtain ⟨fa, fl, fc, fs, e2, hF, hn, hfn⟩ := open_fields t2
      cases e0; cases e1; subst e2
      rw [hsz] at c0 c1 c2
      exact ⟨⟨k, s, fs⟩, ⟨c0, c1, fa, fl, fc, c2, hF, hn⟩, hs, hfn⟩)
    refine ⟨some ⟨b, off, sp⟩, len, cap, l, rfl, ⟨hl, hlm, ?_⟩, fun hh => by (cases hh), fun c hc => ?_⟩
    · by_cases h0 : len = 0
      · exact .inl h0
      · obtain ⟨rfl, hb⟩ := hsp (by omega)
        exact .inr ⟨b, off, rfl, hb, fun i c hc => (hp i c hc).1⟩
    · obtain ⟨i, hi⟩ := List.getElem?_of_mem hc
      exact (hp i c hi).2
theorem u64_of {n : Int} (h : (Lit.int .u64 n).wf = true) : 0 ≤ n ∧ n ≤ 18446744073709551615 := by
  simpa [Lit.wf, IntKind.min, IntKind.max, IntKind.signed, IntKind.bits] using h
theorem open_ints16 {fuel : Nat} {v : Value} {x : DataW H × List MemPlace} (h : DataW.trod enc Tryz.prog w base spare held fuel 71 [v] = some x) :
    ∃ a len cap xs, v = .slice a len cap ∧ IntsAt w.heap.size w a len cap xs := by
  obtain ⟨fds, hu, hone, hC, hsz, g0, g1, g2⟩ := Tryz.one96
  rcases open_elems Tryz.underlying71 hu hone hC (by omega) h with h1 | ⟨b, off, sp, len, cap, h1, hlm, hlc, hsp, hel⟩
  · cases h1
    exact ⟨none, 0, 0, [], rfl, rfl, Nat.le_refl _, by unfold maxLen; omega, by simp, .inl rfl⟩
  · cases h1
    obtain ⟨f0, q0, r0⟩ := field_of g0
    obtain ⟨f1, q1, r1⟩ := field_of g1
    obtain ⟨f2, q2, r2⟩ := field_of g2
    obtain ⟨l, hl, hp⟩ := list_of (fun i (y : WI) => (w.cell? ⟨b, off + i * 3, none⟩ = some (.bool y.neg) ∧ w.cell? ⟨b, off + i * 3 + 1, none⟩ = some (.int .u64 y.hi) ∧ w.cell? ⟨b, off + i * 3 + 2, none⟩ = some (.int .u64 y.lo)) ∧ y.wf) len (by
      intro i hi
      obtain ⟨v0, y0, n0, c0, t0⟩ := hel i hi 0 f0 q0
      obtain ⟨v1, y1, n1, c1, t1⟩ := hel i hi 1 f1 q1
      obtain ⟨v2, y2, n2, c2, t2⟩ := hel i hi 2 f2 q2
      rw [r0] at t0; rw [r1] at t1; rw [r2] at t2
      obtain ⟨a0, e0, _⟩ := DataW.trod_bool Tryz.underlying4 t0
      obtain ⟨a1, e1, _, w1⟩ := DataW.trod_int Tryz.underlying30 t1
      obtain ⟨a2, e2, _, w2⟩ := DataW.trod_int Tryz.underlying30 t2
      cases e0; cases e1; cases e2
      rw [hsz] at c0 c1 c2
      exact ⟨⟨a0, a1, a2⟩, ⟨c0, c1, c2⟩, u64_of w1, u64_of w2⟩)
    refine ⟨some ⟨b, off, sp⟩, len, cap, l, rfl, hl, hlc.1, hlc.2, fun y hy => ?_, ?_⟩
    · obtain ⟨i, hi⟩ := List.getElem?_of_mem hy
      exact (hp i y hi).2
    · by_cases h0 : len = 0
      · exact .inl h0
      · obtain ⟨rfl, hb⟩ := hsp (by omega)
        exact .inr ⟨b, off, rfl, hb, fun i y hy => (hp i y hy).1⟩
theorem open_parts {fuel : Nat} {v : Value} {x : DataW H × List MemPlace} (h : DataW.trod enc Tryz.prog w base spare held fuel 32 [v] = some x) :
    ∃ a len cap ps, v = .slice a len cap ∧ PartsAt w.heap.size w a len cap ps := by
  obtain ⟨fds, hu, hone, hC, hsz, g0, g1⟩ := Tryz.one73
  rcases open_elems Tryz.underlying32 hu hone hC (by omega) h with h1 | ⟨b, off, sp, len, cap, h1, hlm, hlc, hsp, hel⟩
  · cases h1
    exact ⟨none, 0, 0, [], rfl, rfl, Nat.le_refl _, by unfold maxLen; omega, by simp, .inl rfl⟩
  · cases h1
    obtain ⟨f0, q0, r0⟩ := field_of g0
    obtain ⟨f1, q1, r1⟩ := field_of g1
    obtain ⟨l, hl, hp⟩ := list_of (fun i (p : PW) => (w.cell? ⟨b, off + i * 2, none⟩ = some (.int .i64 p.comp) ∧ w.cell? ⟨b, off + i * 2 + 1, none⟩ = some (.slice p.va p.vl p.vc)) ∧ IntsAt w.heap.size w p.va p.vl p.vc p.val) len (by
      intro i hi
      obtain ⟨v0, y0, n0, c0, t0⟩ := hel i hi 0 f0 q0
      obtain ⟨v1, y1, n1, c1, t1⟩ := hel i hi 1 f1 q1
      rw [r0] at t0; rw [r1] at t1
      obtain ⟨a0, e0, _, _⟩ := DataW.trod_int Tryz.underlying3 t0
      obtain ⟨va, vl, vc, xs, e1, hv⟩ := open_ints16 t1
      cases e0; subst e1
      rw [hsz] at c0 c1
      exact ⟨⟨a0, va, vl, vc, xs⟩, ⟨c0, c1⟩, hv⟩)
    refine ⟨some ⟨b, off, sp⟩, len, cap, l, rfl, hl, hlc.1, hlc.2, fun y hy => ?_, ?_⟩
    · obtain ⟨i, hi⟩ := List.getElem?_of_mem hy
      exact (hp i y hi).2
    · by_cases h0 : len = 0
      · exact .inl h0
      · obtain ⟨rfl, hb⟩ := hsp (by omega)
        exact .inr ⟨b, off, rfl, hb, fun i y hy => (hp i y hy).1⟩
end
end Go.Proofs.YtnhlnnehpmjeiaaGreatDoor
namespace Go.Proofs.YtnhlnnehpmjeiaaGreatDoor
open Go.RowKit
set_option linter.unusedVariables false
/-- A deed of the law. -/
structure WA where
  kind : Int
  i : Int
  e : Int
  comp : Int
  pa : Option Addr
  pl : Nat
  pc : Nat
  ps : List PW
/-- A slice of deeds that lies below block B. -/
def WActsAt (B : Nat) (w : World) (a : Option Addr) (len : Nat) (l : List WA) : Prop :=
  l.length = len ∧ len ≤ maxLen ∧ (∀ x ∈ l, PartsAt B w x.pa x.pl x.pc x.ps ∧ 0 ≤ x.e ∧ x.e < 18446744073709551616) ∧ (len = 0 ∨ ∃ b off, a = some ⟨b, off, none⟩ ∧ b < B ∧ ∀ (i : Nat) (x : WA), l[i]? = some x →
    w.cell? ⟨b, off + i * 5, none⟩ = some (.int .i64 x.kind) ∧ w.cell? ⟨b, off + i * 5 + 1, none⟩ = some (.int .i64 x.i) ∧ w.cell? ⟨b, off + i * 5 + 2, none⟩ = some (.int .u64 x.e) ∧ w.cell? ⟨b, off + i * 5 + 3, none⟩ = some (.int .i64 x.comp) ∧ w.cell? ⟨b, off + i * 5 + 4, none⟩ = some (.slice x.pa x.pl x.pc))
theorem WActsAt.below {B : Nat} {w w' : World} {a : Option Addr} {len : Nat} {l : List WA} (h : WActsAt B w a len l) (hb : Below B w w') : WActsAt B w' a len l := by
  obtain ⟨h1, h2, h4, h3⟩ := h
  refine ⟨h1, h2, fun x hx => ⟨(h4 x hx).1.below hb, (h4 x hx).2⟩, h3.imp id ?_⟩
  rintro ⟨b, off, ha, hB, hc⟩
  refine ⟨b, off, ha, hB, fun i x hx => ?_⟩
  obtain ⟨c0, c1, c2, c3, c4⟩ := hc i x hx
  exact ⟨(hb.cell (p := ⟨b, _, none⟩) hB).trans c0, (hb.cell (p := ⟨b, _, none⟩) hB).trans c1, (hb.cell (p := ⟨b, _, none⟩) hB).trans c2, (hb.cell (p := ⟨b, _, none⟩) hB).trans c3, (hb.cell (p := ⟨b, _, none⟩) hB).trans c4⟩
theorem WActsAt.mono {B C : Nat} {w : World} {a : Option Addr} {len : Nat} {l : List WA} (h : WActsAt B w a len l) (hb : B ≤ C) : WActsAt C w a len l := by
  obtain ⟨h1, h2, h4, h3⟩ := h
  refine ⟨h1, h2, fun x hx => ⟨(h4 x hx).1.mono hb, (h4 x hx).2⟩, h3.imp id ?_⟩
  rintro ⟨b, off, ha, hB, hc⟩
  exact ⟨b, off, ha, Nat.lt_of_lt_of_le hB hb, hc⟩
theorem WActsAt.get {B : Nat} {w : World} {a : Option Addr} {len : Nat} {l : List WA} (h : WActsAt B w a len l) {k : Nat} (hk : k < len) :
    ∃ b off x, a = some ⟨b, off, none⟩ ∧ b < B ∧ l[k]? = some x ∧ PartsAt B w x.pa x.pl x.pc x.ps ∧ w.cell? ⟨b, off + k * 5, none⟩ = some (.int .i64 x.kind) ∧ w.cell? ⟨b, off + k * 5 + 1, none⟩ = some (.int .i64 x.i) ∧ w.cell? ⟨b, off + k * 5 + 2, none⟩ = some (.int .u64 x.e) ∧ w.cell? ⟨b, off + k * 5 + 3, none⟩ = some (.int .i64 x.comp) ∧ w.cell? ⟨b, off + k * 5 + 4, none⟩ = some (.slice x.pa x.pl x.pc) := by
  obtain ⟨h1, h2, h4, h3⟩ := h
  rcases h3 with h3 | ⟨b, off, ha, hB, hc⟩
  · omega
  · have hl : k < l.length := by omega
    obtain ⟨c0, c1, c2, c3, c4⟩ := hc k _ (List.getElem?_eq_getElem hl)
    exact ⟨b, off, l[k], ha, hB, List.getElem?_eq_getElem hl, (h4 _ (List.getElem_mem hl)).1, c0, c1, c2, c3, c4⟩
end Go.Proofs.YtnhlnnehpmjeiaaGreatDoor
namespace Go.Proofs.YtnhlnnehpmjeiaaGreatDoor
open Go.ChangeShapes Go.WideShapes Go.RowKit Go.Deep
set_option linter.unusedVariables false
section
variable {H : Type} {enc : TypeId × Value → H} {w : World} {base : Nat} {spare : Nat → Bool} {held : Bool}
/-- A struct of one-cell fields by value: each field's reading. -/
theorem open_struct {P : Program} {t : TypeId} {fs : Array Field} {r : Reach} {b0 : Nat} {v : Value} {d : DataW H} {p : List MemPlace} (hs : P.underlying t = some (.struct fs)) (hone : oneCellFields P fs = true) (hC : P.cellsOf t = fs.size) (hv : Value.okWide P w r b0 t v) (h : DataW.Trod enc P w base spare held t v d p) :
    ∃ cs : Array Value, v = .agg cs ∧ cs.size = fs.size ∧ ∀ (j : Nat) (f : Field), fs[j]? = some f → ∃ (u : Value) (y : DataW H × List MemPlace) (n : Nat), cs[j]? = some u ∧ DataW.trod enc P w base spare held n f.type [u] = some y := by
  obtain ⟨cs, rfl, hsz⟩ := okWide_struct hs hv
  obtain ⟨fuel, hf⟩ := h
  obtain ⟨xs, n, _, _, _, hlen, hg⟩ := DataW.trod_struct hs hf
  refine ⟨cs, rfl, hsz.trans hC, fun j f hj => ?_⟩
  obtain ⟨ho, hk⟩ := hone_of hone j f hj
  have hjl : j < fs.size := (Array.getElem?_eq_some_iff.1 hj).1
  have hjc : j < cs.size := by rw [hsz, hC]; exact hjl
  have h1 := hg j f hj
  rw [ho, hk] at h1
  have h2 : (((Value.agg cs).cells).toList.drop j).take 1 = [cs[j]] := by
    show ((cs.toList).drop j).take 1 = _
    rw [List.drop_eq_getElem_cons (by simpa using hjc)]
    simp
  rw [h2] at h1
  have hx : xs[j]? = some (xs[j]'(by omega)) := List.getElem?_eq_getElem (by omega)
  exact ⟨cs[j], xs[j]'(by omega), n, Array.getElem?_eq_getElem hjc, h1.trans hx⟩
end
end Go.Proofs.YtnhlnnehpmjeiaaGreatDoor
namespace Go.Proofs.YtnhlnnehpmjeiaaGreatDoor
open Go.ChangeShapes Go.WideShapes Go.ChangeAt Go.RowKit Go.Joins Go.Deep
set_option linter.unusedVariables false
theorem gPow : Tryz.prog.globalNamed "internal/strconv.uint64pow10" = some 0 := by kernel_rfl
theorem gPowT : (Tryz.prog.globals[0]?).map (·.type) = some 187 := by kernel_rfl
theorem Tryz.co30 : Tryz.prog.cellsOf 30 = 1 := by kernel_rfl
theorem Tryz.co187 : Tryz.prog.cellsOf 187 = 20 := by kernel_rfl
/-- What the condition gives the walks: the table. -/
theorem tab_of_laid {W : World} (h : laidMetH Tryz.prog Rows.cmdLinesRow.laid W) : Tab W := by
  rw [MakeChecks.laidMetH_plain _ _ _ (by kernel_rfl)] at h
  exact Lib.tabIs_of_head (rest := []) gPow gPowT Tryz.underlying187 Tryz.underlying30 Tryz.co30 Tryz.co187 (laidMet.tail (laidMet.tail h))
theorem door_metL (os : Os) (args : Array Value) : laidMetH Tryz.prog Rows.cmdLinesRow.laid ((World.doorLaid Tryz.prog 400 os).forCall (fun _ _ => 0) ⟨#[], args, []⟩).memory :=
  laidMetH_of_parts3 (fuel := 8) (laidMet_of_run' 8 (by kernel_rfl) (by kernel_rfl)) (by kernel_rfl) (by kernel_rfl)
section
variable {H : Type} {enc : TypeId × Value → H} {w : World} {base : Nat} {spare : Nat → Bool} {held : Bool}
theorem Tryz.one34 : ∃ fs, Tryz.prog.underlying 34 = some (.struct fs) ∧ oneCellFields Tryz.prog fs = true ∧ Tryz.prog.cellsOf 34 = fs.size ∧ fs.size = 4 ∧ (fs[0]?.map (·.type)) = some 3 ∧ (fs[1]?.map (·.type)) = some 31 ∧ (fs[2]?.map (·.type)) = some 3 ∧ (fs[3]?.map (·.type)) = some 32 :=
  ⟨_, Tryz.underlying34, by kernel_rfl, by kernel_rfl, rfl, rfl, rfl, rfl, rfl⟩
set_option maxRecDepth 100000 in
theorem open_cmd {r : Reach} {b0 : Nat} {v : Value} {d : DataW H} {p : List MemPlace} (hv : Value.okWide Tryz.prog w r b0 34 v) (h : DataW.Trod enc Tryz.prog w base spare held 34 v d p) :
    ∃ k e c pa pl pc ps, v = .agg #[.int .i64 k, .int .u64 e, .int .i64 c, .slice pa pl pc] ∧ (0 ≤ e ∧ e < 18446744073709551616) ∧ PartsAt w.heap.size w pa pl pc ps := by
  obtain ⟨fds, hu, hone, hC, hsz, g0, g1, g2, g3⟩ := Tryz.one34
  obtain ⟨cs, rfl, hcs, hf⟩ := open_struct hu hone hC hv h
  obtain ⟨f0, q0, r0⟩ := field_of g0
  obtain ⟨f1, q1, r1⟩ := field_of g1
  obtain ⟨f2, q2, r2⟩ := field_of g2
  obtain ⟨f3, q3, r3⟩ := field_of g3
  obtain ⟨u0, y0, n0, c0, t0⟩ := hf 0 f0 q0
  obtain ⟨u1, y1, n1, c1, t1⟩ := hf 1 f1 q1
  obtain ⟨u2, y2, n2, c2, t2⟩ := hf 2 f2 q2
  obtain ⟨u3, y3, n3, c3, t3⟩ := hf 3 f3 q3
  rw [r0] at t0; rw [r1] at t1; rw [r2] at t2; rw [r3] at t3
  obtain ⟨k0, e0, _, _⟩ := DataW.trod_int Tryz.underlying3 t0
  obtain ⟨k1, e1, _, w1⟩ := DataW.trod_int Tryz.underlying31 t1
  obtain ⟨k2, e2, _, _⟩ := DataW.trod_int Tryz.underlying3 t2
  obtain ⟨pa, pl, pc, ps, e3, hv'⟩ := open_parts t3
  cases e0; cases e1; cases e2; subst e3
  have hb := u64_of w1
  refine ⟨k0, k1, k2, pa, pl, pc, ps, ?_, ⟨hb.1, by omega⟩, hv'⟩
  obtain ⟨l⟩ := cs
  rw [hsz] at hcs
  match l, hcs with
  | [x0, x1, x2, x3], _ =>
    simp at c0 c1 c2 c3
    subst c0; subst c1; subst c2; subst c3
    rfl
end
end Go.Proofs.YtnhlnnehpmjeiaaGreatDoor
