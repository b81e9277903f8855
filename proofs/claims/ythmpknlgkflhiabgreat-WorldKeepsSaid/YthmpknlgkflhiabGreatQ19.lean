/- How the arguments of the tables' laws are read: a schema, parts, deeds. · Plain: who stands where: tables of handles, and places. -/
import Derived.Test.YthmpknlgkflhiabGreatQ18
import Derived.ProofKit
import Derived.OpenShut
import Derived.Deep.Slices
import Derived.Deep.Fields
import Derived.Lib.SmallJoins
import Derived.Test.YthmpknlgkflhiabGreatQ3
namespace Go.Proofs.YthmpknlgkflhiabGreat
open Go.ChangeShapes Go.WideShapes Go.RowKit Go.Deep
set_option linter.unusedVariables false
theorem list_of {α : Type} (P : Nat → α → Prop) : ∀ (len : Nat), (∀ i, i < len → ∃ x, P i x) → ∃ l : List α, l.length = len ∧ ∀ (i : Nat) (x : α), l[i]? = some x → P i x
 | 0, _ => ⟨[], rfl, fun i x h => by simp at h⟩
 | n + 1, h => by
  obtain ⟨l, hl, hp⟩ := list_of P n (fun i hi => h i (by omega))
  obtain ⟨x, hx⟩ := h n (by omega)
  refine ⟨l ++ [x], by simp [hl], fun i y hy => ?_⟩
  by_cases hi : i < n
  ·rw [List.getElem?_append_left (by omega)] at hy; exact hp i y hy
  ·have hlt := (List.getElem?_eq_some_iff.1 hy).1
   simp [hl] at hlt
   obtain rfl : i = n := by omega
   rw [List.getElem?_append_right (by omega), hl] at hy
   simp at hy
   subst hy; exact hx
section
variable {H : Type} {enc : TypeId × Value → H} {P : Program} {w : World} {base : Nat} {spare : Nat → Bool} {held : Bool}
theorem open_elems {t e : TypeId} {fs : Array Field} {fuel : Nat} {cs : List Value} {x : DataW H × List MemPlace} (ht : P.underlying t = some (.slice e)) (he : P.underlying e = some (.struct fs)) (hone : oneCellFields P fs = true) (hC : P.cellsOf e = fs.size) (h0 : 0 < fs.size)
  (h : DataW.trod enc P w base spare held fuel t cs = some x) :
  cs = [.slice none 0 0] ∨ ∃ (b off : Nat) (sp : Option Nat) (len cap : Nat), cs = [.slice (some ⟨b, off, sp⟩) len cap] ∧ len ≤ maxLen ∧ (len ≤ cap ∧ cap ≤ maxLen) ∧ (0 < len → sp = none ∧ b < w.heap.size) ∧
   ∀ i, i < len → ∀ (j : Nat) (f : Field), fs[j]? = some f → ∃ (v : Value) (y : DataW H × List MemPlace) (n : Nat), w.cell? ⟨b, off + (i * fs.size + j), none⟩ = some v ∧ DataW.trod enc P w base spare held n f.type [v] = some y := by
 rcases open_slice ht h with ⟨h1, _⟩ | ⟨a, len, cap, m, n, D, Pl, hcs, hb, hl, hm, hmm, hx, hi⟩
 ·exact .inl h1
 ·obtain ⟨b, off, sp⟩ := a
  have hlm : len ≤ m := by rw [hmm]; split <;> omega
  have key : ∀ i, i < len → ∀ (j : Nat) (f : Field), fs[j]? = some f → ∃ (v : Value) (y : DataW H × List MemPlace) (n : Nat), w.cell? ((⟨b, off, sp⟩ : Addr).add (i * fs.size + j)) = some v ∧ DataW.trod enc P w base spare held n f.type [v] = some y := by
   intro i hil j f hf
   obtain ⟨cs', hc, ht'⟩ := hi i (by omega)
   rw [hC] at hc
   obtain ⟨_, hcl, hcell⟩ := World.cells?_some hc
   obtain ⟨xs, n', _, _, _, hxl, hall⟩ := DataW.trod_struct he ht'
   obtain ⟨ho, hc1⟩ := hone_of hone j f hf
   have hj : j < fs.size := (Array.getElem?_eq_some_iff.1 hf).1
   have hlt : j < cs'.length := by omega
   have ha := hall j f hf
   rw [ho, hc1, List.drop_eq_getElem_cons hlt] at ha
   simp only [List.take_succ_cons, List.take_zero] at ha
   have hxs : xs[j]? = some (xs[j]'(by omega)) := List.getElem?_eq_getElem (by omega)
   refine ⟨cs'[j], xs[j]'(by omega), n', ?_, ha.trans hxs⟩
   have := hcell j hj
   rw [List.getElem?_eq_getElem hlt] at this
   rw [← Go.Deep.add_add]
   exact this
  refine .inr ⟨b, off, sp, len, cap, hcs, by omega, ⟨hl, hm⟩, fun hpos => ?_, fun i hil j f hf => ?_⟩
  ·obtain ⟨v, y, n', hv, _⟩ := key 0 hpos 0 fs[0] (Array.getElem?_eq_getElem h0)
   have e : (⟨b, off, sp⟩ : Addr).add (0 * fs.size + 0) = ⟨b, off, sp⟩ := by simp [Addr.add]
   rw [e] at hv
   exact ⟨World.cell?_spot hv, World.block_lt_of_cell? w _ hv⟩
  ·obtain ⟨v, y, n', hv, ht'⟩ := key i hil j f hf
   refine ⟨v, y, n', ?_, ht'⟩
   obtain ⟨v0, y0, n0, hv0, _⟩ := key 0 (by omega) 0 fs[0] (Array.getElem?_eq_getElem h0)
   have e : (⟨b, off, sp⟩ : Addr).add (0 * fs.size + 0) = ⟨b, off, sp⟩ := by simp [Addr.add]
   rw [e] at hv0
   have hsp : sp = none := World.cell?_spot hv0
   subst hsp
   have hadd : (⟨b, off, none⟩ : Addr).add (i * fs.size + j) = ⟨b, off + (i * fs.size + j), none⟩ := by unfold Addr.add; split <;> simp_all
   rw [← hadd]; exact hv
end
section
variable {H : Type} {enc : TypeId × Value → H} {w : World} {base : Nat} {spare : Nat → Bool} {held : Bool}
theorem Tryz.one117 : ∃ fs, Tryz.prog.underlying 117 = some (.struct fs) ∧ oneCellFields Tryz.prog fs = true ∧ Tryz.prog.cellsOf 117 = fs.size ∧ fs.size = 3 ∧ (fs[0]?.map (·.type)) = some 9 ∧ (fs[1]?.map (·.type)) = some 115 ∧ (fs[2]?.map (·.type)) = some 3 :=
 ⟨_, Tryz.underlying117, by kernel_rfl, by kernel_rfl, rfl, rfl, rfl, rfl⟩
theorem Tryz.one80 : ∃ fs, Tryz.prog.underlying 80 = some (.struct fs) ∧ oneCellFields Tryz.prog fs = true ∧ Tryz.prog.cellsOf 80 = fs.size ∧ fs.size = 3 ∧ (fs[0]?.map (·.type)) = some 3 ∧ (fs[1]?.map (·.type)) = some 9 ∧ (fs[2]?.map (·.type)) = some 78 :=
 ⟨_, Tryz.underlying80, by kernel_rfl, by kernel_rfl, rfl, rfl, rfl, rfl⟩
theorem Tryz.one67 : ∃ fs, Tryz.prog.underlying 67 = some (.struct fs) ∧ oneCellFields Tryz.prog fs = true ∧ Tryz.prog.cellsOf 67 = fs.size ∧ fs.size = 3 ∧ (fs[0]?.map (·.type)) = some 4 ∧ (fs[1]?.map (·.type)) = some 34 ∧ (fs[2]?.map (·.type)) = some 34 :=
 ⟨_, Tryz.underlying67, by kernel_rfl, by kernel_rfl, rfl, rfl, rfl, rfl⟩
theorem Tryz.one48 : ∃ fs, Tryz.prog.underlying 48 = some (.struct fs) ∧ oneCellFields Tryz.prog fs = true ∧ Tryz.prog.cellsOf 48 = fs.size ∧ fs.size = 2 ∧ (fs[0]?.map (·.type)) = some 3 ∧ (fs[1]?.map (·.type)) = some 46 :=
 ⟨_, Tryz.underlying48, by kernel_rfl, by kernel_rfl, rfl, rfl, rfl⟩
theorem field_of {fs : Array Field} {j : Nat} {t : TypeId} (h : (fs[j]?.map (·.type)) = some t) : ∃ f, fs[j]? = some f ∧ f.type = t := by
 cases hf : fs[j]? with
 | none => rw [hf] at h; cases h
 | some f => rw [hf] at h; exact ⟨f, rfl, Option.some.inj h⟩
theorem open_fields {fuel : Nat} {v : Value} {x : DataW H × List MemPlace} (h : DataW.trod enc Tryz.prog w base spare held fuel 78 [v] = some x) :
  ∃ a len cap fs, v = .slice a len cap ∧ FieldsAt w.heap.size w a len fs ∧ (a = none → len = 0 ∧ cap = 0) ∧ ∀ f ∈ fs, f.name.size ≤ maxLen := by
 obtain ⟨fds, hu, hone, hC, hsz, g0, g1, g2⟩ := Tryz.one117
 rcases open_elems Tryz.underlying78 hu hone hC (by omega) h with h1 | ⟨b, off, sp, len, cap, h1, hlm, hlc, hsp, hel⟩
 ·cases h1
  exact ⟨none, 0, 0, [], rfl, ⟨rfl, by unfold maxLen; omega, .inl rfl⟩, fun _ => ⟨rfl, rfl⟩, by simp⟩
 ·cases h1
  obtain ⟨f0, q0, r0⟩ := field_of g0
  obtain ⟨f1, q1, r1⟩ := field_of g1
  obtain ⟨f2, q2, r2⟩ := field_of g2
  obtain ⟨l, hl, hp⟩ := list_of (fun i (f : Fld) => w.cell? ⟨b, off + i * 3, none⟩ = some (.string f.name) ∧ w.cell? ⟨b, off + i * 3 + 1, none⟩ = some (.int .i64 f.kind) ∧ w.cell? ⟨b, off + i * 3 + 2, none⟩ = some (.int .i64 f.count) ∧ f.name.size ≤ maxLen) len (by
   intro i hi
   obtain ⟨v0, y0, n0, c0, t0⟩ := hel i hi 0 f0 q0
   obtain ⟨v1, y1, n1, c1, t1⟩ := hel i hi 1 f1 q1
   obtain ⟨v2, y2, n2, c2, t2⟩ := hel i hi 2 f2 q2
   rw [r0] at t0; rw [r1] at t1; rw [r2] at t2
   obtain ⟨s, e0, _, hs⟩ := DataW.trod_string Tryz.underlying9 t0
   obtain ⟨k, e1, _, hk⟩ := DataW.trod_int Tryz.underlying115 t1
   obtain ⟨c, e2, _, hc⟩ := DataW.trod_int Tryz.underlying3 t2
   cases e0; cases e1; cases e2
   rw [hsz] at c0 c1 c2
   exact ⟨⟨s, k, c⟩, c0, c1, c2, hs⟩)
  refine ⟨some ⟨b, off, sp⟩, len, cap, l, rfl, ⟨hl, hlm, ?_⟩, fun hh => by (cases hh), fun f hf => ?_⟩
  ·by_cases h0 : len = 0
   ·exact .inl h0
   ·obtain ⟨rfl, hb⟩ := hsp (by omega)
    exact .inr ⟨b, off, rfl, hb, fun i f hf => ⟨(hp i f hf).1, (hp i f hf).2.1, (hp i f hf).2.2.1⟩⟩
  ·obtain ⟨i, hi⟩ := List.getElem?_of_mem hf
   exact (hp i f hi).2.2.2
theorem open_comps {fuel : Nat} {v : Value} {x : DataW H × List MemPlace} (h : DataW.trod enc Tryz.prog w base spare held fuel 22 [v] = some x) :
  ∃ a len cap cs, v = .slice a len cap ∧ CompsAt w.heap.size w a len cs ∧ (a = none → len = 0 ∧ cap = 0) ∧ CompsWf cs := by
 obtain ⟨fds, hu, hone, hC, hsz, g0, g1, g2⟩ := Tryz.one80
 rcases open_elems Tryz.underlying22 hu hone hC (by omega) h with h1 | ⟨b, off, sp, len, cap, h1, hlm, hlc, hsp, hel⟩
 ·cases h1
  exact ⟨none, 0, 0, [], rfl, ⟨rfl, by unfold maxLen; omega, .inl rfl⟩, fun _ => ⟨rfl, rfl⟩, by intro c hc; cases hc⟩
 ·cases h1
  obtain ⟨f0, q0, r0⟩ := field_of g0
  obtain ⟨f1, q1, r1⟩ := field_of g1
  obtain ⟨f2, q2, r2⟩ := field_of g2
  obtain ⟨l, hl, hp⟩ := list_of (fun i (c : Cmp) => (w.cell? ⟨b, off + i * 3, none⟩ = some (.int .i64 c.id) ∧ w.cell? ⟨b, off + i * 3 + 1, none⟩ = some (.string c.name) ∧
    ∃ fa fl fc, w.cell? ⟨b, off + i * 3 + 2, none⟩ = some (.slice fa fl fc) ∧ FieldsAt w.heap.size w fa fl c.fields ∧ (fa = none → fl = 0 ∧ fc = 0)) ∧ c.name.size ≤ maxLen ∧ ∀ f ∈ c.fields, f.name.size ≤ maxLen) len (by
   intro i hi
   obtain ⟨v0, y0, n0, c0, t0⟩ := hel i hi 0 f0 q0
   obtain ⟨v1, y1, n1, c1, t1⟩ := hel i hi 1 f1 q1
   obtain ⟨v2, y2, n2, c2, t2⟩ := hel i hi 2 f2 q2
   rw [r0] at t0; rw [r1] at t1; rw [r2] at t2
   obtain ⟨k, e0, _, hk⟩ := DataW.trod_int Tryz.underlying3 t0
   obtain ⟨s, e1, _, hs⟩ := DataW.trod_string Tryz.underlying9 t1
   obtain ⟨fa, fl, fc, fs, e2, hF, hn, hfn⟩ := open_fields t2
   cases e0; cases e1; subst e2
   rw [hsz] at c0 c1 c2
   exact ⟨⟨k, s, fs⟩, ⟨c0, c1, fa, fl, fc, c2, hF, hn⟩, hs, hfn⟩)
  refine ⟨some ⟨b, off, sp⟩, len, cap, l, rfl, ⟨hl, hlm, ?_⟩, fun hh => by (cases hh), fun c hc => ?_⟩
  ·by_cases h0 : len = 0
   ·exact .inl h0
   ·obtain ⟨rfl, hb⟩ := hsp (by omega)
    exact .inr ⟨b, off, rfl, hb, fun i c hc => (hp i c hc).1⟩
  ·obtain ⟨i, hi⟩ := List.getElem?_of_mem hc
   exact (hp i c hi).2
theorem u64_of {n : Int} (h : (Lit.int .u64 n).wf = true) : 0 ≤ n ∧ n ≤ 18446744073709551615 := by
 simpa [Lit.wf, IntKind.min, IntKind.max, IntKind.signed, IntKind.bits] using h
theorem open_ints16 {fuel : Nat} {v : Value} {x : DataW H × List MemPlace} (h : DataW.trod enc Tryz.prog w base spare held fuel 46 [v] = some x) :
  ∃ a len cap xs, v = .slice a len cap ∧ IntsAt w.heap.size w a len cap xs := by
 obtain ⟨fds, hu, hone, hC, hsz, g0, g1, g2⟩ := Tryz.one67
 rcases open_elems Tryz.underlying46 hu hone hC (by omega) h with h1 | ⟨b, off, sp, len, cap, h1, hlm, hlc, hsp, hel⟩
 ·cases h1
  exact ⟨none, 0, 0, [], rfl, rfl, Nat.le_refl _, by unfold maxLen; omega, by simp, .inl rfl⟩
 ·cases h1
  obtain ⟨f0, q0, r0⟩ := field_of g0
  obtain ⟨f1, q1, r1⟩ := field_of g1
  obtain ⟨f2, q2, r2⟩ := field_of g2
  obtain ⟨l, hl, hp⟩ := list_of (fun i (y : WI) => (w.cell? ⟨b, off + i * 3, none⟩ = some (.bool y.neg) ∧ w.cell? ⟨b, off + i * 3 + 1, none⟩ = some (.int .u64 y.hi) ∧ w.cell? ⟨b, off + i * 3 + 2, none⟩ = some (.int .u64 y.lo)) ∧ y.wf) len (by
   intro i hi
   obtain ⟨v0, y0, n0, c0, t0⟩ := hel i hi 0 f0 q0
   obtain ⟨v1, y1, n1, c1, t1⟩ := hel i hi 1 f1 q1
   obtain ⟨v2, y2, n2, c2, t2⟩ := hel i hi 2 f2 q2
   rw [r0] at t0; rw [r1] at t1; rw [r2] at t2
   obtain ⟨a0, e0, _⟩ := DataW.trod_bool Tryz.underlying4 t0
   obtain ⟨a1, e1, _, w1⟩ := DataW.trod_int Tryz.underlying34 t1
   obtain ⟨a2, e2, _, w2⟩ := DataW.trod_int Tryz.underlying34 t2
   cases e0; cases e1; cases e2
   rw [hsz] at c0 c1 c2
   exact ⟨⟨a0, a1, a2⟩, ⟨c0, c1, c2⟩, u64_of w1, u64_of w2⟩)
  refine ⟨some ⟨b, off, sp⟩, len, cap, l, rfl, hl, hlc.1, hlc.2, fun y hy => ?_, ?_⟩
  ·obtain ⟨i, hi⟩ := List.getElem?_of_mem hy
   exact (hp i y hi).2
  ·by_cases h0 : len = 0
   ·exact .inl h0
   ·obtain ⟨rfl, hb⟩ := hsp (by omega)
    exact .inr ⟨b, off, rfl, hb, fun i y hy => (hp i y hy).1⟩
theorem open_parts {fuel : Nat} {v : Value} {x : DataW H × List MemPlace} (h : DataW.trod enc Tryz.prog w base spare held fuel 35 [v] = some x) :
  ∃ a len cap ps, v = .slice a len cap ∧ PartsAt w.heap.size w a len cap ps := by
 obtain ⟨fds, hu, hone, hC, hsz, g0, g1⟩ := Tryz.one48
 rcases open_elems Tryz.underlying35 hu hone hC (by omega) h with h1 | ⟨b, off, sp, len, cap, h1, hlm, hlc, hsp, hel⟩
 ·cases h1
  exact ⟨none, 0, 0, [], rfl, rfl, Nat.le_refl _, by unfold maxLen; omega, by simp, .inl rfl⟩
 ·cases h1
  obtain ⟨f0, q0, r0⟩ := field_of g0
  obtain ⟨f1, q1, r1⟩ := field_of g1
  obtain ⟨l, hl, hp⟩ := list_of (fun i (p : PW) => (w.cell? ⟨b, off + i * 2, none⟩ = some (.int .i64 p.comp) ∧ w.cell? ⟨b, off + i * 2 + 1, none⟩ = some (.slice p.va p.vl p.vc)) ∧ IntsAt w.heap.size w p.va p.vl p.vc p.val) len (by
   intro i hi
   obtain ⟨v0, y0, n0, c0, t0⟩ := hel i hi 0 f0 q0
   obtain ⟨v1, y1, n1, c1, t1⟩ := hel i hi 1 f1 q1
   rw [r0] at t0; rw [r1] at t1
   obtain ⟨a0, e0, _, _⟩ := DataW.trod_int Tryz.underlying3 t0
   obtain ⟨va, vl, vc, xs, e1, hv⟩ := open_ints16 t1
   cases e0; subst e1
   rw [hsz] at c0 c1
   exact ⟨⟨a0, va, vl, vc, xs⟩, ⟨c0, c1⟩, hv⟩)
  refine ⟨some ⟨b, off, sp⟩, len, cap, l, rfl, hl, hlc.1, hlc.2, fun y hy => ?_, ?_⟩
  ·obtain ⟨i, hi⟩ := List.getElem?_of_mem hy
   exact (hp i y hi).2
  ·by_cases h0 : len = 0
   ·exact .inl h0
   ·obtain ⟨rfl, hb⟩ := hsp (by omega)
    exact .inr ⟨b, off, rfl, hb, fun i y hy => (hp i y hy).1⟩
end
end Go.Proofs.YthmpknlgkflhiabGreat
namespace Go.Proofs.YthmpknlgkflhiabGreat
set_option linter.unusedVariables false
structure Pl where
 tab : Nat
 row : Option Nat
 deriving DecidableEq
structure PT where
 set : Int
 ents : List Int
 kept : Nat
 vals : List (List (List WI))
structure PS where
 tabs : List PT
 pl : Int → Option Pl
def updP (f : Int → Option Pl) (e : Int) (p : Option Pl) : Int → Option Pl := fun x => if x = e then p else f x
theorem updP_same (f : Int → Option Pl) (e : Int) (p : Option Pl) : updP f e p e = p := if_pos rfl
theorem updP_ne {f : Int → Option Pl} {e x : Int} {p : Option Pl} (h : x ≠ e) : updP f e p x = f x := if_neg h
theorem updP_back {f : Int → Option Pl} {e : Int} (p q : Option Pl) : updP (updP f e p) e q = updP f e q := by
 funext x; unfold updP; split <;> rfl
structure Who where
 set : Int
 row : Option (List (List WI))
def PS.who (P : PS) (e : Int) : Option Who :=
 match P.pl e with
 | none => none
 | some p => match P.tabs[p.tab]? with
  | none => none
  | some t => match p.row with
   | none => some ⟨t.set, none⟩
   | some r => some ⟨t.set, some (t.vals.getD r [])⟩
structure PS.Ok (P : PS) (L : List Int) : Prop where
 nd : L.Nodup
 dom : ∀ e, (P.pl e).isSome = true ↔ e ∈ L
 row : ∀ e i r, P.pl e = some ⟨i, some r⟩ ↔ ∃ t, P.tabs[i]? = some t ∧ t.ents[r]? = some e
 tab : ∀ e p, P.pl e = some p → p.tab < P.tabs.length
 kept : ∀ i t, P.tabs[i]? = some t → t.kept = L.countP (fun e => decide (P.pl e = some ⟨i, none⟩))
 len : ∀ t ∈ P.tabs, t.vals.length = t.ents.length
 sets : (P.tabs.map (·.set)).Nodup
theorem PS.Ok.noPl {P : PS} {L : List Int} (h : P.Ok L) {e : Int} (he : e ∉ L) : P.pl e = none := by
 cases hp : P.pl e with
 | none => rfl
 | some p => exact absurd ((h.dom e).1 (by rw [hp]; rfl)) he
theorem PS.Ok.isIn {P : PS} {L : List Int} (h : P.Ok L) {e : Int} {p : Pl} (hp : P.pl e = some p) : e ∈ L := (h.dom e).1 (by rw [hp]; rfl)
theorem PS.Ok.at {P : PS} {L : List Int} (h : P.Ok L) {e : Int} (he : e ∈ L) : ∃ p t, P.pl e = some p ∧ P.tabs[p.tab]? = some t := by
 obtain ⟨p, hp⟩ := Option.isSome_iff_exists.1 ((h.dom e).2 he)
 exact ⟨p, _, hp, List.getElem?_eq_getElem (h.tab e p hp)⟩
theorem who_kept {P : PS} {e : Int} {i : Nat} {t : PT} (hp : P.pl e = some ⟨i, none⟩) (ht : P.tabs[i]? = some t) : P.who e = some ⟨t.set, none⟩ := by
 unfold PS.who; rw [hp]; simp only [ht]
theorem who_row {P : PS} {e : Int} {i r : Nat} {t : PT} (hp : P.pl e = some ⟨i, some r⟩) (ht : P.tabs[i]? = some t) : P.who e = some ⟨t.set, some (t.vals.getD r [])⟩ := by
 unfold PS.who; rw [hp]; simp only [ht]
theorem who_none {P : PS} {e : Int} (hp : P.pl e = none) : P.who e = none := by unfold PS.who; rw [hp]
theorem PS.Ok.whoIn {P : PS} {L : List Int} (h : P.Ok L) (e : Int) : (P.who e).isSome = true ↔ e ∈ L := by
 constructor
 ·intro hw
  refine Classical.byContradiction fun he => ?_
  rw [who_none (h.noPl he)] at hw; cases hw
 ·intro he
  obtain ⟨⟨i, r⟩, t, hp, ht⟩ := h.at he
  cases r with
  | none => rw [who_kept hp ht]; rfl
  | some r => rw [who_row hp ht]; rfl
theorem setsOf_set {l : List PT} {i : Nat} {t t' : PT} (ht : l[i]? = some t) (hs : t'.set = t.set) : (l.set i t').map (·.set) = l.map (·.set) := by
 apply List.ext_getElem?
 intro j
 rw [List.getElem?_map, List.getElem?_map, List.getElem?_set]
 split
 ·rename_i e; subst e
  rw [ht]
  have := (List.getElem?_eq_some_iff.1 ht).1
  simp [this, hs]
 ·rfl
theorem set_some {α : Type} {l : List α} {i j : Nat} {t' u : α} (h : (l.set i t')[j]? = some u) : (j = i ∧ u = t' ∧ i < l.length) ∨ (j ≠ i ∧ l[j]? = some u) := by
 rw [List.getElem?_set] at h
 split at h
 ·rename_i e; subst e
  split at h
  ·cases h; exact .inl ⟨rfl, rfl, ‹_›⟩
  ·cases h
 ·rename_i e; exact .inr ⟨fun x => e x.symm, h⟩
theorem set_same {α : Type} {l : List α} {i : Nat} {t t' : α} (ht : l[i]? = some t) : (l.set i t')[i]? = some t' := by
 rw [List.getElem?_set, if_pos rfl, if_pos (List.getElem?_eq_some_iff.1 ht).1]
theorem set_other {α : Type} {l : List α} {i j : Nat} {t' : α} (h : j ≠ i) : (l.set i t')[j]? = l[j]? := by
 rw [List.getElem?_set, if_neg (fun e => h e.symm)]
theorem countP_perm {l m : List Int} (h : l.Perm m) (p : Int → Bool) : l.countP p = m.countP p := h.countP_eq p
theorem countP_same {l : List Int} {p q : Int → Bool} (h : ∀ e ∈ l, p e = q e) : l.countP p = l.countP q := by
 apply List.countP_congr
 intro e he
 rw [h e he]
def PS.add (P : PS) (i : Nat) (t : PT) (e : Int) (v : List (List WI)) : PS :=
 ⟨P.tabs.set i { t with ents := t.ents ++ [e], vals := t.vals ++ [v] }, updP P.pl e (some ⟨i, some t.ents.length⟩)⟩
theorem PS.Ok.add {P : PS} {L L' : List Int} (h : P.Ok L) {i : Nat} {t : PT} (ht : P.tabs[i]? = some t) {e : Int} (he : e ∉ L) (hL : L'.Perm (e :: L)) (v : List (List WI)) : (P.add i t e v).Ok L' := by
 have hnd : (e :: L).Nodup := List.nodup_cons.2 ⟨he, h.nd⟩
 refine ⟨hL.symm.nodup hnd, fun x => ?_, fun x j r => ?_, fun x p hp => ?_, fun j u hu => ?_, fun u hu => ?_, ?_⟩
 ·rw [hL.mem_iff, List.mem_cons, ← h.dom x]
  by_cases hx : x = e
  ·subst hx; simp [PS.add, updP_same]
  ·simp [PS.add, updP_ne hx, hx]
 ·by_cases hx : x = e
  ·subst hx
   simp only [PS.add, updP_same]
   constructor
   ·intro hh
    cases hh
    exact ⟨_, set_same ht, by simp⟩
   ·rintro ⟨u, hu, hr⟩
    rcases set_some hu with ⟨rfl, rfl, _⟩ | ⟨hj, hu⟩
    ·rw [List.getElem?_append] at hr
     split at hr
     ·exact absurd (h.isIn ((h.row x j r).2 ⟨t, ht, hr⟩)) he
     ·rename_i hge
      rw [List.getElem?_cons] at hr
      split at hr
      ·congr 3; omega
      ·simp at hr
    ·exact absurd (h.isIn ((h.row x j r).2 ⟨u, hu, hr⟩)) he
  ·simp only [PS.add, updP_ne hx]
   rw [h.row x j r]
   constructor
   ·rintro ⟨u, hu, hr⟩
    by_cases hj : j = i
    ·subst hj
     rw [ht] at hu; cases hu
     exact ⟨_, set_same ht, by rw [List.getElem?_append_left (List.getElem?_eq_some_iff.1 hr).1]; exact hr⟩
    ·exact ⟨u, by rw [set_other hj]; exact hu, hr⟩
   ·rintro ⟨u, hu, hr⟩
    rcases set_some hu with ⟨rfl, rfl, _⟩ | ⟨hj, hu⟩
    ·refine ⟨t, ht, ?_⟩
     rw [List.getElem?_append] at hr
     split at hr
     ·exact hr
     ·rw [List.getElem?_cons] at hr
      split at hr
      ·cases hr; exact absurd rfl hx
      ·simp at hr
    ·exact ⟨u, hu, hr⟩
 ·have hil := (List.getElem?_eq_some_iff.1 ht).1
  by_cases hx : x = e
  ·subst hx
   simp only [PS.add, updP_same, Option.some.injEq] at hp
   subst hp
   simpa [PS.add] using hil
  ·simp only [PS.add, updP_ne hx] at hp
   simpa [PS.add] using h.tab x p hp
 ·have hc : ∀ j, L'.countP (fun x => decide ((P.add i t e v).pl x = some ⟨j, none⟩)) = L.countP (fun x => decide (P.pl x = some ⟨j, none⟩)) := by
   intro j
   rw [countP_perm hL, List.countP_cons]
   have h1 : decide ((P.add i t e v).pl e = some ⟨j, none⟩) = false := by simp [PS.add, updP_same]
   rw [h1]
   refine countP_same fun x hx => ?_
   have hxe : x ≠ e := fun e' => he (e' ▸ hx)
   simp only [PS.add, updP_ne hxe]
  rw [hc]
  rcases set_some hu with ⟨rfl, rfl, _⟩ | ⟨hj, hu⟩
  ·exact h.kept j t ht
  ·exact h.kept j u hu
 ·rcases List.mem_or_eq_of_mem_set hu with hu | rfl
  ·exact h.len u hu
  ·have := h.len t (List.mem_of_getElem? ht)
   simp [this]
 ·rw [show (P.add i t e v).tabs = P.tabs.set i _ from rfl, setsOf_set ht (by rfl)]
  exact h.sets
theorem PS.Ok.add_who {P : PS} {L : List Int} (h : P.Ok L) {i : Nat} {t : PT} (ht : P.tabs[i]? = some t) {e : Int} (v : List (List WI)) (x : Int) : (P.add i t e v).who x = if x = e then some ⟨t.set, some v⟩ else P.who x := by
 by_cases hx : x = e
 ·subst hx
  rw [if_pos rfl, who_row (i := i) (r := t.ents.length) (by simp [PS.add, updP_same]) (set_same ht)]
  have := h.len t (List.mem_of_getElem? ht)
  simp [List.getD_eq_getElem?_getD, ← this]
 ·rw [if_neg hx]
  have hp : (P.add i t e v).pl x = P.pl x := updP_ne hx
  cases hq : P.pl x with
  | none => rw [who_none hq, who_none (by rw [hp]; exact hq)]
  | some p =>
   obtain ⟨j, r⟩ := p
   obtain ⟨u, hu⟩ : ∃ u : PT, P.tabs[j]? = some u := ⟨_, List.getElem?_eq_getElem (h.tab x _ hq)⟩
   by_cases hj : j = i
   ·subst hj
    rw [ht] at hu; cases hu
    cases r with
    | none => rw [who_kept hq ht, who_kept (by rw [hp]; exact hq) (set_same ht)]
    | some r =>
     rw [who_row hq ht, who_row (by rw [hp]; exact hq) (set_same ht)]
     obtain ⟨u, hu, hr⟩ := (h.row x j r).1 hq
     rw [ht] at hu; cases hu
     have h1 := (List.getElem?_eq_some_iff.1 hr).1
     have h2 := h.len t (List.mem_of_getElem? ht)
     simp only [List.getD_eq_getElem?_getD]
     rw [List.getElem?_append_left (by omega)]
   ·have hu' : (P.add i t e v).tabs[j]? = some u := by rw [show (P.add i t e v).tabs = P.tabs.set i _ from rfl, set_other hj]; exact hu
    cases r with
    | none => rw [who_kept hq hu, who_kept (by rw [hp]; exact hq) hu']
    | some r => rw [who_row hq hu, who_row (by rw [hp]; exact hq) hu']
def PS.keep (P : PS) (i : Nat) (t : PT) (e : Int) : PS := ⟨P.tabs.set i { t with kept := t.kept + 1 }, updP P.pl e (some ⟨i, none⟩)⟩
theorem PS.Ok.keep {P : PS} {L L' : List Int} (h : P.Ok L) {i : Nat} {t : PT} (ht : P.tabs[i]? = some t) {e : Int} (he : e ∉ L) (hL : L'.Perm (e :: L)) : (P.keep i t e).Ok L' := by
 have hnd : (e :: L).Nodup := List.nodup_cons.2 ⟨he, h.nd⟩
 have hrow : ∀ (j r : Nat) (x : Int), (∃ u : PT, (P.keep i t e).tabs[j]? = some u ∧ u.ents[r]? = some x) ↔ ∃ u : PT, P.tabs[j]? = some u ∧ u.ents[r]? = some x := by
  intro j r x
  constructor
  ·rintro ⟨u, hu, hr⟩
   rcases set_some hu with ⟨rfl, rfl, _⟩ | ⟨hj, hu⟩
   ·exact ⟨t, ht, hr⟩
   ·exact ⟨u, hu, hr⟩
  ·rintro ⟨u, hu, hr⟩
   by_cases hj : j = i
   ·subst hj
    rw [ht] at hu; cases hu
    exact ⟨_, set_same ht, hr⟩
   ·exact ⟨u, (set_other hj).trans hu, hr⟩
 refine ⟨hL.symm.nodup hnd, fun x => ?_, fun x j r => ?_, fun x p hp => ?_, fun j u hu => ?_, fun u hu => ?_, ?_⟩
 ·rw [hL.mem_iff, List.mem_cons, ← h.dom x]
  by_cases hx : x = e
  ·subst hx; simp [PS.keep, updP_same]
  ·simp [PS.keep, updP_ne hx, hx]
 ·rw [hrow, ← h.row x j r]
  by_cases hx : x = e
  ·subst hx
   simp [PS.keep, updP_same, h.noPl he]
  ·simp only [PS.keep, updP_ne hx]
 ·have hil := (List.getElem?_eq_some_iff.1 ht).1
  by_cases hx : x = e
  ·subst hx
   simp only [PS.keep, updP_same, Option.some.injEq] at hp
   subst hp
   simpa [PS.keep] using hil
  ·simp only [PS.keep, updP_ne hx] at hp
   simpa [PS.keep] using h.tab x p hp
 ·have hc : L'.countP (fun x => decide ((P.keep i t e).pl x = some ⟨j, none⟩)) = L.countP (fun x => decide (P.pl x = some ⟨j, none⟩)) + if i = j then 1 else 0 := by
   rw [countP_perm hL, List.countP_cons]
   have h1 : decide ((P.keep i t e).pl e = some ⟨j, none⟩) = decide (i = j) := by simp [PS.keep, updP_same]
   rw [h1, countP_same (q := fun x => decide (P.pl x = some ⟨j, none⟩)) fun x hx => ?_]
   ·simp
   ·have hxe : x ≠ e := fun e' => he (e' ▸ hx)
    simp only [PS.keep, updP_ne hxe]
  rw [hc]
  rcases set_some hu with ⟨rfl, rfl, _⟩ | ⟨hj, hu⟩
  ·rw [if_pos rfl, ← h.kept j t ht]
  ·rw [if_neg (fun e => hj e.symm)]; exact h.kept j u hu
 ·rcases List.mem_or_eq_of_mem_set hu with hu | rfl
  ·exact h.len u hu
  ·exact h.len t (List.mem_of_getElem? ht)
 ·rw [show (P.keep i t e).tabs = P.tabs.set i _ from rfl, setsOf_set ht (by rfl)]
  exact h.sets
theorem who_eq {P Q : PS} {x : Int} (hp : Q.pl x = P.pl x) (ht : ∀ p t, P.pl x = some p → P.tabs[p.tab]? = some t → ∃ u, Q.tabs[p.tab]? = some u ∧ u.set = t.set ∧ ∀ r, p.row = some r → u.vals.getD r [] = t.vals.getD r []) (hn : ∀ p, P.pl x = some p → p.tab < P.tabs.length) : Q.who x = P.who x := by
 cases hq : P.pl x with
 | none => rw [who_none hq, who_none (hp.trans hq)]
 | some p =>
  obtain ⟨j, r⟩ := p
  obtain ⟨t, h1⟩ : ∃ t, P.tabs[j]? = some t := ⟨_, List.getElem?_eq_getElem (hn _ hq)⟩
  obtain ⟨u, h2, h3, h4⟩ := ht _ t hq h1
  cases r with
  | none => rw [who_kept hq h1, who_kept (hp.trans hq) h2, h3]
  | some r => rw [who_row hq h1, who_row (hp.trans hq) h2, h3, h4 r rfl]
theorem PS.Ok.keep_who {P : PS} {L : List Int} (h : P.Ok L) {i : Nat} {t : PT} (ht : P.tabs[i]? = some t) {e : Int} (x : Int) : (P.keep i t e).who x = if x = e then some ⟨t.set, none⟩ else P.who x := by
 by_cases hx : x = e
 ·subst hx
  rw [if_pos rfl, who_kept (i := i) (by simp [PS.keep, updP_same]) (set_same ht)]
 ·rw [if_neg hx]
  refine who_eq (updP_ne hx) (fun p u hq hu => ?_) (fun p hp => h.tab x p hp)
  by_cases hj : p.tab = i
  ·rw [hj] at hu ⊢
   rw [ht] at hu; cases hu
   exact ⟨_, set_same ht, rfl, fun _ _ => rfl⟩
  ·exact ⟨u, (set_other hj).trans hu, rfl, fun _ _ => rfl⟩
end Go.Proofs.YthmpknlgkflhiabGreat
