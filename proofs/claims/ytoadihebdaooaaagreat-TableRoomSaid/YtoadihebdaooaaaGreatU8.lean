/- Contracts of schema.CheckPart, CheckParts; table.value. -/
import Derived.Test.YtoadihebdaooaaaGreatU7
import Derived.Test.YtoadihebdaooaaaGreatB3
namespace Go.Proofs.YtoadihebdaooaaaGreat
open Go.RowKit
set_option linter.unusedVariables false
theorem fieldsAt_row {w : World} {B : Nat} {va : Option Addr} {fl vc : Nat} {fs : List Fld} (h : w.ownsRow B 123 3 (.slice va fl vc) fl (fldCells fs)) (hl : fs.length = fl) (hm : fl ≤ maxLen) : FieldsAt w.heap.size w va fl fs :=
  (FieldsOn.of_row h hl hm).imp (fun b hb => ⟨by have := hb; omega, rfl⟩)
theorem row_cap {w : World} {B : Nat} {e : TypeId} {s : Nat} {va : Option Addr} {n vc : Nat} {xs : List Value} (h : w.ownsRow B e s (.slice va n vc) n xs) : n ≤ vc := by
  rcases h.2 with ⟨h1, h2⟩ | ⟨g, cap, cur, h1, _, _, h3, _⟩
  · cases h1; exact Nat.le_refl _
  · cases h1; exact h3
/-- What is wrong with a part. -/
def cpF (cs : List Cmp) (p : PW) : Int := match findC p.comp cs with
  | some c => fitF c.fields p.val
  | none => 6
set_option maxRecDepth 100000 in
set_option maxHeartbeats 1000000 in
theorem checkPart_any (ver : Int) (cs : List Cmp) (a : Option Addr) (len cap : Nat) (p : PW) (w : World) (hcs : CompsAt w.heap.size w a len cs) (hf : ∀ c ∈ cs, c.fields.length ≤ 100000) (hv : IntsAt w.heap.size w p.va p.vl p.vc p.val) :
    Calls Tryz.prog 134 #[.agg #[.int .i64 ver, .slice a len cap], .agg #[.int .i64 p.comp, .slice p.va p.vl p.vc]] w fun e w' => e = .returned (.int .i64 (cpF cs p)) ∧ Below w.heap.size w w' := by
  have hw1 := heap_alloc_new w (.cells #[.int .i64 ver, .slice a len cap] 24)
  have hw2 := keepA (.cells #[.int .i64 p.comp, .slice p.va p.vl p.vc] 85) hw1
  have hw3 := heap_alloc_new (w.alloc (.cells #[.int .i64 ver, .slice a len cap] 24)) (.cells #[.int .i64 p.comp, .slice p.va p.vl p.vc] 85)
  have hb0 : Below w.heap.size w ((w.alloc (.cells #[.int .i64 ver, .slice a len cap] 24)).alloc (.cells #[.int .i64 p.comp, .slice p.va p.vl p.vc] 85)) := by go_grown
  rw [World.size_alloc] at hw3
  have HV := Lib.hid hv
  have HCS := Lib.hid (And.intro hcs hf)
  have HB := Lib.hid (And.intro hw2 (And.intro hw3 hb0))
  clear hw1 hw2 hw3 hb0 hcs hf hv
  go_enter Tryz.func134, Tryz.ntmps134
  go_wp2_with fail
  refine (Find_any ver p.comp cs a len cap _ ((HCS.out.1.below HB.out.2.2).mono HB.out.2.2.size) HCS.out.2).mono ?_
  intro e w1 h
  generalize (w.alloc (.cells #[.int .i64 ver, .slice a len cap] 24)).alloc (.cells #[.int .i64 p.comp, .slice p.va p.vl p.vc] 85) = W at *
  have hzW := HB.out.2.2.size
  unfold IsFind at h
  cases hfc : findC p.comp cs with
  | none =>
    rw [hfc] at h
    obtain ⟨rfl, hb1⟩ := h
    have HR := Lib.hid (show (6 : Int) = cpF cs p by unfold cpF; rw [hfc])
    have HB1 := Lib.hid (HB.out.2.2.trans (hb1.mono hzW))
    have hz1 := hb1.size
    clear hfc hb1
    go_wp2_with fail
    go_returns
    exact ⟨ret_intk HR.out, HB1.out.alloc (by omega) _⟩
  | some c =>
    rw [hfc] at h
    obtain ⟨va, fl, vc, rfl, hrow, _, hb1⟩ := h
    have HR := Lib.hid (show fitF c.fields p.val = cpF cs p by unfold cpF; rw [hfc])
    have hz1 := hb1.size
    have hq := keep hb1 HB.out.2.1
    have hq2 := lt_some hq
    have c1 := cell_at hq 1
    simp at c1
    have hbA := HB.out.2.2.trans (hb1.mono hzW)
    have hfa := fieldsAt_row (hrow.1.alloc (.cells #[.int .i64 c.id, .string c.name, .slice va fl vc] 112)) hrow.2.1 hrow.2.2
    have hia := (HV.out.below (hbA.alloc (by omega) (.cells #[.int .i64 c.id, .string c.name, .slice va fl vc] 112))).mono (show w.heap.size ≤ (w1.alloc (.cells #[.int .i64 c.id, .string c.name, .slice va fl vc] 112)).heap.size by simp; omega)
    have HFA := Lib.hid hfa
    have HIA := Lib.hid hia
    have HCAP := Lib.hid (row_cap hrow.1)
    have HBA := Lib.hid hbA
    clear hfc hb1 hq hfa hia hrow hbA
    go_wp2_with fail
    refine (fit_any c.fields _ _ _ _ _ _ p.val _ HFA.out HCAP.out HIA.out).mono ?_
    rintro e w3 ⟨rfl, hb3⟩
    rw [HR.out]
    have HB3 := Lib.hid ((HBA.out.alloc (by omega) _).trans (hb3.mono (by simp; omega)))
    clear hb3
    go_wp2_with fail
    go_returns
    exact ⟨rfl, HB3.out⟩
end Go.Proofs.YtoadihebdaooaaaGreat
