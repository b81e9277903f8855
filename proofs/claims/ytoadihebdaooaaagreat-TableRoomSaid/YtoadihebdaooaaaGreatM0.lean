/- Maps told as functions: general lemmas, over any program. -/
import Derived.Test.YtoadihebdaooaaaGreatRows
import Derived.WalkKit
import Derived.Lib.Hide
import Derived.Maps.OwnSet
namespace Go.Proofs.YtoadihebdaooaaaGreat
open Go.RowKit
open Go.Maps (Keyed IsMap Tidy)
set_option linter.unusedVariables false

section
variable {P : Program} {w : World} {k e : TypeId} {b cnt : Nat} {f : Lit → Option Lit}

/-- Block b is a map of cnt entries, that holds at each key what f says. -/
def MapIs (P : Program) (w : World) (k e : TypeId) (b cnt : Nat) (f : Lit → Option Lit) : Prop :=
  ∃ D : DataW Unit, w.ownsMap P k (plainElem P e) b cnt D ∧ Maps.size D = cnt ∧ ∀ kl, Maps.has D kl = (f kl).isSome ∧ ∀ v, f kl = some v → ∀ z, D.atKey kl z = .lit v

/-- Are two keys one? -/
def litEq : Lit → Lit → Bool
  | .bool a, .bool b => decide (a = b)
  | .int k n, .int k' n' => decide (k = k') && decide (n = n')
  | .float k n, .float k' n' => decide (k = k') && decide (n = n')
  | .string a, .string b => decide (a = b)
  | .nil, .nil => true
  | _, _ => false
theorem litEq_iff {x y : Lit} : litEq x y = true ↔ x = y := by
  cases x <;> cases y <;> simp [litEq]
def putF (f : Lit → Option Lit) (kl v : Lit) : Lit → Option Lit := fun x => if litEq x kl = true then some v else f x
theorem putF_same (f : Lit → Option Lit) (kl v : Lit) : putF f kl v kl = some v := if_pos (litEq_iff.2 rfl)
theorem putF_ne {f : Lit → Option Lit} {kl v x : Lit} (h : x ≠ kl) : putF f kl v x = f x := if_neg (fun e => h (litEq_iff.1 e))

theorem MapIs.made (w : World) (P : Program) (k e : TypeId) : MapIs P (w.alloc (.map #[] 0)) k e w.heap.size 0 (fun _ => none) :=
  ⟨.map [], World.ownsMap_made _ _ _ _, rfl, fun kl => ⟨rfl, fun v h => by cases h⟩⟩

theorem MapIs.kept {w' : World} {row : Option Nat} (h : MapIs P w k e b cnt f) (hg : w.grownBy w' row) (hne : some b ≠ row) : MapIs P w' k e b cnt f := by
  obtain ⟨D, h1, h2, h3⟩ := h
  exact ⟨D, h1.kept hg hne, h2, h3⟩
theorem MapIs.alloc (h : MapIs P w k e b cnt f) (o : Obj) : MapIs P (w.alloc o) k e b cnt f := by
  obtain ⟨D, h1, h2, h3⟩ := h
  exact ⟨D, h1.alloc o, h2, h3⟩
theorem MapIs.setCell (h : MapIs P w k e b cnt f) {a : Addr} (ha : b ≠ a.block) (u : Value) : MapIs P (w.setCell a u) k e b cnt f := by
  obtain ⟨D, h1, h2, h3⟩ := h
  exact ⟨D, h1.setCell ha u, h2, h3⟩
theorem MapIs.below (h : MapIs P w k e b cnt f) {w' : World} (hb : Below w.heap.size w w') : MapIs P w' k e b cnt f :=
  h.kept (row := none) ⟨hb.os, hb.tape, hb.output, hb.size, fun k hk _ => hb.block k hk⟩ (by simp)
theorem MapIs.lt (h : MapIs P w k e b cnt f) : b < w.heap.size := by obtain ⟨D, h1, _⟩ := h; exact h1.lt
theorem MapIs.obj (h : MapIs P w k e b cnt f) : ∃ es c, w.heap[b]? = some (.map es c) := by
  obtain ⟨D, ⟨es, c, hb, _⟩, _⟩ := h
  exact ⟨es, c, hb⟩

/-- What is not there at a bool's map is false. -/
def boolAt (o : Option Lit) : Bool := match o with | some (.bool b) => b | _ => false
def intAt (o : Option Lit) : Int := match o with | some (.int _ n) => n | _ => 0

/-- m[k], m a map of bools. -/
theorem MapIs.look_bool {t : TypeId} (h : MapIs P w k e b cnt f) (K : Keyed P k) (ht : P.underlying t = some (.map k e)) (he : P.underlying e = some .bool) (hz : ∀ w, (zeroValue e).run P w = .ok (.bool false) w)
    {key : Value} {kl : Lit} (hkey : keyOf P k key = some kl) : (Instr.lookup t (.map (some b)) key false).run P w = .ok (.bool (boolAt (f kl))) w := by
  obtain ⟨D, h1, h2, h3⟩ := h
  obtain ⟨v, ps, hrun, hv⟩ := h1.lookup K ht (hz w) (plainElem_bool he false) hkey
  rw [hrun]
  obtain ⟨hh, hat⟩ := h3 kl
  have hv' : ∃ x, v = .bool x ∧ D.atKey kl (.lit (.bool false)) = .lit (.bool x) := by
    unfold plainElem at hv
    rw [he] at hv
    cases v <;> simp at hv
    exact ⟨_, rfl, hv.1.symm⟩
  obtain ⟨x, rfl, hx⟩ := hv'
  cases hf : f kl with
  | none =>
    rw [hf] at hh
    rw [Maps.atKey_of_not_has hh] at hx
    cases hx
    rfl
  | some v =>
    rw [hat v hf] at hx
    cases hx
    rfl

/-- v, ok := m[k], m a map of integers. -/
theorem MapIs.look_ok_int {t : TypeId} {q : IntKind} (h : MapIs P w k e b cnt f) (K : Keyed P k) (ht : P.underlying t = some (.map k e)) (he : P.underlying e = some (.int q)) (hz : ∀ w, (zeroValue e).run P w = .ok (.int q 0) w)
    {key : Value} {kl : Lit} (hkey : keyOf P k key = some kl) : (Instr.lookup t (.map (some b)) key true).run P w = .ok (.tuple #[.int q (intAt (f kl)), .bool (f kl).isSome]) w := by
  obtain ⟨D, h1, h2, h3⟩ := h
  obtain ⟨v, ps, hrun, hv⟩ := h1.look_ok K ht (hz w) (plainElem_int he (by cases q <;> decide)) hkey
  rw [hrun]
  obtain ⟨hh, hat⟩ := h3 kl
  obtain ⟨c, rfl, hc, hwc⟩ := plainElem_int_inv he hv
  have hc' := congrArg Prod.fst hc
  simp only at hc'
  rw [hh]
  cases hf : f kl with
  | none =>
    rw [hf] at hh
    rw [Maps.atKey_of_not_has hh] at hc'
    cases hc'
    rfl
  | some v =>
    rw [hat v hf] at hc'
    cases hc'
    rfl

/-- len(m). -/
theorem MapIs.len {t : TypeId} (h : MapIs P w k e b cnt f) (ht : P.underlying t = some (.map k e)) (ty : TypeId) : (Builtin.len_ #[t] ty #[.map (some b)]).run P w = .ok (.int .i64 cnt) w := by
  obtain ⟨D, h1, h2, h3⟩ := h
  rw [h1.len ht, h2]

/-- m[k] = v. -/
theorem MapIs.store {t : TypeId} (h : MapIs P w k e b cnt f) (K : Keyed P k) (ht : P.underlying t = some (.map k e)) (hn : cnt < maxLen) {key val : Value} {kl v : Lit}
    (hkey : keyOf P k key = some kl) (hv : plainElem (H := Unit) P e val = some (.lit v, [])) :
    ∃ w', (Instr.mapUpdate t (.map (some b)) key val).run P w = .ok () w' ∧ MapIs P w' k e b (if (f kl).isSome then cnt else cnt + 1) (putF f kl v) ∧ w.grownBy w' (some b) ∧ w'.heap.size = w.heap.size ∧ (∀ a, w'.frozen? a = w.frozen? a) := by
  obtain ⟨D, h1, h2, h3⟩ := h
  obtain ⟨w', hrun, h1', ht'⟩ := h1.store K ht hn hkey hv
  have hs : Maps.size (D.put kl (.lit v)) = if (f kl).isSome then cnt else cnt + 1 := by
    rw [Maps.size_put (h1.tidy K), (h3 kl).1, h2]
  have hsz : w'.heap.size = w.heap.size := by
    obtain ⟨es, clock, es', clock', hb, rfl⟩ := ht'
    simp [ChangeMaps.setBlock]
  refine ⟨w', hrun, ⟨D.put kl (.lit v), ?_, hs, fun x => ?_⟩, ht'.grown, hsz, ht'.frozen⟩
  · obtain ⟨es, clock, hb, F, hle, hD⟩ := h1'
    refine ⟨es, clock, hb, F, ?_, hD⟩
    rw [← hs, hD]
    simp [Maps.size, length_sorted]
  · by_cases hx : x = kl
    · subst hx
      rw [putF_same]
      refine ⟨by rw [Maps.has_put_same h1.isMap (K.key hkey)]; rfl, fun u hu z => ?_⟩
      rw [Maps.atKey_put_same h1.isMap (K.key hkey)]
      cases hu
      rfl
    · rw [putF_ne hx]
      refine ⟨by rw [Maps.has_put_other hx, (h3 x).1], fun u hu z => ?_⟩
      rw [Maps.atKey_put_other hx]
      exact (h3 x).2 u hu z
end
end Go.Proofs.YtoadihebdaooaaaGreat
