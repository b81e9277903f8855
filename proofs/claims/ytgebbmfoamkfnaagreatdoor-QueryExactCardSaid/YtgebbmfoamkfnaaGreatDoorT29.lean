/- What operations of a region may leave: an empty row, a row, a row of one. -/
import Derived.Test.YtgebbmfoamkfnaaGreatDoorT28
import Derived.Test.YtgebbmfoamkfnaaGreatDoorT23
namespace Go.Proofs.YtgebbmfoamkfnaaGreatDoor
open Go.RowKit
set_option linter.unusedVariables false
def IsEmp (U : Nat) (e : TypeId) (s : Nat) (v : Value) (w : World) : Prop := ∃ q, v = .slice (some ⟨q, 0, none⟩) 0 0 ∧ w.ownsRow U e s (.slice (some ⟨q, 0, none⟩) 0 0) 0 []
theorem lasts_emp (U : Nat) (e : TypeId) (s : Nat) : Lasts (IsEmp U e s) := fun _ _ _ ⟨q, h1, h2⟩ hb => ⟨q, h1, ownsRow_below h2 hb⟩
def IsRowO (U : Nat) (e : TypeId) (s l : Nat) (xs : List Value) (v : Value) (w : World) : Prop := ∃ va vc, v = .slice va l vc ∧ w.ownsRow U e s (.slice va l vc) l xs
theorem lasts_rowO (U : Nat) (e : TypeId) (s l : Nat) (xs : List Value) : Lasts (IsRowO U e s l xs) := fun _ _ _ ⟨va, vc, h1, h2⟩ hb => ⟨va, vc, h1, ownsRow_below h2 hb⟩
/-- A value made of a row. -/
def IsWith (U : Nat) (e : TypeId) (s l : Nat) (xs : List Value) (g : Option Addr → Nat → Value) (v : Value) (w : World) : Prop := ∃ va vc, v = g va vc ∧ w.ownsRow U e s (.slice va l vc) l xs
theorem lasts_with (U : Nat) (e : TypeId) (s l : Nat) (xs : List Value) (g : Option Addr → Nat → Value) : Lasts (IsWith U e s l xs g) := fun _ _ _ ⟨va, vc, h1, h2⟩ hb => ⟨va, vc, h1, ownsRow_below h2 hb⟩
/-- A slice of one element, made of a row. -/
def IsOneW (U : Nat) (e : TypeId) (s l : Nat) (xs : List Value) (e' : TypeId) (g : Option Addr → Nat → Array Value) (v : Value) (w : World) : Prop := ∃ va vc q, v = .slice (some ⟨q, 0, none⟩) 1 1 ∧ w.heap[q]? = some (.cells (g va vc) e' (0, 0)) ∧ w.ownsRow U e s (.slice va l vc) l xs
theorem lasts_oneW (U : Nat) (e : TypeId) (s l : Nat) (xs : List Value) (e' : TypeId) (g : Option Addr → Nat → Array Value) : Lasts (IsOneW U e s l xs e' g) := fun _ _ _ ⟨va, vc, q, h1, h2, h3⟩ hb => ⟨va, vc, q, h1, keep hb h2, ownsRow_below h3 hb⟩
def IsOne (e' : TypeId) (cs : Array Value) (v : Value) (w : World) : Prop := ∃ q, v = .slice (some ⟨q, 0, none⟩) 1 1 ∧ w.heap[q]? = some (.cells cs e' (0, 0))
theorem lasts_one (e' : TypeId) (cs : Array Value) : Lasts (IsOne e' cs) := fun _ _ _ ⟨q, h1, h2⟩ hb => ⟨q, h1, keep hb h2⟩
end Go.Proofs.YtgebbmfoamkfnaaGreatDoor
