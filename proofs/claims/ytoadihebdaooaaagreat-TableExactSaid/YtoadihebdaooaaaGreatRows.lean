/-
  No cell of these rows narrows 'for every input' (looked for: loops, veiled, ifaces, maps, wideKeys, modest, calm, conditions, laid).
  DERIVED. THE GIVEN ROWS OF THIS SEAT. 4 by the template 'for every input the law returns true; each argument reads behind the call as it read before'; 0 by the template 'total and deterministic' (their statements: YtoadihebdaooaaaGreatTotals.lean).
  GIVEN WITH THE SEED: the statements are not yours to turn. If you find one false, say at which input.
  Laid BY PROGRAM, IN A SANDBOX (cutbox-rows.mjs): the forced cells as the released guide's own fill.sh prints them over the translation 157825886337cdc7… (all of the seat's roots in one cut). By AI agents, Wed Nov 11 2026. No macro, syntax, notation, axiom, sorry.
-/
import Derived.Test.YtoadihebdaooaaaGreatChecked
import GoSem.Claim
import GoSem.ClaimJoined
import GoSem.ClaimMapViews
import Derived.JoinedTies
import Derived.KernelRfl
namespace Go.Proofs.YtoadihebdaooaaaGreat
/- THE CELL 'sum', in the pinned program and in every row, IS THE sha256 OF THE DUMP (.gsa) THAT YtoadihebdaooaaaGreatProg.lean LOADS. Nothing in Lean hashes anything: it is a label: what it is worth is what the hold of that sum in a sandbox is worth. -/
noncomputable def Tryz.pinned : Pinned := { name := "ytoadihebdaooaaagreat", sum := "157825886337cdc7bb0b883f7db0aa6594c645143b9c87fc50b5a5885d93797a", checked := Tryz.checked }
namespace Rows
def none {H : Type} : Left H := { results := [], args := [] }

/-- 'retrofitlaw17.GraphExact': WHATEVER THE INPUT: true; the input reads as it did. -/
def graphExactSpec : ChangeSpec := { name := "graphExact", fn := fun _ => fun
  | [d1, d2, d3, d4] => { results := [.lit (.bool true)], args := [d1, d2, d3, d4] }
  | _ => none }
def graphExactRow : OpenClaim := { program := "ytoadihebdaooaaagreat", sum := "157825886337cdc7bb0b883f7db0aa6594c645143b9c87fc50b5a5885d93797a", func := "retrofit/retrofitlaw17.GraphExact", spec := "graphExact", inPlace := ["maps.clone", "math/bits.Add64", "math/bits.Sub64", "internal/abi.NoEscape", "internal/bytealg.MakeNoZero"], unfollowed := true, recurses := true, plainKeys := false, apart := false }
def GraphExactSaid : Prop := graphExactRow.holds Tryz.pinned (OpenSpec.ofChange graphExactSpec)

/-- ITS FALSE NEIGHBOUR: 'it returns false'. Refute it at one input. -/
def graphExactWrong : ChangeSpec := { name := "graphExact", fn := fun _ => fun
  | [d1, d2, d3, d4] => { results := [.lit (.bool false)], args := [d1, d2, d3, d4] }
  | _ => none }
def GraphExactWrongFalsely : Prop := graphExactRow.holds Tryz.pinned (OpenSpec.ofChange graphExactWrong)

/-- 'retrofitlaw16.TableRoom': WHATEVER THE INPUT: true; the input reads as it did. -/
def tableRoomSpec : ChangeSpec := { name := "tableRoom", fn := fun _ => fun
  | [d1, d2, d3, d4] => { results := [.lit (.bool true)], args := [d1, d2, d3, d4] }
  | _ => none }
def tableRoomRow : OpenClaim := { program := "ytoadihebdaooaaagreat", sum := "157825886337cdc7bb0b883f7db0aa6594c645143b9c87fc50b5a5885d93797a", func := "retrofit/retrofitlaw16.TableRoom", spec := "tableRoom", inPlace := ["math/bits.Add64", "math/bits.Sub64", "internal/abi.NoEscape", "internal/bytealg.MakeNoZero"], unfollowed := true, recurses := true, plainKeys := false, apart := false }
def TableRoomSaid : Prop := tableRoomRow.holds Tryz.pinned (OpenSpec.ofChange tableRoomSpec)

/-- ITS FALSE NEIGHBOUR: 'it returns false'. Refute it at one input. -/
def tableRoomWrong : ChangeSpec := { name := "tableRoom", fn := fun _ => fun
  | [d1, d2, d3, d4] => { results := [.lit (.bool false)], args := [d1, d2, d3, d4] }
  | _ => none }
def TableRoomWrongFalsely : Prop := tableRoomRow.holds Tryz.pinned (OpenSpec.ofChange tableRoomWrong)

/-- 'retrofitlaw16.TableMoves': WHATEVER THE INPUT: true; the input reads as it did. -/
def tableMovesSpec : ChangeSpec := { name := "tableMoves", fn := fun _ => fun
  | [d1, d2, d3] => { results := [.lit (.bool true)], args := [d1, d2, d3] }
  | _ => none }
def tableMovesRow : OpenClaim := { program := "ytoadihebdaooaaagreat", sum := "157825886337cdc7bb0b883f7db0aa6594c645143b9c87fc50b5a5885d93797a", func := "retrofit/retrofitlaw16.TableMoves", spec := "tableMoves", inPlace := ["math/bits.Add64", "math/bits.Sub64", "internal/abi.NoEscape", "internal/bytealg.MakeNoZero"], unfollowed := true, recurses := true, plainKeys := false, apart := false }
def TableMovesSaid : Prop := tableMovesRow.holds Tryz.pinned (OpenSpec.ofChange tableMovesSpec)

/-- ITS FALSE NEIGHBOUR: 'it returns false'. Refute it at one input. -/
def tableMovesWrong : ChangeSpec := { name := "tableMoves", fn := fun _ => fun
  | [d1, d2, d3] => { results := [.lit (.bool false)], args := [d1, d2, d3] }
  | _ => none }
def TableMovesWrongFalsely : Prop := tableMovesRow.holds Tryz.pinned (OpenSpec.ofChange tableMovesWrong)

/-- 'retrofitlaw16.TableExact': WHATEVER THE INPUT: true; the input reads as it did. -/
def tableExactSpec : ChangeSpec := { name := "tableExact", fn := fun _ => fun
  | [d1, d2, d3, d4] => { results := [.lit (.bool true)], args := [d1, d2, d3, d4] }
  | _ => none }
def tableExactRow : OpenClaim := { program := "ytoadihebdaooaaagreat", sum := "157825886337cdc7bb0b883f7db0aa6594c645143b9c87fc50b5a5885d93797a", func := "retrofit/retrofitlaw16.TableExact", spec := "tableExact", inPlace := ["math/bits.Add64", "math/bits.Sub64", "internal/abi.NoEscape", "internal/bytealg.MakeNoZero"], unfollowed := true, recurses := true, plainKeys := false, apart := false }
def TableExactSaid : Prop := tableExactRow.holds Tryz.pinned (OpenSpec.ofChange tableExactSpec)

/-- ITS FALSE NEIGHBOUR: 'it returns false'. Refute it at one input. -/
def tableExactWrong : ChangeSpec := { name := "tableExact", fn := fun _ => fun
  | [d1, d2, d3, d4] => { results := [.lit (.bool false)], args := [d1, d2, d3, d4] }
  | _ => none }
def TableExactWrongFalsely : Prop := tableExactRow.holds Tryz.pinned (OpenSpec.ofChange tableExactWrong)

/- THE SECOND FORM. 'bulk': how many values and letters a reading holds, each counted each time it is reached (what is shared counts as often as it is met; a slice's spare places count too). A statement '..UptoSaid' is the law's where the arguments, and the package variables that the reading takes, are together of bulk at most 1048576: NARROWER than '..Said'. Prove '..Said' where nothing that the law and all that it calls make is longer than what came in: it says more and counts as full. Else prove '..UptoSaid'. A law counts once. -/
mutual
def uptoBulk {H : Type} : DataW H → Nat
  | .lit (.string bytes) => bytes.length + 1
  | .lit _ => 1
  | .nil => 1
  | .ptr d => uptoBulk d + 1
  | .slice elems spare => uptoBulkAll elems + uptoBulkAll spare + 1
  | .agg parts => uptoBulkAll parts + 1
  | .iface _ d => uptoBulk d + 1
  | .map entries => uptoBulkEntries entries + 1
  | .held _ => 1
def uptoBulkAll {H : Type} : List (DataW H) → Nat
  | [] => 0
  | d :: r => uptoBulk d + uptoBulkAll r
def uptoBulkEntries {H : Type} : List (Lit × DataW H) → Nat
  | [] => 0
  | x :: r => uptoBulkEntry x + uptoBulkEntries r
def uptoBulkEntry {H : Type} : Lit × DataW H → Nat
  | (.string bytes, d) => bytes.length + uptoBulk d + 1
  | (_, d) => uptoBulk d + 1
 end
def uptoSmall : (H : Type) → List (DataW H) → Bool := fun _ ds => decide (uptoBulkAll ds ≤ 1048576)
def OpenSpec.upto (s : _root_.Go.ChangeSpec) : _root_.Go.OpenSpec := { _root_.Go.OpenSpec.ofChange s with cond := some uptoSmall }

/-- 'retrofitlaw17.GraphExact', WHERE WHAT IT READS IS OF BULK AT MOST 1048576: true; the input reads as it did. -/
def graphExactUptoRow : OpenClaim := { program := "ytoadihebdaooaaagreat", sum := "157825886337cdc7bb0b883f7db0aa6594c645143b9c87fc50b5a5885d93797a", func := "retrofit/retrofitlaw17.GraphExact", spec := "graphExact", inPlace := ["maps.clone", "math/bits.Add64", "math/bits.Sub64", "internal/abi.NoEscape", "internal/bytealg.MakeNoZero"], unfollowed := true, recurses := true, plainKeys := false, apart := false, narrowed := true }
def GraphExactUptoSaid : Prop := graphExactUptoRow.holds Tryz.pinned (OpenSpec.upto graphExactSpec)

/-- 'retrofitlaw16.TableRoom', WHERE WHAT IT READS IS OF BULK AT MOST 1048576: true; the input reads as it did. -/
def tableRoomUptoRow : OpenClaim := { program := "ytoadihebdaooaaagreat", sum := "157825886337cdc7bb0b883f7db0aa6594c645143b9c87fc50b5a5885d93797a", func := "retrofit/retrofitlaw16.TableRoom", spec := "tableRoom", inPlace := ["math/bits.Add64", "math/bits.Sub64", "internal/abi.NoEscape", "internal/bytealg.MakeNoZero"], unfollowed := true, recurses := true, plainKeys := false, apart := false, narrowed := true }
def TableRoomUptoSaid : Prop := tableRoomUptoRow.holds Tryz.pinned (OpenSpec.upto tableRoomSpec)

/-- 'retrofitlaw16.TableMoves', WHERE WHAT IT READS IS OF BULK AT MOST 1048576: true; the input reads as it did. -/
def tableMovesUptoRow : OpenClaim := { program := "ytoadihebdaooaaagreat", sum := "157825886337cdc7bb0b883f7db0aa6594c645143b9c87fc50b5a5885d93797a", func := "retrofit/retrofitlaw16.TableMoves", spec := "tableMoves", inPlace := ["math/bits.Add64", "math/bits.Sub64", "internal/abi.NoEscape", "internal/bytealg.MakeNoZero"], unfollowed := true, recurses := true, plainKeys := false, apart := false, narrowed := true }
def TableMovesUptoSaid : Prop := tableMovesUptoRow.holds Tryz.pinned (OpenSpec.upto tableMovesSpec)

/-- 'retrofitlaw16.TableExact', WHERE WHAT IT READS IS OF BULK AT MOST 1048576: true; the input reads as it did. -/
def tableExactUptoRow : OpenClaim := { program := "ytoadihebdaooaaagreat", sum := "157825886337cdc7bb0b883f7db0aa6594c645143b9c87fc50b5a5885d93797a", func := "retrofit/retrofitlaw16.TableExact", spec := "tableExact", inPlace := ["math/bits.Add64", "math/bits.Sub64", "internal/abi.NoEscape", "internal/bytealg.MakeNoZero"], unfollowed := true, recurses := true, plainKeys := false, apart := false, narrowed := true }
def TableExactUptoSaid : Prop := tableExactUptoRow.holds Tryz.pinned (OpenSpec.upto tableExactSpec)

end Rows
end Go.Proofs.YtoadihebdaooaaaGreat
