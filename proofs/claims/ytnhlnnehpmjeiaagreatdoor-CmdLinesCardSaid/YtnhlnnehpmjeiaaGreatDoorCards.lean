/-
  DERIVED. GIVEN WITH THE SEED: THE CARDS: each row of YtnhlnnehpmjeiaaGreatDoorRows.lean that lists a variable, with what it lists TIED to the program's text (the seventh form; the later family's looks); each row that meets fmt, with fmt's text TOLD by the authors' own Lean function (tested against real Go, not proved from fmt's source: count such statements apart). THE CARD IS WHAT COUNTS. Prove the row's statement (the work); the ties are given (YtnhlnnehpmjeiaaGreatDoorTie.lean); close each card by the builder's one call (the guide's Derived/Test/ToyasCard.lean, 'card_holds'). Laid BY PROGRAM, IN A SANDBOX (cutbox-door.mjs). By AI agents, Wed Nov 11 2026. No macro, syntax, notation, axiom, sorry.
-/
import Derived.Test.YtnhlnnehpmjeiaaGreatDoorRows
import GoSem.ClaimSeven
namespace Go.Proofs.YtnhlnnehpmjeiaaGreatDoor
namespace Rows

/-- THE TIED CARD OF 'retrofitlaw21.CmdOrder'. -/
def cmdOrderCard : Claim7 := { stood := { row := cmdOrderRow, standIns := [], harness := (true, "93becd802fc9b1fe35c1c637b30be1c3d96c0b03ad6e14aca3e10f5ab1c32bf1"), looks := true }, kinds := [], alts := [], laidByText := true, laidKinds := [.data, .data, .data], laidTests := true, laidLooks := .later }
def CmdOrderCardSaid : Prop := Claim7.holds Tryz.pinned (.plain (OpenSpec.ofChange cmdOrderSpec)) cmdOrderCard

/-- THE TIED CARD OF 'retrofitlaw21.CmdLines'. -/
def cmdLinesCard : Claim7 := { stood := { row := cmdLinesRow, standIns := [], harness := (true, "93becd802fc9b1fe35c1c637b30be1c3d96c0b03ad6e14aca3e10f5ab1c32bf1"), looks := true }, kinds := [], alts := [], laidByText := true, laidKinds := [.data, .data, .data], laidTests := true, laidLooks := .later }
def CmdLinesCardSaid : Prop := Claim7.holds Tryz.pinned (.plain (OpenSpec.ofChange cmdLinesSpec)) cmdLinesCard

/-- THE SECOND FORM's CARD OF 'retrofitlaw21.CmdOrder'. -/
def cmdOrderUptoCard : Claim7 := { stood := { row := cmdOrderUptoRow, standIns := [], harness := (true, "93becd802fc9b1fe35c1c637b30be1c3d96c0b03ad6e14aca3e10f5ab1c32bf1"), looks := true }, kinds := [], alts := [], laidByText := true, laidKinds := [.data, .data, .data], laidTests := true, laidLooks := .later }
def CmdOrderUptoCardSaid : Prop := Claim7.holds Tryz.pinned (.plain (OpenSpec.upto cmdOrderSpec)) cmdOrderUptoCard

/-- THE SECOND FORM's CARD OF 'retrofitlaw21.CmdLines'. -/
def cmdLinesUptoCard : Claim7 := { stood := { row := cmdLinesUptoRow, standIns := [], harness := (true, "93becd802fc9b1fe35c1c637b30be1c3d96c0b03ad6e14aca3e10f5ab1c32bf1"), looks := true }, kinds := [], alts := [], laidByText := true, laidKinds := [.data, .data, .data], laidTests := true, laidLooks := .later }
def CmdLinesUptoCardSaid : Prop := Claim7.holds Tryz.pinned (.plain (OpenSpec.upto cmdLinesSpec)) cmdLinesUptoCard
end Rows
end Go.Proofs.YtnhlnnehpmjeiaaGreatDoor
