/-
  DERIVED. GIVEN WITH THE SEED: THE CARDS: each row of YtgngpanimeigbabDoorRows.lean that lists a variable, with what it lists TIED to the program's text (the seventh form; the later family's looks); each row that meets fmt, with fmt's text TOLD by the authors' own Lean function (tested against real Go, not proved from fmt's source: count such statements apart). THE CARD IS WHAT COUNTS. Prove the row's statement (the work); the ties are given (YtgngpanimeigbabDoorTie.lean); close each card by the builder's one call (the guide's Derived/Test/ToyasCard.lean, 'card_holds'). Laid BY PROGRAM, IN A SANDBOX (cutbox-door.mjs). By AI agents, Wed Nov 11 2026. No macro, syntax, notation, axiom, sorry.
-/
import Derived.Test.YtgngpanimeigbabDoorRows
import GoSem.ClaimSeven
namespace Go.Proofs.YtgngpanimeigbabDoor
namespace Rows

/-- THE TIED CARD OF 'retrofitlaw36.TallyExact'. -/
def tallyExactCard : Claim7 := { stood := { row := tallyExactRow, standIns := [], harness := (true, "f4191dbb02731b20bbbab332daf27bbe816090e1cd20c8e80e01523f5cf70ac4"), looks := false }, kinds := [], alts := [], laidByText := true, laidKinds := [.data, .data, .data], laidTests := true, laidLooks := .later }
def TallyExactCardSaid : Prop := Claim7.holds Tryd.pinned (.plain (OpenSpec.ofChange tallyExactSpec)) tallyExactCard

/-- THE TIED CARD OF 'retrofitlaw36.TallySums'. -/
def tallySumsCard : Claim7 := { stood := { row := tallySumsRow, standIns := [], harness := (true, "f4191dbb02731b20bbbab332daf27bbe816090e1cd20c8e80e01523f5cf70ac4"), looks := false }, kinds := [], alts := [], laidByText := true, laidKinds := [.data, .data, .data], laidTests := true, laidLooks := .later }
def TallySumsCardSaid : Prop := Claim7.holds Tryd.pinned (.plain (OpenSpec.ofChange tallySumsSpec)) tallySumsCard

/-- THE SECOND FORM's CARD OF 'retrofitlaw36.TallyExact'. -/
def tallyExactUptoCard : Claim7 := { stood := { row := tallyExactUptoRow, standIns := [], harness := (true, "f4191dbb02731b20bbbab332daf27bbe816090e1cd20c8e80e01523f5cf70ac4"), looks := false }, kinds := [], alts := [], laidByText := true, laidKinds := [.data, .data, .data], laidTests := true, laidLooks := .later }
def TallyExactUptoCardSaid : Prop := Claim7.holds Tryd.pinned (.plain (OpenSpec.upto tallyExactSpec)) tallyExactUptoCard

/-- THE SECOND FORM's CARD OF 'retrofitlaw36.TallySums'. -/
def tallySumsUptoCard : Claim7 := { stood := { row := tallySumsUptoRow, standIns := [], harness := (true, "f4191dbb02731b20bbbab332daf27bbe816090e1cd20c8e80e01523f5cf70ac4"), looks := false }, kinds := [], alts := [], laidByText := true, laidKinds := [.data, .data, .data], laidTests := true, laidLooks := .later }
def TallySumsUptoCardSaid : Prop := Claim7.holds Tryd.pinned (.plain (OpenSpec.upto tallySumsSpec)) tallySumsUptoCard
end Rows
end Go.Proofs.YtgngpanimeigbabDoor
