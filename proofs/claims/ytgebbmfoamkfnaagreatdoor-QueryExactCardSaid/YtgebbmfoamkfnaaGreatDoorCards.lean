/-
  DERIVED. GIVEN WITH THE SEED: THE CARDS: each row of YtgebbmfoamkfnaaGreatDoorRows.lean that lists a variable, with what it lists TIED to the program's text (the seventh form; the later family's looks); each row that meets fmt, with fmt's text TOLD by the authors' own Lean function (tested against real Go, not proved from fmt's source: count such statements apart). THE CARD IS WHAT COUNTS. Prove the row's statement (the work); the ties are given (YtgebbmfoamkfnaaGreatDoorTie.lean); close each card by the builder's one call (the guide's Derived/Test/ToyasCard.lean, 'card_holds'). Laid BY PROGRAM, IN A SANDBOX (cutbox-door.mjs). By AI agents, Wed Nov 11 2026. No macro, syntax, notation, axiom, sorry.
-/
import Derived.Test.YtgebbmfoamkfnaaGreatDoorRows
import GoSem.ClaimSeven
namespace Go.Proofs.YtgebbmfoamkfnaaGreatDoor
namespace Rows

/-- THE TIED CARD OF 'retrofitlaw20.QueryExact'. -/
def queryExactCard : Claim7 := { stood := { row := queryExactRow, standIns := [], harness := (true, "696cccfcf43f57bcd06ca1c6ac1eceecae87129442700348b4b1c8f8598ab969"), looks := true }, kinds := [], alts := [], laidByText := true, laidKinds := [.data, .data, .data, .data, .sentinel, .sentinel, .pinned], laidTests := true, laidLooks := .later }
def QueryExactCardSaid : Prop := Claim7.holds Tryz.pinned (.plain (OpenSpec.ofChange queryExactSpec)) queryExactCard

/-- THE TIED CARD OF 'retrofitlaw20.QueryParts'. -/
def queryPartsCard : Claim7 := { stood := { row := queryPartsRow, standIns := [], harness := (true, "696cccfcf43f57bcd06ca1c6ac1eceecae87129442700348b4b1c8f8598ab969"), looks := true }, kinds := [], alts := [], laidByText := true, laidKinds := [.data, .data, .data, .data, .sentinel, .sentinel, .pinned], laidTests := true, laidLooks := .later }
def QueryPartsCardSaid : Prop := Claim7.holds Tryz.pinned (.plain (OpenSpec.ofChange queryPartsSpec)) queryPartsCard

/-- THE TIED CARD OF 'retrofitlaw20.QueryCache'. -/
def queryCacheCard : Claim7 := { stood := { row := queryCacheRow, standIns := [], harness := (true, "696cccfcf43f57bcd06ca1c6ac1eceecae87129442700348b4b1c8f8598ab969"), looks := true }, kinds := [], alts := [], laidByText := true, laidKinds := [.data, .data, .data, .data, .sentinel, .sentinel, .pinned], laidTests := true, laidLooks := .later }
def QueryCacheCardSaid : Prop := Claim7.holds Tryz.pinned (.plain (OpenSpec.ofChange queryCacheSpec)) queryCacheCard

/-- THE SECOND FORM's CARD OF 'retrofitlaw20.QueryExact'. -/
def queryExactUptoCard : Claim7 := { stood := { row := queryExactUptoRow, standIns := [], harness := (true, "696cccfcf43f57bcd06ca1c6ac1eceecae87129442700348b4b1c8f8598ab969"), looks := true }, kinds := [], alts := [], laidByText := true, laidKinds := [.data, .data, .data, .data, .sentinel, .sentinel, .pinned], laidTests := true, laidLooks := .later }
def QueryExactUptoCardSaid : Prop := Claim7.holds Tryz.pinned (.plain (OpenSpec.upto queryExactSpec)) queryExactUptoCard

/-- THE SECOND FORM's CARD OF 'retrofitlaw20.QueryParts'. -/
def queryPartsUptoCard : Claim7 := { stood := { row := queryPartsUptoRow, standIns := [], harness := (true, "696cccfcf43f57bcd06ca1c6ac1eceecae87129442700348b4b1c8f8598ab969"), looks := true }, kinds := [], alts := [], laidByText := true, laidKinds := [.data, .data, .data, .data, .sentinel, .sentinel, .pinned], laidTests := true, laidLooks := .later }
def QueryPartsUptoCardSaid : Prop := Claim7.holds Tryz.pinned (.plain (OpenSpec.upto queryPartsSpec)) queryPartsUptoCard

/-- THE SECOND FORM's CARD OF 'retrofitlaw20.QueryCache'. -/
def queryCacheUptoCard : Claim7 := { stood := { row := queryCacheUptoRow, standIns := [], harness := (true, "696cccfcf43f57bcd06ca1c6ac1eceecae87129442700348b4b1c8f8598ab969"), looks := true }, kinds := [], alts := [], laidByText := true, laidKinds := [.data, .data, .data, .data, .sentinel, .sentinel, .pinned], laidTests := true, laidLooks := .later }
def QueryCacheUptoCardSaid : Prop := Claim7.holds Tryz.pinned (.plain (OpenSpec.upto queryCacheSpec)) queryCacheUptoCard
end Rows
end Go.Proofs.YtgebbmfoamkfnaaGreatDoor
