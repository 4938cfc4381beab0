/-
  DERIVED. GIVEN WITH THE SEED: THE CARDS: each row of YtlnbehbipoahhaaGreatDoorRows.lean that lists a variable, with what it lists TIED to the program's text (the seventh form; the later family's looks); each row that meets fmt, with fmt's text TOLD by the authors' own Lean function (tested against real Go, not proved from fmt's source: count such statements apart). THE CARD IS WHAT COUNTS. Prove the row's statement (the work); the ties are given (YtlnbehbipoahhaaGreatDoorTie.lean); close each card by the builder's one call (the guide's Derived/Test/ToyasCard.lean, 'card_holds'). Laid BY PROGRAM, IN A SANDBOX (cutbox-door.mjs). By AI agents, Wed Nov 11 2026. No macro, syntax, notation, axiom, sorry.
-/
import Derived.Test.YtlnbehbipoahhaaGreatDoorRows
import GoSem.ClaimSeven
namespace Go.Proofs.YtlnbehbipoahhaaGreatDoor
namespace Rows

/-- THE TIED CARD OF 'reveillelaw05.SegPlays'. -/
def segPlaysCard : Claim7 := { stood := { row := segPlaysRow, standIns := [], harness := (true, "87f0cee665583970b2582e598c3faf729c8124e757407dbebf77528c3dee2426"), looks := true }, kinds := [], alts := [], laidByText := true, laidKinds := [.data, .data, .data, .data, .sentinel, .sentinel, .pinned], laidTests := true, laidLooks := .later }
def SegPlaysCardSaid : Prop := Claim7.holds Tryz.pinned (.plain (OpenSpec.ofChange segPlaysSpec)) segPlaysCard

/-- THE SECOND FORM's CARD OF 'reveillelaw05.SegPlays'. -/
def segPlaysUptoCard : Claim7 := { stood := { row := segPlaysUptoRow, standIns := [], harness := (true, "87f0cee665583970b2582e598c3faf729c8124e757407dbebf77528c3dee2426"), looks := true }, kinds := [], alts := [], laidByText := true, laidKinds := [.data, .data, .data, .data, .sentinel, .sentinel, .pinned], laidTests := true, laidLooks := .later }
def SegPlaysUptoCardSaid : Prop := Claim7.holds Tryz.pinned (.plain (OpenSpec.upto segPlaysSpec)) segPlaysUptoCard
end Rows
end Go.Proofs.YtlnbehbipoahhaaGreatDoor
