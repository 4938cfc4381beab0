/-
  DERIVED. GIVEN WITH THE SEED: THE CARDS: each row of YtafdfmdcnniccaaGreatDoorRows.lean that lists a variable, with what it lists TIED to the program's text (the seventh form; the later family's looks); each row that meets fmt, with fmt's text TOLD by the authors' own Lean function (tested against real Go, not proved from fmt's source: count such statements apart). THE CARD IS WHAT COUNTS. Prove the row's statement (the work); the ties are given (YtafdfmdcnniccaaGreatDoorTie.lean); close each card by the builder's one call (the guide's Derived/Test/ToyasCard.lean, 'card_holds'). Laid BY PROGRAM, IN A SANDBOX (cutbox-door.mjs). By AI agents, Wed Nov 11 2026. No macro, syntax, notation, axiom, sorry.
-/
import Derived.Test.YtafdfmdcnniccaaGreatDoorRows
import GoSem.ClaimSeven
namespace Go.Proofs.YtafdfmdcnniccaaGreatDoor
namespace Rows

/-- THE TIED CARD OF 'reveillelaw05.SegOpens'. -/
def segOpensCard : Claim7 := { stood := { row := segOpensRow, standIns := [], harness := (true, "ebe9aa35b7fa3e17a384a94acb149426f76e0e8323c0434e605c3ef6d1b3b99e"), looks := true }, kinds := [], alts := [], laidByText := true, laidKinds := [.data, .data, .data, .data, .sentinel, .sentinel, .pinned], laidTests := true, laidLooks := .later }
def SegOpensCardSaid : Prop := Claim7.holds Tryz.pinned (.plain (OpenSpec.ofChange segOpensSpec)) segOpensCard

/-- THE TIED CARD OF 'reveillelaw05.SegAgain'. -/
def segAgainCard : Claim7 := { stood := { row := segAgainRow, standIns := [], harness := (true, "ebe9aa35b7fa3e17a384a94acb149426f76e0e8323c0434e605c3ef6d1b3b99e"), looks := true }, kinds := [], alts := [], laidByText := true, laidKinds := [.data, .data, .data, .data, .sentinel, .sentinel, .pinned], laidTests := true, laidLooks := .later }
def SegAgainCardSaid : Prop := Claim7.holds Tryz.pinned (.plain (OpenSpec.ofChange segAgainSpec)) segAgainCard

/-- THE TIED CARD OF 'reveillelaw05.SegRows'. -/
def segRowsCard : Claim7 := { stood := { row := segRowsRow, standIns := [], harness := (true, "ebe9aa35b7fa3e17a384a94acb149426f76e0e8323c0434e605c3ef6d1b3b99e"), looks := true }, kinds := [], alts := [], laidByText := true, laidKinds := [.data, .data, .data, .data, .sentinel, .sentinel, .pinned], laidTests := true, laidLooks := .later }
def SegRowsCardSaid : Prop := Claim7.holds Tryz.pinned (.plain (OpenSpec.ofChange segRowsSpec)) segRowsCard

/-- THE TIED CARD OF 'reveillelaw05.SegPlays'. -/
def segPlaysCard : Claim7 := { stood := { row := segPlaysRow, standIns := [], harness := (true, "ebe9aa35b7fa3e17a384a94acb149426f76e0e8323c0434e605c3ef6d1b3b99e"), looks := true }, kinds := [], alts := [], laidByText := true, laidKinds := [.data, .data, .data, .data, .sentinel, .sentinel, .pinned], laidTests := true, laidLooks := .later }
def SegPlaysCardSaid : Prop := Claim7.holds Tryz.pinned (.plain (OpenSpec.ofChange segPlaysSpec)) segPlaysCard

/-- THE TIED CARD OF 'reveillelaw05.SegNames'. -/
def segNamesCard : Claim7 := { stood := { row := segNamesRow, standIns := [], harness := (true, "ebe9aa35b7fa3e17a384a94acb149426f76e0e8323c0434e605c3ef6d1b3b99e"), looks := true }, kinds := [], alts := [], laidByText := true, laidKinds := [.data, .data, .data, .data, .sentinel, .sentinel, .pinned], laidTests := true, laidLooks := .later }
def SegNamesCardSaid : Prop := Claim7.holds Tryz.pinned (.plain (OpenSpec.ofChange segNamesSpec)) segNamesCard

/-- THE SECOND FORM's CARD OF 'reveillelaw05.SegOpens'. -/
def segOpensUptoCard : Claim7 := { stood := { row := segOpensUptoRow, standIns := [], harness := (true, "ebe9aa35b7fa3e17a384a94acb149426f76e0e8323c0434e605c3ef6d1b3b99e"), looks := true }, kinds := [], alts := [], laidByText := true, laidKinds := [.data, .data, .data, .data, .sentinel, .sentinel, .pinned], laidTests := true, laidLooks := .later }
def SegOpensUptoCardSaid : Prop := Claim7.holds Tryz.pinned (.plain (OpenSpec.upto segOpensSpec)) segOpensUptoCard

/-- THE SECOND FORM's CARD OF 'reveillelaw05.SegAgain'. -/
def segAgainUptoCard : Claim7 := { stood := { row := segAgainUptoRow, standIns := [], harness := (true, "ebe9aa35b7fa3e17a384a94acb149426f76e0e8323c0434e605c3ef6d1b3b99e"), looks := true }, kinds := [], alts := [], laidByText := true, laidKinds := [.data, .data, .data, .data, .sentinel, .sentinel, .pinned], laidTests := true, laidLooks := .later }
def SegAgainUptoCardSaid : Prop := Claim7.holds Tryz.pinned (.plain (OpenSpec.upto segAgainSpec)) segAgainUptoCard

/-- THE SECOND FORM's CARD OF 'reveillelaw05.SegRows'. -/
def segRowsUptoCard : Claim7 := { stood := { row := segRowsUptoRow, standIns := [], harness := (true, "ebe9aa35b7fa3e17a384a94acb149426f76e0e8323c0434e605c3ef6d1b3b99e"), looks := true }, kinds := [], alts := [], laidByText := true, laidKinds := [.data, .data, .data, .data, .sentinel, .sentinel, .pinned], laidTests := true, laidLooks := .later }
def SegRowsUptoCardSaid : Prop := Claim7.holds Tryz.pinned (.plain (OpenSpec.upto segRowsSpec)) segRowsUptoCard

/-- THE SECOND FORM's CARD OF 'reveillelaw05.SegPlays'. -/
def segPlaysUptoCard : Claim7 := { stood := { row := segPlaysUptoRow, standIns := [], harness := (true, "ebe9aa35b7fa3e17a384a94acb149426f76e0e8323c0434e605c3ef6d1b3b99e"), looks := true }, kinds := [], alts := [], laidByText := true, laidKinds := [.data, .data, .data, .data, .sentinel, .sentinel, .pinned], laidTests := true, laidLooks := .later }
def SegPlaysUptoCardSaid : Prop := Claim7.holds Tryz.pinned (.plain (OpenSpec.upto segPlaysSpec)) segPlaysUptoCard

/-- THE SECOND FORM's CARD OF 'reveillelaw05.SegNames'. -/
def segNamesUptoCard : Claim7 := { stood := { row := segNamesUptoRow, standIns := [], harness := (true, "ebe9aa35b7fa3e17a384a94acb149426f76e0e8323c0434e605c3ef6d1b3b99e"), looks := true }, kinds := [], alts := [], laidByText := true, laidKinds := [.data, .data, .data, .data, .sentinel, .sentinel, .pinned], laidTests := true, laidLooks := .later }
def SegNamesUptoCardSaid : Prop := Claim7.holds Tryz.pinned (.plain (OpenSpec.upto segNamesSpec)) segNamesUptoCard
end Rows
end Go.Proofs.YtafdfmdcnniccaaGreatDoor
