/-
  DERIVED. GIVEN WITH THE SEED: THE CARDS: each row of YtiahjipoofeliaaGreatDoorRows.lean that lists a variable, with what it lists TIED to the program's text (the seventh form; the later family's looks); each row that meets fmt, with fmt's text TOLD by the authors' own Lean function (tested against real Go, not proved from fmt's source: count such statements apart). THE CARD IS WHAT COUNTS. Prove the row's statement (the work); the ties are given (YtiahjipoofeliaaGreatDoorTie.lean); close each card by the builder's one call (the guide's Derived/Test/ToyasCard.lean, 'card_holds'). Laid BY PROGRAM, IN A SANDBOX (cutbox-door.mjs). By AI agents, Wed Nov 11 2026. No macro, syntax, notation, axiom, sorry.
-/
import Derived.Test.YtiahjipoofeliaaGreatDoorRows
import GoSem.ClaimSeven
namespace Go.Proofs.YtiahjipoofeliaaGreatDoor
namespace Rows

/-- THE TIED CARD OF 'reveillelaw10.CqPlays'. -/
def cqPlaysCard : Claim7 := { stood := { row := cqPlaysRow, standIns := [], harness := (true, "41ee7ec5545c6b8c624bdfacc700a2625497bf697d7121b968c8f83c3bc086b5"), looks := true }, kinds := [], alts := [], laidByText := true, laidKinds := [.data, .data, .data, .data, .sentinel, .sentinel, .pinned], laidTests := true, laidLooks := .later }
def CqPlaysCardSaid : Prop := Claim7.holds Tryz.pinned (.plain (OpenSpec.ofChange cqPlaysSpec)) cqPlaysCard

/-- THE TIED CARD OF 'reveillelaw08.TapeCrashes'. -/
def tapeCrashesCard : Claim7 := { stood := { row := tapeCrashesRow, standIns := [], harness := (true, "41ee7ec5545c6b8c624bdfacc700a2625497bf697d7121b968c8f83c3bc086b5"), looks := true }, kinds := [], alts := [], laidByText := true, laidKinds := [.data, .data, .data, .data, .sentinel, .sentinel, .pinned], laidTests := true, laidLooks := .later }
def TapeCrashesCardSaid : Prop := Claim7.holds Tryz.pinned (.plain (OpenSpec.ofChange tapeCrashesSpec)) tapeCrashesCard

/-- THE SECOND FORM's CARD OF 'reveillelaw10.CqPlays'. -/
def cqPlaysUptoCard : Claim7 := { stood := { row := cqPlaysUptoRow, standIns := [], harness := (true, "41ee7ec5545c6b8c624bdfacc700a2625497bf697d7121b968c8f83c3bc086b5"), looks := true }, kinds := [], alts := [], laidByText := true, laidKinds := [.data, .data, .data, .data, .sentinel, .sentinel, .pinned], laidTests := true, laidLooks := .later }
def CqPlaysUptoCardSaid : Prop := Claim7.holds Tryz.pinned (.plain (OpenSpec.upto cqPlaysSpec)) cqPlaysUptoCard

/-- THE SECOND FORM's CARD OF 'reveillelaw08.TapeCrashes'. -/
def tapeCrashesUptoCard : Claim7 := { stood := { row := tapeCrashesUptoRow, standIns := [], harness := (true, "41ee7ec5545c6b8c624bdfacc700a2625497bf697d7121b968c8f83c3bc086b5"), looks := true }, kinds := [], alts := [], laidByText := true, laidKinds := [.data, .data, .data, .data, .sentinel, .sentinel, .pinned], laidTests := true, laidLooks := .later }
def TapeCrashesUptoCardSaid : Prop := Claim7.holds Tryz.pinned (.plain (OpenSpec.upto tapeCrashesSpec)) tapeCrashesUptoCard
end Rows
end Go.Proofs.YtiahjipoofeliaaGreatDoor
