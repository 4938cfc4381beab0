/-
  DERIVED. GIVEN WITH THE SEED: THE CARDS: each row of YtjpokaifbnkmhaaGreatDoorRows.lean that lists a variable, with what it lists TIED to the program's text (the seventh form; the later family's looks); each row that meets fmt, with fmt's text TOLD by the authors' own Lean function (tested against real Go, not proved from fmt's source: count such statements apart). THE CARD IS WHAT COUNTS. Prove the row's statement (the work); the ties are given (YtjpokaifbnkmhaaGreatDoorTie.lean); close each card by the builder's one call (the guide's Derived/Test/ToyasCard.lean, 'card_holds'). Laid BY PROGRAM, IN A SANDBOX (cutbox-door.mjs). By AI agents, Wed Nov 11 2026. No macro, syntax, notation, axiom, sorry.
-/
import Derived.Test.YtjpokaifbnkmhaaGreatDoorRows
import GoSem.ClaimSeven
namespace Go.Proofs.YtjpokaifbnkmhaaGreatDoor
namespace Rows

/-- THE TIED CARD OF 'reveillelaw10.CqPlays'. -/
def cqPlaysCard : Claim7 := { stood := { row := cqPlaysRow, standIns := [], harness := (true, "8fb74963cffd25ed76527aee20fff20d2d03f14561f8fd0bc25b24c9562f6b93"), looks := true }, kinds := [], alts := [], laidByText := true, laidKinds := [.data, .data, .data, .data, .sentinel, .sentinel, .pinned], laidTests := true, laidLooks := .later }
def CqPlaysCardSaid : Prop := Claim7.holds Tryz.pinned (.plain (OpenSpec.ofChange cqPlaysSpec)) cqPlaysCard

/-- THE TIED CARD OF 'reveillelaw08.TapeIds'. -/
def tapeIdsCard : Claim7 := { stood := { row := tapeIdsRow, standIns := [], harness := (true, "8fb74963cffd25ed76527aee20fff20d2d03f14561f8fd0bc25b24c9562f6b93"), looks := true }, kinds := [], alts := [], laidByText := true, laidKinds := [.data, .data, .data, .data, .sentinel, .sentinel, .pinned], laidTests := true, laidLooks := .later }
def TapeIdsCardSaid : Prop := Claim7.holds Tryz.pinned (.plain (OpenSpec.ofChange tapeIdsSpec)) tapeIdsCard

/-- THE TIED CARD OF 'reveillelaw08.TapeDrops'. -/
def tapeDropsCard : Claim7 := { stood := { row := tapeDropsRow, standIns := [], harness := (true, "8fb74963cffd25ed76527aee20fff20d2d03f14561f8fd0bc25b24c9562f6b93"), looks := true }, kinds := [], alts := [], laidByText := true, laidKinds := [.data, .data, .data, .data, .sentinel, .sentinel, .pinned], laidTests := true, laidLooks := .later }
def TapeDropsCardSaid : Prop := Claim7.holds Tryz.pinned (.plain (OpenSpec.ofChange tapeDropsSpec)) tapeDropsCard

/-- THE TIED CARD OF 'reveillelaw08.TapeCrashes'. -/
def tapeCrashesCard : Claim7 := { stood := { row := tapeCrashesRow, standIns := [], harness := (true, "8fb74963cffd25ed76527aee20fff20d2d03f14561f8fd0bc25b24c9562f6b93"), looks := true }, kinds := [], alts := [], laidByText := true, laidKinds := [.data, .data, .data, .data, .sentinel, .sentinel, .pinned], laidTests := true, laidLooks := .later }
def TapeCrashesCardSaid : Prop := Claim7.holds Tryz.pinned (.plain (OpenSpec.ofChange tapeCrashesSpec)) tapeCrashesCard

/-- THE TIED CARD OF 'reveillelaw08.TapePlays'. -/
def tapePlaysCard : Claim7 := { stood := { row := tapePlaysRow, standIns := [], harness := (true, "8fb74963cffd25ed76527aee20fff20d2d03f14561f8fd0bc25b24c9562f6b93"), looks := true }, kinds := [], alts := [], laidByText := true, laidKinds := [.data, .data, .data, .data, .sentinel, .sentinel, .pinned], laidTests := true, laidLooks := .later }
def TapePlaysCardSaid : Prop := Claim7.holds Tryz.pinned (.plain (OpenSpec.ofChange tapePlaysSpec)) tapePlaysCard

/-- THE TIED CARD OF 'reveillelaw08.TapeNone'. -/
def tapeNoneCard : Claim7 := { stood := { row := tapeNoneRow, standIns := [], harness := (true, "8fb74963cffd25ed76527aee20fff20d2d03f14561f8fd0bc25b24c9562f6b93"), looks := true }, kinds := [], alts := [], laidByText := true, laidKinds := [.data, .data, .data, .data, .sentinel, .sentinel, .pinned], laidTests := true, laidLooks := .later }
def TapeNoneCardSaid : Prop := Claim7.holds Tryz.pinned (.plain (OpenSpec.ofChange tapeNoneSpec)) tapeNoneCard

/-- THE SECOND FORM's CARD OF 'reveillelaw10.CqPlays'. -/
def cqPlaysUptoCard : Claim7 := { stood := { row := cqPlaysUptoRow, standIns := [], harness := (true, "8fb74963cffd25ed76527aee20fff20d2d03f14561f8fd0bc25b24c9562f6b93"), looks := true }, kinds := [], alts := [], laidByText := true, laidKinds := [.data, .data, .data, .data, .sentinel, .sentinel, .pinned], laidTests := true, laidLooks := .later }
def CqPlaysUptoCardSaid : Prop := Claim7.holds Tryz.pinned (.plain (OpenSpec.upto cqPlaysSpec)) cqPlaysUptoCard

/-- THE SECOND FORM's CARD OF 'reveillelaw08.TapeIds'. -/
def tapeIdsUptoCard : Claim7 := { stood := { row := tapeIdsUptoRow, standIns := [], harness := (true, "8fb74963cffd25ed76527aee20fff20d2d03f14561f8fd0bc25b24c9562f6b93"), looks := true }, kinds := [], alts := [], laidByText := true, laidKinds := [.data, .data, .data, .data, .sentinel, .sentinel, .pinned], laidTests := true, laidLooks := .later }
def TapeIdsUptoCardSaid : Prop := Claim7.holds Tryz.pinned (.plain (OpenSpec.upto tapeIdsSpec)) tapeIdsUptoCard

/-- THE SECOND FORM's CARD OF 'reveillelaw08.TapeDrops'. -/
def tapeDropsUptoCard : Claim7 := { stood := { row := tapeDropsUptoRow, standIns := [], harness := (true, "8fb74963cffd25ed76527aee20fff20d2d03f14561f8fd0bc25b24c9562f6b93"), looks := true }, kinds := [], alts := [], laidByText := true, laidKinds := [.data, .data, .data, .data, .sentinel, .sentinel, .pinned], laidTests := true, laidLooks := .later }
def TapeDropsUptoCardSaid : Prop := Claim7.holds Tryz.pinned (.plain (OpenSpec.upto tapeDropsSpec)) tapeDropsUptoCard

/-- THE SECOND FORM's CARD OF 'reveillelaw08.TapeCrashes'. -/
def tapeCrashesUptoCard : Claim7 := { stood := { row := tapeCrashesUptoRow, standIns := [], harness := (true, "8fb74963cffd25ed76527aee20fff20d2d03f14561f8fd0bc25b24c9562f6b93"), looks := true }, kinds := [], alts := [], laidByText := true, laidKinds := [.data, .data, .data, .data, .sentinel, .sentinel, .pinned], laidTests := true, laidLooks := .later }
def TapeCrashesUptoCardSaid : Prop := Claim7.holds Tryz.pinned (.plain (OpenSpec.upto tapeCrashesSpec)) tapeCrashesUptoCard

/-- THE SECOND FORM's CARD OF 'reveillelaw08.TapePlays'. -/
def tapePlaysUptoCard : Claim7 := { stood := { row := tapePlaysUptoRow, standIns := [], harness := (true, "8fb74963cffd25ed76527aee20fff20d2d03f14561f8fd0bc25b24c9562f6b93"), looks := true }, kinds := [], alts := [], laidByText := true, laidKinds := [.data, .data, .data, .data, .sentinel, .sentinel, .pinned], laidTests := true, laidLooks := .later }
def TapePlaysUptoCardSaid : Prop := Claim7.holds Tryz.pinned (.plain (OpenSpec.upto tapePlaysSpec)) tapePlaysUptoCard

/-- THE SECOND FORM's CARD OF 'reveillelaw08.TapeNone'. -/
def tapeNoneUptoCard : Claim7 := { stood := { row := tapeNoneUptoRow, standIns := [], harness := (true, "8fb74963cffd25ed76527aee20fff20d2d03f14561f8fd0bc25b24c9562f6b93"), looks := true }, kinds := [], alts := [], laidByText := true, laidKinds := [.data, .data, .data, .data, .sentinel, .sentinel, .pinned], laidTests := true, laidLooks := .later }
def TapeNoneUptoCardSaid : Prop := Claim7.holds Tryz.pinned (.plain (OpenSpec.upto tapeNoneSpec)) tapeNoneUptoCard
end Rows
end Go.Proofs.YtjpokaifbnkmhaaGreatDoor
