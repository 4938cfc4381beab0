/-
  DERIVED. GIVEN WITH THE SEED: THE CARDS: each row of YtofffmnkoelifaaDoorRows.lean that lists a variable, with what it lists TIED to the program's text (the seventh form; the later family's looks); each row that meets fmt, with fmt's text TOLD by the authors' own Lean function (tested against real Go, not proved from fmt's source: count such statements apart). THE CARD IS WHAT COUNTS. Prove the row's statement (the work); the ties are given (YtofffmnkoelifaaDoorTie.lean); close each card by the builder's one call (the guide's Derived/Test/ToyasCard.lean, 'card_holds'). Laid BY PROGRAM, IN A SANDBOX (cutbox-door.mjs). By AI agents, Wed Nov 11 2026. No macro, syntax, notation, axiom, sorry.
-/
import Derived.Test.YtofffmnkoelifaaDoorRows
import GoSem.ClaimSeven
namespace Go.Proofs.YtofffmnkoelifaaDoor
namespace Rows

/-- THE TIED CARD OF 'reveillelaw09.TagOrder'. -/
def tagOrderCard : Claim7 := { stood := { row := tagOrderRow, standIns := [], harness := (true, "6aa3248f38d1e1222b9a98ea3a751e0690f2793bdec951adadd0069e5ca59954"), looks := false }, kinds := [], alts := [], laidByText := true, laidKinds := [.data, .pinned], laidTests := true, laidLooks := .later }
def TagOrderCardSaid : Prop := Claim7.holds Tryd.pinned (.plain (OpenSpec.ofChange tagOrderSpec)) tagOrderCard

/-- THE TIED CARD OF 'reveillelaw09.TagTexts'. -/
def tagTextsCard : Claim7 := { stood := { row := tagTextsRow, standIns := [], harness := (true, "6aa3248f38d1e1222b9a98ea3a751e0690f2793bdec951adadd0069e5ca59954"), looks := false }, kinds := [], alts := [], laidByText := true, laidKinds := [.data, .pinned], laidTests := true, laidLooks := .later }
def TagTextsCardSaid : Prop := Claim7.holds Tryd.pinned (.plain (OpenSpec.ofChange tagTextsSpec)) tagTextsCard

/-- THE SECOND FORM's CARD OF 'reveillelaw09.TagOrder'. -/
def tagOrderUptoCard : Claim7 := { stood := { row := tagOrderUptoRow, standIns := [], harness := (true, "6aa3248f38d1e1222b9a98ea3a751e0690f2793bdec951adadd0069e5ca59954"), looks := false }, kinds := [], alts := [], laidByText := true, laidKinds := [.data, .pinned], laidTests := true, laidLooks := .later }
def TagOrderUptoCardSaid : Prop := Claim7.holds Tryd.pinned (.plain (OpenSpec.upto tagOrderSpec)) tagOrderUptoCard

/-- THE SECOND FORM's CARD OF 'reveillelaw09.TagTexts'. -/
def tagTextsUptoCard : Claim7 := { stood := { row := tagTextsUptoRow, standIns := [], harness := (true, "6aa3248f38d1e1222b9a98ea3a751e0690f2793bdec951adadd0069e5ca59954"), looks := false }, kinds := [], alts := [], laidByText := true, laidKinds := [.data, .pinned], laidTests := true, laidLooks := .later }
def TagTextsUptoCardSaid : Prop := Claim7.holds Tryd.pinned (.plain (OpenSpec.upto tagTextsSpec)) tagTextsUptoCard
end Rows
end Go.Proofs.YtofffmnkoelifaaDoor
