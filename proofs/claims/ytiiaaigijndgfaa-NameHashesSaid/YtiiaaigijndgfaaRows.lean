/-
  No cell of these rows narrows 'for every input' (looked for: loops, veiled, ifaces, maps, wideKeys, modest, calm, conditions, laid).
  DERIVED. THE GIVEN ROWS OF THIS SEAT. 5 by the template 'for every input the law returns true; each argument reads behind the call as it read before'; 0 by the template 'total and deterministic' (their statements: YtiiaaigijndgfaaTotals.lean).
  GIVEN WITH THE SEED: the statements are not yours to turn. If you find one false, say at which input.
  Laid BY PROGRAM, IN A SANDBOX (cutbox-rows.mjs): the forced cells as the released guide's own fill.sh prints them over the translation 8f38893b71121a6e… (all of the seat's roots in one cut). By AI agents, Wed Nov 11 2026. No macro, syntax, notation, axiom, sorry.
-/
import Derived.Test.YtiiaaigijndgfaaChecked
import GoSem.Claim
import GoSem.ClaimJoined
import GoSem.ClaimMapViews
import Derived.JoinedTies
import Derived.KernelRfl
namespace Go.Proofs.Ytiiaaigijndgfaa
/- THE CELL 'sum', in the pinned program and in every row, IS THE sha256 OF THE DUMP (.gsa) THAT YtiiaaigijndgfaaProg.lean LOADS. Nothing in Lean hashes anything: it is a label: what it is worth is what the hold of that sum in a sandbox is worth. -/
noncomputable def Try.pinned : Pinned := { name := "ytiiaaigijndgfaa", sum := "8f38893b71121a6ed4d5e80ee1bc5841ea3bfde9d16d4566df0d43ae6dc8129d", checked := Try.checked }
namespace Rows
def none {H : Type} : Left H := { results := [], args := [] }

/-- 'reveillelaw12.LevelLaps': WHATEVER THE INPUT: true; the input reads as it did. -/
def levelLapsSpec : ChangeSpec := { name := "levelLaps", fn := fun _ => fun
  | [d1, d2, d3] => { results := [.lit (.bool true)], args := [d1, d2, d3] }
  | _ => none }
def levelLapsRow : OpenClaim := { program := "ytiiaaigijndgfaa", sum := "8f38893b71121a6ed4d5e80ee1bc5841ea3bfde9d16d4566df0d43ae6dc8129d", func := "reveille/reveillelaw12.LevelLaps", spec := "levelLaps", apart := false }
def LevelLapsSaid : Prop := levelLapsRow.holds Try.pinned (OpenSpec.ofChange levelLapsSpec)

/-- ITS FALSE NEIGHBOUR: 'it returns false'. Refute it at one input. -/
def levelLapsWrong : ChangeSpec := { name := "levelLaps", fn := fun _ => fun
  | [d1, d2, d3] => { results := [.lit (.bool false)], args := [d1, d2, d3] }
  | _ => none }
def LevelLapsWrongFalsely : Prop := levelLapsRow.holds Try.pinned (OpenSpec.ofChange levelLapsWrong)

/-- 'reveillelaw03.NameOwn': WHATEVER THE INPUT: true; the input reads as it did. -/
def nameOwnSpec : ChangeSpec := { name := "nameOwn", fn := fun _ => fun
  | [d1, d2] => { results := [.lit (.bool true)], args := [d1, d2] }
  | _ => none }
def nameOwnRow : OpenClaim := { program := "ytiiaaigijndgfaa", sum := "8f38893b71121a6ed4d5e80ee1bc5841ea3bfde9d16d4566df0d43ae6dc8129d", func := "reveille/reveillelaw03.NameOwn", spec := "nameOwn", unfollowed := true, recurses := true, apart := false }
def NameOwnSaid : Prop := nameOwnRow.holds Try.pinned (OpenSpec.ofChange nameOwnSpec)

/-- ITS FALSE NEIGHBOUR: 'it returns false'. Refute it at one input. -/
def nameOwnWrong : ChangeSpec := { name := "nameOwn", fn := fun _ => fun
  | [d1, d2] => { results := [.lit (.bool false)], args := [d1, d2] }
  | _ => none }
def NameOwnWrongFalsely : Prop := nameOwnRow.holds Try.pinned (OpenSpec.ofChange nameOwnWrong)

/-- 'reveillelaw03.NameParts': WHATEVER THE INPUT: true; the input reads as it did. -/
def namePartsSpec : ChangeSpec := { name := "nameParts", fn := fun _ => fun
  | [d1, d2] => { results := [.lit (.bool true)], args := [d1, d2] }
  | _ => none }
def namePartsRow : OpenClaim := { program := "ytiiaaigijndgfaa", sum := "8f38893b71121a6ed4d5e80ee1bc5841ea3bfde9d16d4566df0d43ae6dc8129d", func := "reveille/reveillelaw03.NameParts", spec := "nameParts", unfollowed := true, recurses := true, apart := false }
def NamePartsSaid : Prop := namePartsRow.holds Try.pinned (OpenSpec.ofChange namePartsSpec)

/-- ITS FALSE NEIGHBOUR: 'it returns false'. Refute it at one input. -/
def namePartsWrong : ChangeSpec := { name := "nameParts", fn := fun _ => fun
  | [d1, d2] => { results := [.lit (.bool false)], args := [d1, d2] }
  | _ => none }
def NamePartsWrongFalsely : Prop := namePartsRow.holds Try.pinned (OpenSpec.ofChange namePartsWrong)

/-- 'reveillelaw03.NameTells': WHATEVER THE INPUT: true; the input reads as it did. -/
def nameTellsSpec : ChangeSpec := { name := "nameTells", fn := fun _ => fun
  | [d] => { results := [.lit (.bool true)], args := [d] }
  | _ => none }
def nameTellsRow : OpenClaim := { program := "ytiiaaigijndgfaa", sum := "8f38893b71121a6ed4d5e80ee1bc5841ea3bfde9d16d4566df0d43ae6dc8129d", func := "reveille/reveillelaw03.NameTells", spec := "nameTells", unfollowed := true, recurses := true, apart := false }
def NameTellsSaid : Prop := nameTellsRow.holds Try.pinned (OpenSpec.ofChange nameTellsSpec)

/-- ITS FALSE NEIGHBOUR: 'it returns false'. Refute it at one input. -/
def nameTellsWrong : ChangeSpec := { name := "nameTells", fn := fun _ => fun
  | [d] => { results := [.lit (.bool false)], args := [d] }
  | _ => none }
def NameTellsWrongFalsely : Prop := nameTellsRow.holds Try.pinned (OpenSpec.ofChange nameTellsWrong)

/-- 'reveillelaw03.NameHashes': WHATEVER THE INPUT: true; the input reads as it did. -/
def nameHashesSpec : ChangeSpec := { name := "nameHashes", fn := fun _ => fun
  | [d] => { results := [.lit (.bool true)], args := [d] }
  | _ => none }
def nameHashesRow : OpenClaim := { program := "ytiiaaigijndgfaa", sum := "8f38893b71121a6ed4d5e80ee1bc5841ea3bfde9d16d4566df0d43ae6dc8129d", func := "reveille/reveillelaw03.NameHashes", spec := "nameHashes", unfollowed := true, recurses := true, apart := false }
def NameHashesSaid : Prop := nameHashesRow.holds Try.pinned (OpenSpec.ofChange nameHashesSpec)

/-- ITS FALSE NEIGHBOUR: 'it returns false'. Refute it at one input. -/
def nameHashesWrong : ChangeSpec := { name := "nameHashes", fn := fun _ => fun
  | [d] => { results := [.lit (.bool false)], args := [d] }
  | _ => none }
def NameHashesWrongFalsely : Prop := nameHashesRow.holds Try.pinned (OpenSpec.ofChange nameHashesWrong)

/- THE SECOND FORM. 'bulk': how many values and letters a reading holds, each counted each time it is reached (what is shared counts as often as it is met; a slice's spare places count too). A statement '..UptoSaid' is the law's where the arguments, and the package variables that the reading takes, are together of bulk at most 1048576: NARROWER than '..Said'. Prove '..Said' where nothing that the law and all that it calls make is longer than what came in: it says more and counts as full. Else prove '..UptoSaid'. A law counts once. -/
mutual
def uptoBulk {H : Type} : DataW H → Nat
  | .lit (.string bytes) => bytes.length + 1
  | .lit _ => 1
  | .nil => 1
  | .ptr d => uptoBulk d + 1
  | .slice elems spare => uptoBulkAll elems + uptoBulkAll spare + 1
  | .agg parts => uptoBulkAll parts + 1
  | .iface _ d => uptoBulk d + 1
  | .map entries => uptoBulkEntries entries + 1
  | .held _ => 1
def uptoBulkAll {H : Type} : List (DataW H) → Nat
  | [] => 0
  | d :: r => uptoBulk d + uptoBulkAll r
def uptoBulkEntries {H : Type} : List (Lit × DataW H) → Nat
  | [] => 0
  | x :: r => uptoBulkEntry x + uptoBulkEntries r
def uptoBulkEntry {H : Type} : Lit × DataW H → Nat
  | (.string bytes, d) => bytes.length + uptoBulk d + 1
  | (_, d) => uptoBulk d + 1
 end
def uptoSmall : (H : Type) → List (DataW H) → Bool := fun _ ds => decide (uptoBulkAll ds ≤ 1048576)
def OpenSpec.upto (s : _root_.Go.ChangeSpec) : _root_.Go.OpenSpec := { _root_.Go.OpenSpec.ofChange s with cond := some uptoSmall }

/-- 'reveillelaw12.LevelLaps', WHERE WHAT IT READS IS OF BULK AT MOST 1048576: true; the input reads as it did. -/
def levelLapsUptoRow : OpenClaim := { program := "ytiiaaigijndgfaa", sum := "8f38893b71121a6ed4d5e80ee1bc5841ea3bfde9d16d4566df0d43ae6dc8129d", func := "reveille/reveillelaw12.LevelLaps", spec := "levelLaps", apart := false, narrowed := true }
def LevelLapsUptoSaid : Prop := levelLapsUptoRow.holds Try.pinned (OpenSpec.upto levelLapsSpec)

/-- 'reveillelaw03.NameOwn', WHERE WHAT IT READS IS OF BULK AT MOST 1048576: true; the input reads as it did. -/
def nameOwnUptoRow : OpenClaim := { program := "ytiiaaigijndgfaa", sum := "8f38893b71121a6ed4d5e80ee1bc5841ea3bfde9d16d4566df0d43ae6dc8129d", func := "reveille/reveillelaw03.NameOwn", spec := "nameOwn", unfollowed := true, recurses := true, apart := false, narrowed := true }
def NameOwnUptoSaid : Prop := nameOwnUptoRow.holds Try.pinned (OpenSpec.upto nameOwnSpec)

/-- 'reveillelaw03.NameParts', WHERE WHAT IT READS IS OF BULK AT MOST 1048576: true; the input reads as it did. -/
def namePartsUptoRow : OpenClaim := { program := "ytiiaaigijndgfaa", sum := "8f38893b71121a6ed4d5e80ee1bc5841ea3bfde9d16d4566df0d43ae6dc8129d", func := "reveille/reveillelaw03.NameParts", spec := "nameParts", unfollowed := true, recurses := true, apart := false, narrowed := true }
def NamePartsUptoSaid : Prop := namePartsUptoRow.holds Try.pinned (OpenSpec.upto namePartsSpec)

/-- 'reveillelaw03.NameTells', WHERE WHAT IT READS IS OF BULK AT MOST 1048576: true; the input reads as it did. -/
def nameTellsUptoRow : OpenClaim := { program := "ytiiaaigijndgfaa", sum := "8f38893b71121a6ed4d5e80ee1bc5841ea3bfde9d16d4566df0d43ae6dc8129d", func := "reveille/reveillelaw03.NameTells", spec := "nameTells", unfollowed := true, recurses := true, apart := false, narrowed := true }
def NameTellsUptoSaid : Prop := nameTellsUptoRow.holds Try.pinned (OpenSpec.upto nameTellsSpec)

/-- 'reveillelaw03.NameHashes', WHERE WHAT IT READS IS OF BULK AT MOST 1048576: true; the input reads as it did. -/
def nameHashesUptoRow : OpenClaim := { program := "ytiiaaigijndgfaa", sum := "8f38893b71121a6ed4d5e80ee1bc5841ea3bfde9d16d4566df0d43ae6dc8129d", func := "reveille/reveillelaw03.NameHashes", spec := "nameHashes", unfollowed := true, recurses := true, apart := false, narrowed := true }
def NameHashesUptoSaid : Prop := nameHashesUptoRow.holds Try.pinned (OpenSpec.upto nameHashesSpec)

end Rows
end Go.Proofs.Ytiiaaigijndgfaa
