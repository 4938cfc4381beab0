/-
  No cell of these rows narrows 'for every input' (looked for: loops, veiled, ifaces, maps, wideKeys, modest, calm, conditions, laid).
  DERIVED. THE GIVEN ROWS OF THIS SEAT. 6 by the template 'for every input the law returns true; each argument reads behind the call as it read before'; 0 by the template 'total and deterministic' (their statements: YtjfiglkclpddaaaTotals.lean).
  GIVEN WITH THE SEED: the statements are not yours to turn. If you find one false, say at which input.
  Laid BY PROGRAM, IN A SANDBOX (cutbox-rows.mjs): the forced cells as the released guide's own fill.sh prints them over the translation 8464e47b7a9d803e… (all of the seat's roots in one cut). By AI agents, Wed Nov 11 2026. No macro, syntax, notation, axiom, sorry.
-/
import Derived.Test.YtjfiglkclpddaaaChecked
import GoSem.Claim
import GoSem.ClaimJoined
import GoSem.ClaimMapViews
import Derived.JoinedTies
import Derived.KernelRfl
namespace Go.Proofs.Ytjfiglkclpddaaa
/- THE CELL 'sum', in the pinned program and in every row, IS THE sha256 OF THE DUMP (.gsa) THAT YtjfiglkclpddaaaProg.lean LOADS. Nothing in Lean hashes anything: it is a label: what it is worth is what the hold of that sum in a sandbox is worth. -/
noncomputable def Try.pinned : Pinned := { name := "ytjfiglkclpddaaa", sum := "8464e47b7a9d803e9725d66f0c567a16271b809af2842a481905689c6b7ef82f", checked := Try.checked }
namespace Rows
def none {H : Type} : Left H := { results := [], args := [] }

/-- 'reveillelaw11.KeyxMost': WHATEVER THE INPUT: true; the input reads as it did. -/
def keyxMostSpec : ChangeSpec := { name := "keyxMost", fn := fun _ => fun
  | [d1, d2, d3] => { results := [.lit (.bool true)], args := [d1, d2, d3] }
  | _ => none }
def keyxMostRow : OpenClaim := { program := "ytjfiglkclpddaaa", sum := "8464e47b7a9d803e9725d66f0c567a16271b809af2842a481905689c6b7ef82f", func := "reveille/reveillelaw11.KeyxMost", spec := "keyxMost", inPlace := ["internal/abi.NoEscape"], unfollowed := true, recurses := true, apart := false }
def KeyxMostSaid : Prop := keyxMostRow.holds Try.pinned (OpenSpec.ofChange keyxMostSpec)

/-- ITS FALSE NEIGHBOUR: 'it returns false'. Refute it at one input. -/
def keyxMostWrong : ChangeSpec := { name := "keyxMost", fn := fun _ => fun
  | [d1, d2, d3] => { results := [.lit (.bool false)], args := [d1, d2, d3] }
  | _ => none }
def KeyxMostWrongFalsely : Prop := keyxMostRow.holds Try.pinned (OpenSpec.ofChange keyxMostWrong)

/-- 'reveillelaw11.KeyxFinds': WHATEVER THE INPUT: true; the input reads as it did. -/
def keyxFindsSpec : ChangeSpec := { name := "keyxFinds", fn := fun _ => fun
  | [d1, d2, d3] => { results := [.lit (.bool true)], args := [d1, d2, d3] }
  | _ => none }
def keyxFindsRow : OpenClaim := { program := "ytjfiglkclpddaaa", sum := "8464e47b7a9d803e9725d66f0c567a16271b809af2842a481905689c6b7ef82f", func := "reveille/reveillelaw11.KeyxFinds", spec := "keyxFinds", inPlace := ["internal/abi.NoEscape"], unfollowed := true, recurses := true, apart := false }
def KeyxFindsSaid : Prop := keyxFindsRow.holds Try.pinned (OpenSpec.ofChange keyxFindsSpec)

/-- ITS FALSE NEIGHBOUR: 'it returns false'. Refute it at one input. -/
def keyxFindsWrong : ChangeSpec := { name := "keyxFinds", fn := fun _ => fun
  | [d1, d2, d3] => { results := [.lit (.bool false)], args := [d1, d2, d3] }
  | _ => none }
def KeyxFindsWrongFalsely : Prop := keyxFindsRow.holds Try.pinned (OpenSpec.ofChange keyxFindsWrong)

/-- 'reveillelaw11.KeyxChains': WHATEVER THE INPUT: true; the input reads as it did. -/
def keyxChainsSpec : ChangeSpec := { name := "keyxChains", fn := fun _ => fun
  | [d] => { results := [.lit (.bool true)], args := [d] }
  | _ => none }
def keyxChainsRow : OpenClaim := { program := "ytjfiglkclpddaaa", sum := "8464e47b7a9d803e9725d66f0c567a16271b809af2842a481905689c6b7ef82f", func := "reveille/reveillelaw11.KeyxChains", spec := "keyxChains", inPlace := ["internal/abi.NoEscape"], unfollowed := true, recurses := true, apart := false }
def KeyxChainsSaid : Prop := keyxChainsRow.holds Try.pinned (OpenSpec.ofChange keyxChainsSpec)

/-- ITS FALSE NEIGHBOUR: 'it returns false'. Refute it at one input. -/
def keyxChainsWrong : ChangeSpec := { name := "keyxChains", fn := fun _ => fun
  | [d] => { results := [.lit (.bool false)], args := [d] }
  | _ => none }
def KeyxChainsWrongFalsely : Prop := keyxChainsRow.holds Try.pinned (OpenSpec.ofChange keyxChainsWrong)

/-- 'reveillelaw16.TlogFar': WHATEVER THE INPUT: true; the input reads as it did. -/
def tlogFarSpec : ChangeSpec := { name := "tlogFar", fn := fun _ => fun
  | [d1, d2] => { results := [.lit (.bool true)], args := [d1, d2] }
  | _ => none }
def tlogFarRow : OpenClaim := { program := "ytjfiglkclpddaaa", sum := "8464e47b7a9d803e9725d66f0c567a16271b809af2842a481905689c6b7ef82f", func := "reveille/reveillelaw16.TlogFar", spec := "tlogFar", inPlace := ["internal/abi.NoEscape"], unfollowed := true, recurses := true, apart := false }
def TlogFarSaid : Prop := tlogFarRow.holds Try.pinned (OpenSpec.ofChange tlogFarSpec)

/-- ITS FALSE NEIGHBOUR: 'it returns false'. Refute it at one input. -/
def tlogFarWrong : ChangeSpec := { name := "tlogFar", fn := fun _ => fun
  | [d1, d2] => { results := [.lit (.bool false)], args := [d1, d2] }
  | _ => none }
def TlogFarWrongFalsely : Prop := tlogFarRow.holds Try.pinned (OpenSpec.ofChange tlogFarWrong)

/-- 'reveillelaw16.TlogTells': WHATEVER THE INPUT: true; the input reads as it did. -/
def tlogTellsSpec : ChangeSpec := { name := "tlogTells", fn := fun _ => fun
  | [d1, d2] => { results := [.lit (.bool true)], args := [d1, d2] }
  | _ => none }
def tlogTellsRow : OpenClaim := { program := "ytjfiglkclpddaaa", sum := "8464e47b7a9d803e9725d66f0c567a16271b809af2842a481905689c6b7ef82f", func := "reveille/reveillelaw16.TlogTells", spec := "tlogTells", inPlace := ["internal/abi.NoEscape"], unfollowed := true, recurses := true, apart := false }
def TlogTellsSaid : Prop := tlogTellsRow.holds Try.pinned (OpenSpec.ofChange tlogTellsSpec)

/-- ITS FALSE NEIGHBOUR: 'it returns false'. Refute it at one input. -/
def tlogTellsWrong : ChangeSpec := { name := "tlogTells", fn := fun _ => fun
  | [d1, d2] => { results := [.lit (.bool false)], args := [d1, d2] }
  | _ => none }
def TlogTellsWrongFalsely : Prop := tlogTellsRow.holds Try.pinned (OpenSpec.ofChange tlogTellsWrong)

/-- 'reveillelaw16.TlogOrder': WHATEVER THE INPUT: true; the input reads as it did. -/
def tlogOrderSpec : ChangeSpec := { name := "tlogOrder", fn := fun _ => fun
  | [d] => { results := [.lit (.bool true)], args := [d] }
  | _ => none }
def tlogOrderRow : OpenClaim := { program := "ytjfiglkclpddaaa", sum := "8464e47b7a9d803e9725d66f0c567a16271b809af2842a481905689c6b7ef82f", func := "reveille/reveillelaw16.TlogOrder", spec := "tlogOrder", inPlace := ["internal/abi.NoEscape"], unfollowed := true, recurses := true, apart := false }
def TlogOrderSaid : Prop := tlogOrderRow.holds Try.pinned (OpenSpec.ofChange tlogOrderSpec)

/-- ITS FALSE NEIGHBOUR: 'it returns false'. Refute it at one input. -/
def tlogOrderWrong : ChangeSpec := { name := "tlogOrder", fn := fun _ => fun
  | [d] => { results := [.lit (.bool false)], args := [d] }
  | _ => none }
def TlogOrderWrongFalsely : Prop := tlogOrderRow.holds Try.pinned (OpenSpec.ofChange tlogOrderWrong)

/- THE SECOND FORM. 'bulk': how many values and letters a reading holds, each counted each time it is reached (what is shared counts as often as it is met; a slice's spare places count too). A statement '..UptoSaid' is the law's where the arguments, and the package variables that the reading takes, are together of bulk at most 1048576: NARROWER than '..Said'. Prove '..Said' where nothing that the law and all that it calls make is longer than what came in: it says more and counts as full. Else prove '..UptoSaid'. A law counts once. -/
mutual
def uptoBulk {H : Type} : DataW H → Nat
  | .lit (.string bytes) => bytes.length + 1
  | .lit _ => 1
  | .nil => 1
  | .ptr d => uptoBulk d + 1
  | .slice elems spare => uptoBulkAll elems + uptoBulkAll spare + 1
  | .agg parts => uptoBulkAll parts + 1
  | .iface _ d => uptoBulk d + 1
  | .map entries => uptoBulkEntries entries + 1
  | .held _ => 1
def uptoBulkAll {H : Type} : List (DataW H) → Nat
  | [] => 0
  | d :: r => uptoBulk d + uptoBulkAll r
def uptoBulkEntries {H : Type} : List (Lit × DataW H) → Nat
  | [] => 0
  | x :: r => uptoBulkEntry x + uptoBulkEntries r
def uptoBulkEntry {H : Type} : Lit × DataW H → Nat
  | (.string bytes, d) => bytes.length + uptoBulk d + 1
  | (_, d) => uptoBulk d + 1
 end
def uptoSmall : (H : Type) → List (DataW H) → Bool := fun _ ds => decide (uptoBulkAll ds ≤ 1048576)
def OpenSpec.upto (s : _root_.Go.ChangeSpec) : _root_.Go.OpenSpec := { _root_.Go.OpenSpec.ofChange s with cond := some uptoSmall }

/-- 'reveillelaw11.KeyxMost', WHERE WHAT IT READS IS OF BULK AT MOST 1048576: true; the input reads as it did. -/
def keyxMostUptoRow : OpenClaim := { program := "ytjfiglkclpddaaa", sum := "8464e47b7a9d803e9725d66f0c567a16271b809af2842a481905689c6b7ef82f", func := "reveille/reveillelaw11.KeyxMost", spec := "keyxMost", inPlace := ["internal/abi.NoEscape"], unfollowed := true, recurses := true, apart := false, narrowed := true }
def KeyxMostUptoSaid : Prop := keyxMostUptoRow.holds Try.pinned (OpenSpec.upto keyxMostSpec)

/-- 'reveillelaw11.KeyxFinds', WHERE WHAT IT READS IS OF BULK AT MOST 1048576: true; the input reads as it did. -/
def keyxFindsUptoRow : OpenClaim := { program := "ytjfiglkclpddaaa", sum := "8464e47b7a9d803e9725d66f0c567a16271b809af2842a481905689c6b7ef82f", func := "reveille/reveillelaw11.KeyxFinds", spec := "keyxFinds", inPlace := ["internal/abi.NoEscape"], unfollowed := true, recurses := true, apart := false, narrowed := true }
def KeyxFindsUptoSaid : Prop := keyxFindsUptoRow.holds Try.pinned (OpenSpec.upto keyxFindsSpec)

/-- 'reveillelaw11.KeyxChains', WHERE WHAT IT READS IS OF BULK AT MOST 1048576: true; the input reads as it did. -/
def keyxChainsUptoRow : OpenClaim := { program := "ytjfiglkclpddaaa", sum := "8464e47b7a9d803e9725d66f0c567a16271b809af2842a481905689c6b7ef82f", func := "reveille/reveillelaw11.KeyxChains", spec := "keyxChains", inPlace := ["internal/abi.NoEscape"], unfollowed := true, recurses := true, apart := false, narrowed := true }
def KeyxChainsUptoSaid : Prop := keyxChainsUptoRow.holds Try.pinned (OpenSpec.upto keyxChainsSpec)

/-- 'reveillelaw16.TlogFar', WHERE WHAT IT READS IS OF BULK AT MOST 1048576: true; the input reads as it did. -/
def tlogFarUptoRow : OpenClaim := { program := "ytjfiglkclpddaaa", sum := "8464e47b7a9d803e9725d66f0c567a16271b809af2842a481905689c6b7ef82f", func := "reveille/reveillelaw16.TlogFar", spec := "tlogFar", inPlace := ["internal/abi.NoEscape"], unfollowed := true, recurses := true, apart := false, narrowed := true }
def TlogFarUptoSaid : Prop := tlogFarUptoRow.holds Try.pinned (OpenSpec.upto tlogFarSpec)

/-- 'reveillelaw16.TlogTells', WHERE WHAT IT READS IS OF BULK AT MOST 1048576: true; the input reads as it did. -/
def tlogTellsUptoRow : OpenClaim := { program := "ytjfiglkclpddaaa", sum := "8464e47b7a9d803e9725d66f0c567a16271b809af2842a481905689c6b7ef82f", func := "reveille/reveillelaw16.TlogTells", spec := "tlogTells", inPlace := ["internal/abi.NoEscape"], unfollowed := true, recurses := true, apart := false, narrowed := true }
def TlogTellsUptoSaid : Prop := tlogTellsUptoRow.holds Try.pinned (OpenSpec.upto tlogTellsSpec)

/-- 'reveillelaw16.TlogOrder', WHERE WHAT IT READS IS OF BULK AT MOST 1048576: true; the input reads as it did. -/
def tlogOrderUptoRow : OpenClaim := { program := "ytjfiglkclpddaaa", sum := "8464e47b7a9d803e9725d66f0c567a16271b809af2842a481905689c6b7ef82f", func := "reveille/reveillelaw16.TlogOrder", spec := "tlogOrder", inPlace := ["internal/abi.NoEscape"], unfollowed := true, recurses := true, apart := false, narrowed := true }
def TlogOrderUptoSaid : Prop := tlogOrderUptoRow.holds Try.pinned (OpenSpec.upto tlogOrderSpec)

end Rows
end Go.Proofs.Ytjfiglkclpddaaa
