/-
  No cell of these rows narrows 'for every input' (looked for: loops, veiled, ifaces, maps, wideKeys, modest, calm, conditions, laid).
  DERIVED. THE GIVEN ROWS OF THIS SEAT. 3 by the template 'for every input the law returns true; each argument reads behind the call as it read before'; 0 by the template 'total and deterministic' (their statements: YtccbfekajbnehaaTotals.lean).
  GIVEN WITH THE SEED: the statements are not yours to turn. If you find one false, say at which input.
  Laid BY PROGRAM, IN A SANDBOX (cutbox-rows.mjs): the forced cells as the released guide's own fill.sh prints them over the translation 42929e35b03e6930… (all of the seat's roots in one cut). By AI agents, Wed Nov 11 2026. No macro, syntax, notation, axiom, sorry.
-/
import Derived.Test.YtccbfekajbnehaaChecked
import GoSem.Claim
import GoSem.ClaimJoined
import GoSem.ClaimMapViews
import Derived.JoinedTies
import Derived.KernelRfl
namespace Go.Proofs.Ytccbfekajbnehaa
/- THE CELL 'sum', in the pinned program and in every row, IS THE sha256 OF THE DUMP (.gsa) THAT YtccbfekajbnehaaProg.lean LOADS. Nothing in Lean hashes anything: it is a label: what it is worth is what the hold of that sum in a sandbox is worth. -/
noncomputable def Try.pinned : Pinned := { name := "ytccbfekajbnehaa", sum := "42929e35b03e69305e3278e0106af5074a0a7d192974242a237a3b2785855266", checked := Try.checked }
namespace Rows
def none {H : Type} : Left H := { results := [], args := [] }

/-- 'reveillelaw16.TlogFar': WHATEVER THE INPUT: true; the input reads as it did. -/
def tlogFarSpec : ChangeSpec := { name := "tlogFar", fn := fun _ => fun
  | [d1, d2] => { results := [.lit (.bool true)], args := [d1, d2] }
  | _ => none }
def tlogFarRow : OpenClaim := { program := "ytccbfekajbnehaa", sum := "42929e35b03e69305e3278e0106af5074a0a7d192974242a237a3b2785855266", func := "reveille/reveillelaw16.TlogFar", spec := "tlogFar", inPlace := ["internal/abi.NoEscape"], unfollowed := true, recurses := true, apart := false }
def TlogFarSaid : Prop := tlogFarRow.holds Try.pinned (OpenSpec.ofChange tlogFarSpec)

/-- ITS FALSE NEIGHBOUR: 'it returns false'. Refute it at one input. -/
def tlogFarWrong : ChangeSpec := { name := "tlogFar", fn := fun _ => fun
  | [d1, d2] => { results := [.lit (.bool false)], args := [d1, d2] }
  | _ => none }
def TlogFarWrongFalsely : Prop := tlogFarRow.holds Try.pinned (OpenSpec.ofChange tlogFarWrong)

/-- 'reveillelaw16.TlogTells': WHATEVER THE INPUT: true; the input reads as it did. -/
def tlogTellsSpec : ChangeSpec := { name := "tlogTells", fn := fun _ => fun
  | [d1, d2] => { results := [.lit (.bool true)], args := [d1, d2] }
  | _ => none }
def tlogTellsRow : OpenClaim := { program := "ytccbfekajbnehaa", sum := "42929e35b03e69305e3278e0106af5074a0a7d192974242a237a3b2785855266", func := "reveille/reveillelaw16.TlogTells", spec := "tlogTells", inPlace := ["internal/abi.NoEscape"], unfollowed := true, recurses := true, apart := false }
def TlogTellsSaid : Prop := tlogTellsRow.holds Try.pinned (OpenSpec.ofChange tlogTellsSpec)

/-- ITS FALSE NEIGHBOUR: 'it returns false'. Refute it at one input. -/
def tlogTellsWrong : ChangeSpec := { name := "tlogTells", fn := fun _ => fun
  | [d1, d2] => { results := [.lit (.bool false)], args := [d1, d2] }
  | _ => none }
def TlogTellsWrongFalsely : Prop := tlogTellsRow.holds Try.pinned (OpenSpec.ofChange tlogTellsWrong)

/-- 'reveillelaw16.TlogOrder': WHATEVER THE INPUT: true; the input reads as it did. -/
def tlogOrderSpec : ChangeSpec := { name := "tlogOrder", fn := fun _ => fun
  | [d] => { results := [.lit (.bool true)], args := [d] }
  | _ => none }
def tlogOrderRow : OpenClaim := { program := "ytccbfekajbnehaa", sum := "42929e35b03e69305e3278e0106af5074a0a7d192974242a237a3b2785855266", func := "reveille/reveillelaw16.TlogOrder", spec := "tlogOrder", inPlace := ["internal/abi.NoEscape"], unfollowed := true, recurses := true, apart := false }
def TlogOrderSaid : Prop := tlogOrderRow.holds Try.pinned (OpenSpec.ofChange tlogOrderSpec)

/-- ITS FALSE NEIGHBOUR: 'it returns false'. Refute it at one input. -/
def tlogOrderWrong : ChangeSpec := { name := "tlogOrder", fn := fun _ => fun
  | [d] => { results := [.lit (.bool false)], args := [d] }
  | _ => none }
def TlogOrderWrongFalsely : Prop := tlogOrderRow.holds Try.pinned (OpenSpec.ofChange tlogOrderWrong)

/- THE SECOND FORM. 'bulk': how many values and letters a reading holds, each counted each time it is reached (what is shared counts as often as it is met; a slice's spare places count too). A statement '..UptoSaid' is the law's where the arguments, and the package variables that the reading takes, are together of bulk at most 1048576: NARROWER than '..Said'. Prove '..Said' where nothing that the law and all that it calls make is longer than what came in: it says more and counts as full. Else prove '..UptoSaid'. A law counts once. -/
mutual
def uptoBulk {H : Type} : DataW H → Nat
  | .lit (.string bytes) => bytes.length + 1
  | .lit _ => 1
  | .nil => 1
  | .ptr d => uptoBulk d + 1
  | .slice elems spare => uptoBulkAll elems + uptoBulkAll spare + 1
  | .agg parts => uptoBulkAll parts + 1
  | .iface _ d => uptoBulk d + 1
  | .map entries => uptoBulkEntries entries + 1
  | .held _ => 1
def uptoBulkAll {H : Type} : List (DataW H) → Nat
  | [] => 0
  | d :: r => uptoBulk d + uptoBulkAll r
def uptoBulkEntries {H : Type} : List (Lit × DataW H) → Nat
  | [] => 0
  | x :: r => uptoBulkEntry x + uptoBulkEntries r
def uptoBulkEntry {H : Type} : Lit × DataW H → Nat
  | (.string bytes, d) => bytes.length + uptoBulk d + 1
  | (_, d) => uptoBulk d + 1
 end
def uptoSmall : (H : Type) → List (DataW H) → Bool := fun _ ds => decide (uptoBulkAll ds ≤ 1048576)
def OpenSpec.upto (s : _root_.Go.ChangeSpec) : _root_.Go.OpenSpec := { _root_.Go.OpenSpec.ofChange s with cond := some uptoSmall }

/-- 'reveillelaw16.TlogFar', WHERE WHAT IT READS IS OF BULK AT MOST 1048576: true; the input reads as it did. -/
def tlogFarUptoRow : OpenClaim := { program := "ytccbfekajbnehaa", sum := "42929e35b03e69305e3278e0106af5074a0a7d192974242a237a3b2785855266", func := "reveille/reveillelaw16.TlogFar", spec := "tlogFar", inPlace := ["internal/abi.NoEscape"], unfollowed := true, recurses := true, apart := false, narrowed := true }
def TlogFarUptoSaid : Prop := tlogFarUptoRow.holds Try.pinned (OpenSpec.upto tlogFarSpec)

/-- 'reveillelaw16.TlogTells', WHERE WHAT IT READS IS OF BULK AT MOST 1048576: true; the input reads as it did. -/
def tlogTellsUptoRow : OpenClaim := { program := "ytccbfekajbnehaa", sum := "42929e35b03e69305e3278e0106af5074a0a7d192974242a237a3b2785855266", func := "reveille/reveillelaw16.TlogTells", spec := "tlogTells", inPlace := ["internal/abi.NoEscape"], unfollowed := true, recurses := true, apart := false, narrowed := true }
def TlogTellsUptoSaid : Prop := tlogTellsUptoRow.holds Try.pinned (OpenSpec.upto tlogTellsSpec)

/-- 'reveillelaw16.TlogOrder', WHERE WHAT IT READS IS OF BULK AT MOST 1048576: true; the input reads as it did. -/
def tlogOrderUptoRow : OpenClaim := { program := "ytccbfekajbnehaa", sum := "42929e35b03e69305e3278e0106af5074a0a7d192974242a237a3b2785855266", func := "reveille/reveillelaw16.TlogOrder", spec := "tlogOrder", inPlace := ["internal/abi.NoEscape"], unfollowed := true, recurses := true, apart := false, narrowed := true }
def TlogOrderUptoSaid : Prop := tlogOrderUptoRow.holds Try.pinned (OpenSpec.upto tlogOrderSpec)

end Rows
end Go.Proofs.Ytccbfekajbnehaa
