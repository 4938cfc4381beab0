/-
  No cell of these rows narrows 'for every input' (looked for: loops, veiled, ifaces, maps, wideKeys, modest, calm, conditions, laid).
  DERIVED. THE GIVEN ROWS OF THIS SEAT. 4 by the template 'for every input the law returns true; each argument reads behind the call as it read before'; 0 by the template 'total and deterministic' (their statements: YtccbfekajbnehaaGreatTotals.lean).
  GIVEN WITH THE SEED: the statements are not yours to turn. If you find one false, say at which input.
  Laid BY PROGRAM, IN A SANDBOX (cutbox-rows.mjs): the forced cells as the released guide's own fill.sh prints them over the translation 35e48cde19407b35… (all of the seat's roots in one cut). By AI agents, Wed Nov 11 2026. No macro, syntax, notation, axiom, sorry.
-/
import Derived.Test.YtccbfekajbnehaaGreatChecked
import GoSem.Claim
import GoSem.ClaimJoined
import GoSem.ClaimMapViews
import Derived.JoinedTies
import Derived.KernelRfl
namespace Go.Proofs.YtccbfekajbnehaaGreat
/- THE CELL 'sum', in the pinned program and in every row, IS THE sha256 OF THE DUMP (.gsa) THAT YtccbfekajbnehaaGreatProg.lean LOADS. Nothing in Lean hashes anything: it is a label: what it is worth is what the hold of that sum in a sandbox is worth. -/
noncomputable def Tryz.pinned : Pinned := { name := "ytccbfekajbnehaagreat", sum := "35e48cde19407b354da8472f7cafae400e725adecb10144017126bddc30643e3", checked := Tryz.checked }
namespace Rows
def none {H : Type} : Left H := { results := [], args := [] }

/-- 'reveillelaw13.TopicApart': WHATEVER THE INPUT: true; the input reads as it did. -/
def topicApartSpec : ChangeSpec := { name := "topicApart", fn := fun _ => fun
  | [d1, d2] => { results := [.lit (.bool true)], args := [d1, d2] }
  | _ => none }
def topicApartRow : OpenClaim := { program := "ytccbfekajbnehaagreat", sum := "35e48cde19407b354da8472f7cafae400e725adecb10144017126bddc30643e3", func := "reveille/reveillelaw13.TopicApart", spec := "topicApart", inPlace := ["internal/abi.NoEscape"], unfollowed := true, recurses := true, apart := false }
def TopicApartSaid : Prop := topicApartRow.holds Tryz.pinned (OpenSpec.ofChange topicApartSpec)

/-- ITS FALSE NEIGHBOUR: 'it returns false'. Refute it at one input. -/
def topicApartWrong : ChangeSpec := { name := "topicApart", fn := fun _ => fun
  | [d1, d2] => { results := [.lit (.bool false)], args := [d1, d2] }
  | _ => none }
def TopicApartWrongFalsely : Prop := topicApartRow.holds Tryz.pinned (OpenSpec.ofChange topicApartWrong)

/-- 'reveillelaw13.TopicTables': WHATEVER THE INPUT: true; the input reads as it did. -/
def topicTablesSpec : ChangeSpec := { name := "topicTables", fn := fun _ => fun
  | [d1, d2, d3] => { results := [.lit (.bool true)], args := [d1, d2, d3] }
  | _ => none }
def topicTablesRow : OpenClaim := { program := "ytccbfekajbnehaagreat", sum := "35e48cde19407b354da8472f7cafae400e725adecb10144017126bddc30643e3", func := "reveille/reveillelaw13.TopicTables", spec := "topicTables", inPlace := ["internal/abi.NoEscape"], unfollowed := true, recurses := true, apart := false }
def TopicTablesSaid : Prop := topicTablesRow.holds Tryz.pinned (OpenSpec.ofChange topicTablesSpec)

/-- ITS FALSE NEIGHBOUR: 'it returns false'. Refute it at one input. -/
def topicTablesWrong : ChangeSpec := { name := "topicTables", fn := fun _ => fun
  | [d1, d2, d3] => { results := [.lit (.bool false)], args := [d1, d2, d3] }
  | _ => none }
def TopicTablesWrongFalsely : Prop := topicTablesRow.holds Tryz.pinned (OpenSpec.ofChange topicTablesWrong)

/-- 'reveillelaw13.TopicForms': WHATEVER THE INPUT: true; the input reads as it did. -/
def topicFormsSpec : ChangeSpec := { name := "topicForms", fn := fun _ => fun
  | [d1, d2] => { results := [.lit (.bool true)], args := [d1, d2] }
  | _ => none }
def topicFormsRow : OpenClaim := { program := "ytccbfekajbnehaagreat", sum := "35e48cde19407b354da8472f7cafae400e725adecb10144017126bddc30643e3", func := "reveille/reveillelaw13.TopicForms", spec := "topicForms", inPlace := ["internal/abi.NoEscape"], unfollowed := true, recurses := true, apart := false }
def TopicFormsSaid : Prop := topicFormsRow.holds Tryz.pinned (OpenSpec.ofChange topicFormsSpec)

/-- ITS FALSE NEIGHBOUR: 'it returns false'. Refute it at one input. -/
def topicFormsWrong : ChangeSpec := { name := "topicForms", fn := fun _ => fun
  | [d1, d2] => { results := [.lit (.bool false)], args := [d1, d2] }
  | _ => none }
def TopicFormsWrongFalsely : Prop := topicFormsRow.holds Tryz.pinned (OpenSpec.ofChange topicFormsWrong)

/-- 'reveillelaw13.TopicLasts': WHATEVER THE INPUT: true; the input reads as it did. -/
def topicLastsSpec : ChangeSpec := { name := "topicLasts", fn := fun _ => fun
  | [d1, d2, d3] => { results := [.lit (.bool true)], args := [d1, d2, d3] }
  | _ => none }
def topicLastsRow : OpenClaim := { program := "ytccbfekajbnehaagreat", sum := "35e48cde19407b354da8472f7cafae400e725adecb10144017126bddc30643e3", func := "reveille/reveillelaw13.TopicLasts", spec := "topicLasts", inPlace := ["internal/abi.NoEscape"], unfollowed := true, recurses := true, apart := false }
def TopicLastsSaid : Prop := topicLastsRow.holds Tryz.pinned (OpenSpec.ofChange topicLastsSpec)

/-- ITS FALSE NEIGHBOUR: 'it returns false'. Refute it at one input. -/
def topicLastsWrong : ChangeSpec := { name := "topicLasts", fn := fun _ => fun
  | [d1, d2, d3] => { results := [.lit (.bool false)], args := [d1, d2, d3] }
  | _ => none }
def TopicLastsWrongFalsely : Prop := topicLastsRow.holds Tryz.pinned (OpenSpec.ofChange topicLastsWrong)

/- THE SECOND FORM. 'bulk': how many values and letters a reading holds, each counted each time it is reached (what is shared counts as often as it is met; a slice's spare places count too). A statement '..UptoSaid' is the law's where the arguments, and the package variables that the reading takes, are together of bulk at most 1048576: NARROWER than '..Said'. Prove '..Said' where nothing that the law and all that it calls make is longer than what came in: it says more and counts as full. Else prove '..UptoSaid'. A law counts once. -/
mutual
def uptoBulk {H : Type} : DataW H → Nat
  | .lit (.string bytes) => bytes.length + 1
  | .lit _ => 1
  | .nil => 1
  | .ptr d => uptoBulk d + 1
  | .slice elems spare => uptoBulkAll elems + uptoBulkAll spare + 1
  | .agg parts => uptoBulkAll parts + 1
  | .iface _ d => uptoBulk d + 1
  | .map entries => uptoBulkEntries entries + 1
  | .held _ => 1
def uptoBulkAll {H : Type} : List (DataW H) → Nat
  | [] => 0
  | d :: r => uptoBulk d + uptoBulkAll r
def uptoBulkEntries {H : Type} : List (Lit × DataW H) → Nat
  | [] => 0
  | x :: r => uptoBulkEntry x + uptoBulkEntries r
def uptoBulkEntry {H : Type} : Lit × DataW H → Nat
  | (.string bytes, d) => bytes.length + uptoBulk d + 1
  | (_, d) => uptoBulk d + 1
 end
def uptoSmall : (H : Type) → List (DataW H) → Bool := fun _ ds => decide (uptoBulkAll ds ≤ 1048576)
def OpenSpec.upto (s : _root_.Go.ChangeSpec) : _root_.Go.OpenSpec := { _root_.Go.OpenSpec.ofChange s with cond := some uptoSmall }

/-- 'reveillelaw13.TopicApart', WHERE WHAT IT READS IS OF BULK AT MOST 1048576: true; the input reads as it did. -/
def topicApartUptoRow : OpenClaim := { program := "ytccbfekajbnehaagreat", sum := "35e48cde19407b354da8472f7cafae400e725adecb10144017126bddc30643e3", func := "reveille/reveillelaw13.TopicApart", spec := "topicApart", inPlace := ["internal/abi.NoEscape"], unfollowed := true, recurses := true, apart := false, narrowed := true }
def TopicApartUptoSaid : Prop := topicApartUptoRow.holds Tryz.pinned (OpenSpec.upto topicApartSpec)

/-- 'reveillelaw13.TopicTables', WHERE WHAT IT READS IS OF BULK AT MOST 1048576: true; the input reads as it did. -/
def topicTablesUptoRow : OpenClaim := { program := "ytccbfekajbnehaagreat", sum := "35e48cde19407b354da8472f7cafae400e725adecb10144017126bddc30643e3", func := "reveille/reveillelaw13.TopicTables", spec := "topicTables", inPlace := ["internal/abi.NoEscape"], unfollowed := true, recurses := true, apart := false, narrowed := true }
def TopicTablesUptoSaid : Prop := topicTablesUptoRow.holds Tryz.pinned (OpenSpec.upto topicTablesSpec)

/-- 'reveillelaw13.TopicForms', WHERE WHAT IT READS IS OF BULK AT MOST 1048576: true; the input reads as it did. -/
def topicFormsUptoRow : OpenClaim := { program := "ytccbfekajbnehaagreat", sum := "35e48cde19407b354da8472f7cafae400e725adecb10144017126bddc30643e3", func := "reveille/reveillelaw13.TopicForms", spec := "topicForms", inPlace := ["internal/abi.NoEscape"], unfollowed := true, recurses := true, apart := false, narrowed := true }
def TopicFormsUptoSaid : Prop := topicFormsUptoRow.holds Tryz.pinned (OpenSpec.upto topicFormsSpec)

/-- 'reveillelaw13.TopicLasts', WHERE WHAT IT READS IS OF BULK AT MOST 1048576: true; the input reads as it did. -/
def topicLastsUptoRow : OpenClaim := { program := "ytccbfekajbnehaagreat", sum := "35e48cde19407b354da8472f7cafae400e725adecb10144017126bddc30643e3", func := "reveille/reveillelaw13.TopicLasts", spec := "topicLasts", inPlace := ["internal/abi.NoEscape"], unfollowed := true, recurses := true, apart := false, narrowed := true }
def TopicLastsUptoSaid : Prop := topicLastsUptoRow.holds Tryz.pinned (OpenSpec.upto topicLastsSpec)

end Rows
end Go.Proofs.YtccbfekajbnehaaGreat
