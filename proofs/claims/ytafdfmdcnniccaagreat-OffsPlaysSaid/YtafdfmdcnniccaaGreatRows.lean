/-
  No cell of these rows narrows 'for every input' (looked for: loops, veiled, ifaces, maps, wideKeys, modest, calm, conditions, laid).
  DERIVED. THE GIVEN ROWS OF THIS SEAT. 3 by the template 'for every input the law returns true; each argument reads behind the call as it read before'; 0 by the template 'total and deterministic' (their statements: YtafdfmdcnniccaaGreatTotals.lean).
  GIVEN WITH THE SEED: the statements are not yours to turn. If you find one false, say at which input.
  Laid BY PROGRAM, IN A SANDBOX (cutbox-rows.mjs): the forced cells as the released guide's own fill.sh prints them over the translation b4737d77e61bbb82… (all of the seat's roots in one cut). By AI agents, Wed Nov 11 2026. No macro, syntax, notation, axiom, sorry.
-/
import Derived.Test.YtafdfmdcnniccaaGreatChecked
import GoSem.Claim
import GoSem.ClaimJoined
import GoSem.ClaimMapViews
import Derived.JoinedTies
import Derived.KernelRfl
namespace Go.Proofs.YtafdfmdcnniccaaGreat
/- THE CELL 'sum', in the pinned program and in every row, IS THE sha256 OF THE DUMP (.gsa) THAT YtafdfmdcnniccaaGreatProg.lean LOADS. Nothing in Lean hashes anything: it is a label: what it is worth is what the hold of that sum in a sandbox is worth. -/
noncomputable def Tryz.pinned : Pinned := { name := "ytafdfmdcnniccaagreat", sum := "b4737d77e61bbb82d3e0f71c44e480c6ff61766848fcdb04b9d7e845912eb6a0", checked := Tryz.checked }
namespace Rows
def none {H : Type} : Left H := { results := [], args := [] }

/-- 'reveillelaw14.OffsLast': WHATEVER THE INPUT: true; the input reads as it did. -/
def offsLastSpec : ChangeSpec := { name := "offsLast", fn := fun _ => fun
  | [d] => { results := [.lit (.bool true)], args := [d] }
  | _ => none }
def offsLastRow : OpenClaim := { program := "ytafdfmdcnniccaagreat", sum := "b4737d77e61bbb82d3e0f71c44e480c6ff61766848fcdb04b9d7e845912eb6a0", func := "reveille/reveillelaw14.OffsLast", spec := "offsLast", inPlace := ["slices.overlaps[reveille/offs.Offset]", "internal/abi.NoEscape"], unfollowed := true, recurses := true, apart := false }
def OffsLastSaid : Prop := offsLastRow.holds Tryz.pinned (OpenSpec.ofChange offsLastSpec)

/-- ITS FALSE NEIGHBOUR: 'it returns false'. Refute it at one input. -/
def offsLastWrong : ChangeSpec := { name := "offsLast", fn := fun _ => fun
  | [d] => { results := [.lit (.bool false)], args := [d] }
  | _ => none }
def OffsLastWrongFalsely : Prop := offsLastRow.holds Tryz.pinned (OpenSpec.ofChange offsLastWrong)

/-- 'reveillelaw14.OffsPlays': WHATEVER THE INPUT: true; the input reads as it did. -/
def offsPlaysSpec : ChangeSpec := { name := "offsPlays", fn := fun _ => fun
  | [d] => { results := [.lit (.bool true)], args := [d] }
  | _ => none }
def offsPlaysRow : OpenClaim := { program := "ytafdfmdcnniccaagreat", sum := "b4737d77e61bbb82d3e0f71c44e480c6ff61766848fcdb04b9d7e845912eb6a0", func := "reveille/reveillelaw14.OffsPlays", spec := "offsPlays", inPlace := ["slices.overlaps[reveille/offs.Offset]", "internal/abi.NoEscape"], unfollowed := true, recurses := true, apart := false }
def OffsPlaysSaid : Prop := offsPlaysRow.holds Tryz.pinned (OpenSpec.ofChange offsPlaysSpec)

/-- ITS FALSE NEIGHBOUR: 'it returns false'. Refute it at one input. -/
def offsPlaysWrong : ChangeSpec := { name := "offsPlays", fn := fun _ => fun
  | [d] => { results := [.lit (.bool false)], args := [d] }
  | _ => none }
def OffsPlaysWrongFalsely : Prop := offsPlaysRow.holds Tryz.pinned (OpenSpec.ofChange offsPlaysWrong)

/-- 'reveillelaw14.OffsOrder': WHATEVER THE INPUT: true; the input reads as it did. -/
def offsOrderSpec : ChangeSpec := { name := "offsOrder", fn := fun _ => fun
  | [d] => { results := [.lit (.bool true)], args := [d] }
  | _ => none }
def offsOrderRow : OpenClaim := { program := "ytafdfmdcnniccaagreat", sum := "b4737d77e61bbb82d3e0f71c44e480c6ff61766848fcdb04b9d7e845912eb6a0", func := "reveille/reveillelaw14.OffsOrder", spec := "offsOrder", inPlace := ["slices.overlaps[reveille/offs.Offset]", "internal/abi.NoEscape"], unfollowed := true, recurses := true, apart := false }
def OffsOrderSaid : Prop := offsOrderRow.holds Tryz.pinned (OpenSpec.ofChange offsOrderSpec)

/-- ITS FALSE NEIGHBOUR: 'it returns false'. Refute it at one input. -/
def offsOrderWrong : ChangeSpec := { name := "offsOrder", fn := fun _ => fun
  | [d] => { results := [.lit (.bool false)], args := [d] }
  | _ => none }
def OffsOrderWrongFalsely : Prop := offsOrderRow.holds Tryz.pinned (OpenSpec.ofChange offsOrderWrong)

/- THE SECOND FORM. 'bulk': how many values and letters a reading holds, each counted each time it is reached (what is shared counts as often as it is met; a slice's spare places count too). A statement '..UptoSaid' is the law's where the arguments, and the package variables that the reading takes, are together of bulk at most 1048576: NARROWER than '..Said'. Prove '..Said' where nothing that the law and all that it calls make is longer than what came in: it says more and counts as full. Else prove '..UptoSaid'. A law counts once. -/
mutual
def uptoBulk {H : Type} : DataW H → Nat
  | .lit (.string bytes) => bytes.length + 1
  | .lit _ => 1
  | .nil => 1
  | .ptr d => uptoBulk d + 1
  | .slice elems spare => uptoBulkAll elems + uptoBulkAll spare + 1
  | .agg parts => uptoBulkAll parts + 1
  | .iface _ d => uptoBulk d + 1
  | .map entries => uptoBulkEntries entries + 1
  | .held _ => 1
def uptoBulkAll {H : Type} : List (DataW H) → Nat
  | [] => 0
  | d :: r => uptoBulk d + uptoBulkAll r
def uptoBulkEntries {H : Type} : List (Lit × DataW H) → Nat
  | [] => 0
  | x :: r => uptoBulkEntry x + uptoBulkEntries r
def uptoBulkEntry {H : Type} : Lit × DataW H → Nat
  | (.string bytes, d) => bytes.length + uptoBulk d + 1
  | (_, d) => uptoBulk d + 1
 end
def uptoSmall : (H : Type) → List (DataW H) → Bool := fun _ ds => decide (uptoBulkAll ds ≤ 1048576)
def OpenSpec.upto (s : _root_.Go.ChangeSpec) : _root_.Go.OpenSpec := { _root_.Go.OpenSpec.ofChange s with cond := some uptoSmall }

/-- 'reveillelaw14.OffsLast', WHERE WHAT IT READS IS OF BULK AT MOST 1048576: true; the input reads as it did. -/
def offsLastUptoRow : OpenClaim := { program := "ytafdfmdcnniccaagreat", sum := "b4737d77e61bbb82d3e0f71c44e480c6ff61766848fcdb04b9d7e845912eb6a0", func := "reveille/reveillelaw14.OffsLast", spec := "offsLast", inPlace := ["slices.overlaps[reveille/offs.Offset]", "internal/abi.NoEscape"], unfollowed := true, recurses := true, apart := false, narrowed := true }
def OffsLastUptoSaid : Prop := offsLastUptoRow.holds Tryz.pinned (OpenSpec.upto offsLastSpec)

/-- 'reveillelaw14.OffsPlays', WHERE WHAT IT READS IS OF BULK AT MOST 1048576: true; the input reads as it did. -/
def offsPlaysUptoRow : OpenClaim := { program := "ytafdfmdcnniccaagreat", sum := "b4737d77e61bbb82d3e0f71c44e480c6ff61766848fcdb04b9d7e845912eb6a0", func := "reveille/reveillelaw14.OffsPlays", spec := "offsPlays", inPlace := ["slices.overlaps[reveille/offs.Offset]", "internal/abi.NoEscape"], unfollowed := true, recurses := true, apart := false, narrowed := true }
def OffsPlaysUptoSaid : Prop := offsPlaysUptoRow.holds Tryz.pinned (OpenSpec.upto offsPlaysSpec)

/-- 'reveillelaw14.OffsOrder', WHERE WHAT IT READS IS OF BULK AT MOST 1048576: true; the input reads as it did. -/
def offsOrderUptoRow : OpenClaim := { program := "ytafdfmdcnniccaagreat", sum := "b4737d77e61bbb82d3e0f71c44e480c6ff61766848fcdb04b9d7e845912eb6a0", func := "reveille/reveillelaw14.OffsOrder", spec := "offsOrder", inPlace := ["slices.overlaps[reveille/offs.Offset]", "internal/abi.NoEscape"], unfollowed := true, recurses := true, apart := false, narrowed := true }
def OffsOrderUptoSaid : Prop := offsOrderUptoRow.holds Tryz.pinned (OpenSpec.upto offsOrderSpec)

end Rows
end Go.Proofs.YtafdfmdcnniccaaGreat
