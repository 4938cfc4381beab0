/-
  No cell of these rows narrows 'for every input' (looked for: loops, veiled, ifaces, maps, wideKeys, modest, calm, conditions, laid).
  DERIVED. THE GIVEN ROWS OF THIS SEAT. 5 by the template 'for every input the law returns true; each argument reads behind the call as it read before'; 0 by the template 'total and deterministic' (their statements: YtofffmnkoelifaaTotals.lean).
  GIVEN WITH THE SEED: the statements are not yours to turn. If you find one false, say at which input.
  Laid BY PROGRAM, IN A SANDBOX (cutbox-rows.mjs): the forced cells as the released guide's own fill.sh prints them over the translation 6319d19bd91c5d4d… (all of the seat's roots in one cut). By AI agents, Wed Nov 11 2026. No macro, syntax, notation, axiom, sorry.
-/
import Derived.Test.YtofffmnkoelifaaChecked
import GoSem.Claim
import GoSem.ClaimJoined
import GoSem.ClaimMapViews
import Derived.JoinedTies
import Derived.KernelRfl
namespace Go.Proofs.Ytofffmnkoelifaa
/- THE CELL 'sum', in the pinned program and in every row, IS THE sha256 OF THE DUMP (.gsa) THAT YtofffmnkoelifaaProg.lean LOADS. Nothing in Lean hashes anything: it is a label: what it is worth is what the hold of that sum in a sandbox is worth. -/
noncomputable def Try.pinned : Pinned := { name := "ytofffmnkoelifaa", sum := "6319d19bd91c5d4d833a36ac4ea63c46e4b158faf785ed052a1eb3409ecd9be7", checked := Try.checked }
namespace Rows
def none {H : Type} : Left H := { results := [], args := [] }

/-- 'reveillelaw17.PendCounts': WHATEVER THE INPUT: true; the input reads as it did. -/
def pendCountsSpec : ChangeSpec := { name := "pendCounts", fn := fun _ => fun
  | [d] => { results := [.lit (.bool true)], args := [d] }
  | _ => none }
def pendCountsRow : OpenClaim := { program := "ytofffmnkoelifaa", sum := "6319d19bd91c5d4d833a36ac4ea63c46e4b158faf785ed052a1eb3409ecd9be7", func := "reveille/reveillelaw17.PendCounts", spec := "pendCounts", unfollowed := true, recurses := true, apart := false }
def PendCountsSaid : Prop := pendCountsRow.holds Try.pinned (OpenSpec.ofChange pendCountsSpec)

/-- ITS FALSE NEIGHBOUR: 'it returns false'. Refute it at one input. -/
def pendCountsWrong : ChangeSpec := { name := "pendCounts", fn := fun _ => fun
  | [d] => { results := [.lit (.bool false)], args := [d] }
  | _ => none }
def PendCountsWrongFalsely : Prop := pendCountsRow.holds Try.pinned (OpenSpec.ofChange pendCountsWrong)

/-- 'reveillelaw12.LevelAgain': WHATEVER THE INPUT: true; the input reads as it did. -/
def levelAgainSpec : ChangeSpec := { name := "levelAgain", fn := fun _ => fun
  | [d1, d2, d3] => { results := [.lit (.bool true)], args := [d1, d2, d3] }
  | _ => none }
def levelAgainRow : OpenClaim := { program := "ytofffmnkoelifaa", sum := "6319d19bd91c5d4d833a36ac4ea63c46e4b158faf785ed052a1eb3409ecd9be7", func := "reveille/reveillelaw12.LevelAgain", spec := "levelAgain", inPlace := ["internal/abi.NoEscape", "internal/bytealg.MakeNoZero"], unfollowed := true, recurses := true, apart := false }
def LevelAgainSaid : Prop := levelAgainRow.holds Try.pinned (OpenSpec.ofChange levelAgainSpec)

/-- ITS FALSE NEIGHBOUR: 'it returns false'. Refute it at one input. -/
def levelAgainWrong : ChangeSpec := { name := "levelAgain", fn := fun _ => fun
  | [d1, d2, d3] => { results := [.lit (.bool false)], args := [d1, d2, d3] }
  | _ => none }
def LevelAgainWrongFalsely : Prop := levelAgainRow.holds Try.pinned (OpenSpec.ofChange levelAgainWrong)

/-- 'reveillelaw12.LevelChain': WHATEVER THE INPUT: true; the input reads as it did. -/
def levelChainSpec : ChangeSpec := { name := "levelChain", fn := fun _ => fun
  | [d1, d2, d3] => { results := [.lit (.bool true)], args := [d1, d2, d3] }
  | _ => none }
def levelChainRow : OpenClaim := { program := "ytofffmnkoelifaa", sum := "6319d19bd91c5d4d833a36ac4ea63c46e4b158faf785ed052a1eb3409ecd9be7", func := "reveille/reveillelaw12.LevelChain", spec := "levelChain", inPlace := ["internal/abi.NoEscape", "internal/bytealg.MakeNoZero"], unfollowed := true, recurses := true, apart := false }
def LevelChainSaid : Prop := levelChainRow.holds Try.pinned (OpenSpec.ofChange levelChainSpec)

/-- ITS FALSE NEIGHBOUR: 'it returns false'. Refute it at one input. -/
def levelChainWrong : ChangeSpec := { name := "levelChain", fn := fun _ => fun
  | [d1, d2, d3] => { results := [.lit (.bool false)], args := [d1, d2, d3] }
  | _ => none }
def LevelChainWrongFalsely : Prop := levelChainRow.holds Try.pinned (OpenSpec.ofChange levelChainWrong)

/-- 'reveillelaw06.RecTurned': WHATEVER THE INPUT: true; the input reads as it did. -/
def recTurnedSpec : ChangeSpec := { name := "recTurned", fn := fun _ => fun
  | [d1, d2, d3] => { results := [.lit (.bool true)], args := [d1, d2, d3] }
  | _ => none }
def recTurnedRow : OpenClaim := { program := "ytofffmnkoelifaa", sum := "6319d19bd91c5d4d833a36ac4ea63c46e4b158faf785ed052a1eb3409ecd9be7", func := "reveille/reveillelaw06.RecTurned", spec := "recTurned", inPlace := ["internal/abi.NoEscape", "internal/bytealg.MakeNoZero"], unfollowed := true, recurses := true, apart := false }
def RecTurnedSaid : Prop := recTurnedRow.holds Try.pinned (OpenSpec.ofChange recTurnedSpec)

/-- ITS FALSE NEIGHBOUR: 'it returns false'. Refute it at one input. -/
def recTurnedWrong : ChangeSpec := { name := "recTurned", fn := fun _ => fun
  | [d1, d2, d3] => { results := [.lit (.bool false)], args := [d1, d2, d3] }
  | _ => none }
def RecTurnedWrongFalsely : Prop := recTurnedRow.holds Try.pinned (OpenSpec.ofChange recTurnedWrong)

/-- 'reveillelaw06.RecSame': WHATEVER THE INPUT: true; the input reads as it did. -/
def recSameSpec : ChangeSpec := { name := "recSame", fn := fun _ => fun
  | [d1, d2, d3] => { results := [.lit (.bool true)], args := [d1, d2, d3] }
  | _ => none }
def recSameRow : OpenClaim := { program := "ytofffmnkoelifaa", sum := "6319d19bd91c5d4d833a36ac4ea63c46e4b158faf785ed052a1eb3409ecd9be7", func := "reveille/reveillelaw06.RecSame", spec := "recSame", inPlace := ["internal/abi.NoEscape", "internal/bytealg.MakeNoZero"], unfollowed := true, recurses := true, apart := false }
def RecSameSaid : Prop := recSameRow.holds Try.pinned (OpenSpec.ofChange recSameSpec)

/-- ITS FALSE NEIGHBOUR: 'it returns false'. Refute it at one input. -/
def recSameWrong : ChangeSpec := { name := "recSame", fn := fun _ => fun
  | [d1, d2, d3] => { results := [.lit (.bool false)], args := [d1, d2, d3] }
  | _ => none }
def RecSameWrongFalsely : Prop := recSameRow.holds Try.pinned (OpenSpec.ofChange recSameWrong)

/- THE SECOND FORM. 'bulk': how many values and letters a reading holds, each counted each time it is reached (what is shared counts as often as it is met; a slice's spare places count too). A statement '..UptoSaid' is the law's where the arguments, and the package variables that the reading takes, are together of bulk at most 1048576: NARROWER than '..Said'. Prove '..Said' where nothing that the law and all that it calls make is longer than what came in: it says more and counts as full. Else prove '..UptoSaid'. A law counts once. -/
mutual
def uptoBulk {H : Type} : DataW H → Nat
  | .lit (.string bytes) => bytes.length + 1
  | .lit _ => 1
  | .nil => 1
  | .ptr d => uptoBulk d + 1
  | .slice elems spare => uptoBulkAll elems + uptoBulkAll spare + 1
  | .agg parts => uptoBulkAll parts + 1
  | .iface _ d => uptoBulk d + 1
  | .map entries => uptoBulkEntries entries + 1
  | .held _ => 1
def uptoBulkAll {H : Type} : List (DataW H) → Nat
  | [] => 0
  | d :: r => uptoBulk d + uptoBulkAll r
def uptoBulkEntries {H : Type} : List (Lit × DataW H) → Nat
  | [] => 0
  | x :: r => uptoBulkEntry x + uptoBulkEntries r
def uptoBulkEntry {H : Type} : Lit × DataW H → Nat
  | (.string bytes, d) => bytes.length + uptoBulk d + 1
  | (_, d) => uptoBulk d + 1
 end
def uptoSmall : (H : Type) → List (DataW H) → Bool := fun _ ds => decide (uptoBulkAll ds ≤ 1048576)
def OpenSpec.upto (s : _root_.Go.ChangeSpec) : _root_.Go.OpenSpec := { _root_.Go.OpenSpec.ofChange s with cond := some uptoSmall }

/-- 'reveillelaw17.PendCounts', WHERE WHAT IT READS IS OF BULK AT MOST 1048576: true; the input reads as it did. -/
def pendCountsUptoRow : OpenClaim := { program := "ytofffmnkoelifaa", sum := "6319d19bd91c5d4d833a36ac4ea63c46e4b158faf785ed052a1eb3409ecd9be7", func := "reveille/reveillelaw17.PendCounts", spec := "pendCounts", unfollowed := true, recurses := true, apart := false, narrowed := true }
def PendCountsUptoSaid : Prop := pendCountsUptoRow.holds Try.pinned (OpenSpec.upto pendCountsSpec)

/-- 'reveillelaw12.LevelAgain', WHERE WHAT IT READS IS OF BULK AT MOST 1048576: true; the input reads as it did. -/
def levelAgainUptoRow : OpenClaim := { program := "ytofffmnkoelifaa", sum := "6319d19bd91c5d4d833a36ac4ea63c46e4b158faf785ed052a1eb3409ecd9be7", func := "reveille/reveillelaw12.LevelAgain", spec := "levelAgain", inPlace := ["internal/abi.NoEscape", "internal/bytealg.MakeNoZero"], unfollowed := true, recurses := true, apart := false, narrowed := true }
def LevelAgainUptoSaid : Prop := levelAgainUptoRow.holds Try.pinned (OpenSpec.upto levelAgainSpec)

/-- 'reveillelaw12.LevelChain', WHERE WHAT IT READS IS OF BULK AT MOST 1048576: true; the input reads as it did. -/
def levelChainUptoRow : OpenClaim := { program := "ytofffmnkoelifaa", sum := "6319d19bd91c5d4d833a36ac4ea63c46e4b158faf785ed052a1eb3409ecd9be7", func := "reveille/reveillelaw12.LevelChain", spec := "levelChain", inPlace := ["internal/abi.NoEscape", "internal/bytealg.MakeNoZero"], unfollowed := true, recurses := true, apart := false, narrowed := true }
def LevelChainUptoSaid : Prop := levelChainUptoRow.holds Try.pinned (OpenSpec.upto levelChainSpec)

/-- 'reveillelaw06.RecTurned', WHERE WHAT IT READS IS OF BULK AT MOST 1048576: true; the input reads as it did. -/
def recTurnedUptoRow : OpenClaim := { program := "ytofffmnkoelifaa", sum := "6319d19bd91c5d4d833a36ac4ea63c46e4b158faf785ed052a1eb3409ecd9be7", func := "reveille/reveillelaw06.RecTurned", spec := "recTurned", inPlace := ["internal/abi.NoEscape", "internal/bytealg.MakeNoZero"], unfollowed := true, recurses := true, apart := false, narrowed := true }
def RecTurnedUptoSaid : Prop := recTurnedUptoRow.holds Try.pinned (OpenSpec.upto recTurnedSpec)

/-- 'reveillelaw06.RecSame', WHERE WHAT IT READS IS OF BULK AT MOST 1048576: true; the input reads as it did. -/
def recSameUptoRow : OpenClaim := { program := "ytofffmnkoelifaa", sum := "6319d19bd91c5d4d833a36ac4ea63c46e4b158faf785ed052a1eb3409ecd9be7", func := "reveille/reveillelaw06.RecSame", spec := "recSame", inPlace := ["internal/abi.NoEscape", "internal/bytealg.MakeNoZero"], unfollowed := true, recurses := true, apart := false, narrowed := true }
def RecSameUptoSaid : Prop := recSameUptoRow.holds Try.pinned (OpenSpec.upto recSameSpec)

end Rows
end Go.Proofs.Ytofffmnkoelifaa
