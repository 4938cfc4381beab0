/-
  DERIVED: THE SHELF's CONTRACTS AT THIS DUMP, IN PLAIN WORDS (tools/lay-plain.mjs out of 'TryShelf.lean', which tools/lay-shelf.mjs wrote): THE SAME DECLARATIONS UNDER THE SAME NAMES: 'import', 'namespace', 'open', 'def', 'theorem' AND NOTHING ELSE: no command of the shelf's: FOR A HAND-IN. Each laying: the table of numbers ('.._ren') and one theorem, a field a fact of the dump's own or the kernel's comparison; each contract: ONE APPLICATION.
-/
import Derived.Test.YtbmhjojlbmbpkaaRows
import Derived.WalkKit
import Derived.ProofKit
import Derived.OpenShut
import Derived.Handy
import Derived.Deep.LoopGhost
import Derived.Lib.Hide
import Derived.Lib.Strings
import Derived.SizedLaws
import Derived.Maps.Own
import Derived.Maps.OwnOps
import Derived.Maps.OwnSet
import Derived.Maps.RangeWalk
import Derived.Deep.QuietTactic
import Derived.BigQuiet
import Derived.Deep.RegionHeld3
import Derived.Lib.ConvBytes
import Derived.Lib.AppendZeros
import Derived.Lib.AppendZerosOnto
import Derived.Lib.LazyBuf
import Derived.Shelf.Abstract
import Derived.LaidEql
import Derived.Lib.SliceRun
import Derived.StillTailTactics
import Derived.Deep.Slices
import Derived.Shelf.SlIter.Nil
import Derived.Ground.GgzProg
import Derived.Shelf.SortM.Plain
import Derived.Shelf.SortM.SortNone
import Derived.Ground.SlgmProg
import Derived.Shelf.SlicesE.DeleteFunc
import Derived.Ground.SlgfProg
import Derived.Test.YtbmhjojlbmbpkaaProg
import Derived.Shelf.Strings.Builder1
import Derived.Shelf.Small.Bits
import Derived.Shelf.Strings.BuilderF
import Derived.Shelf.Strings.BuilderK
import Derived.Shelf.Strconv.Itoa0
import Derived.Shelf.Sort.Plain
import Derived.Shelf.Strings.Prefix
import Derived.Shelf.Strings.BuilderCap
import Derived.Shelf.Slices.In.SortNone
import Derived.Shelf.SlicesE.IndexFunc
import Derived.Test.YtbmhjojlbmbpkaaPk12
namespace Go.Proofs
open Go.Shelf
def Try.lays169_ren : Go.Shelf.Ren := ⟨fun | 169 => 70 | n => n, fun | 70 => 114 | 9 => 9 | 0 => 0 | 72 => 116 | 37 => 43 | 127 => 132 | 3 => 3 | 5 => 5 | n => n, fun | n => n⟩
theorem Try.lays169 : Go.Proofs.Lays.n169 Try.prog Try.lays169_ren := {
  mixed := by kernel_rfl
  f169 := Try.func70.trans (congrArg some (by kernel_rfl))
  t0 := Try.underlying0
  a0 := Try.isAgg0
  z0 := Try.sizeOf0
  v0 := Try.zeroValue0
  t3 := Try.underlying3
  a3 := Try.isAgg3
  z3 := Try.sizeOf3
  v3 := Try.zeroValue3
  t9 := Try.underlying9
  a9 := Try.isAgg9
  z9 := Try.sizeOf9
  v9 := Try.zeroValue9
  t37 := Try.underlying43
  a37 := Try.isAgg43
  z37 := Try.sizeOf43
  v37 := Try.zeroValue43
  t70 := Try.underlying114
  a70 := Try.isAgg114
  z70 := Try.sizeOf114
  v70 := Try.zeroValue114
  t72 := Try.underlying116
  a72 := Try.isAgg116
  z72 := Try.sizeOf116
  v72 := Try.zeroValue116
  t127 := Try.underlying132
  a127 := Try.isAgg132
  z127 := Try.sizeOf132
  v127 := Try.zeroValue132 }
theorem Try.Builder_Extra_169 : Builder.Extra Try.prog Try.lays169_ren := {
  sizeBuilder := by kernel_rfl
  liesBuilder := by kernel_rfl
  t5 := Try.underlying5
  a5 := Try.isAgg5
  z5 := Try.sizeOf5
  v5 := Try.zeroValue5
  infoByte := by kernel_rfl
  cellsByte := by kernel_rfl
  sizeByte := by kernel_rfl
  neB5 := by decide }
open Go.RowKit in
/-- (*strings.Builder).String: "String returns the accumulated string.": OF A BUILDER THAT HOLDS AT LEAST ONE BYTE. ✋ THE MODEL FREEZES THOSE BYTES IN THE BUFFER (unsafe.String): a later write INTO them ends the model's run without an answer; a later append BEHIND them goes on. The statement's order of evaluation is drawn: one draw. (LAID: no walk: one application.) -/
theorem Try.Builder_String (B b : Nat) (l : List UInt8) (w : World) (h : Lib.IsBuilder 116 5 B b (Lib.byteCells l) w) (h0 : l ≠ []) :
    Calls Try.prog 70 #[.pointer (some ⟨b, 0, none⟩)] w fun e w' => e = .returned (.string ⟨l.toArray⟩) ∧ Below B w w' := Any.Builder_String Try.lays169 Try.Builder_Extra_169 B b l w h h0
open Go.RowKit in
/-- (*strings.Builder).String OF A BUILDER THAT HOLDS NO BYTE: the empty string. (Its buffer is nil, or a row of which it has taken nothing yet; where that row has NO capacity the model lays one new block for unsafe.SliceData's 'some address'.) One draw. (LAID: no walk: one application.) -/
theorem Try.Builder_String_empty (B b : Nat) (w : World) (h : Lib.IsBuilder 116 5 B b [] w) (hBw : B ≤ w.heap.size) :
    Calls Try.prog 70 #[.pointer (some ⟨b, 0, none⟩)] w fun e w' => e = .returned (.string ⟨#[]⟩) ∧ Below B w w' := Any.Builder_String_empty Try.lays169 Try.Builder_Extra_169 B b w h hBw
open Go.RowKit in
/-- (*strings.Builder).String: "String returns the accumulated string.": WHATEVER THE BUILDER HOLDS. (LAID: no walk: one application.) -/
theorem Try.Builder_String_any (B b : Nat) (l : List UInt8) (w : World) (h : Lib.IsBuilder 116 5 B b (Lib.byteCells l) w) (hBw : B ≤ w.heap.size) :
    Calls Try.prog 70 #[.pointer (some ⟨b, 0, none⟩)] w fun e w' => e = .returned (.string ⟨l.toArray⟩) ∧ Below B w w' := Any.Builder_String_any Try.lays169 Try.Builder_Extra_169 B b l w h hBw
def Try.lays128_ren : Go.Shelf.Ren := ⟨fun | 128 => 89 | n => n, fun | 51 => 141 | 3 => 3 | 4 => 4 | 46 => 131 | 5 => 5 | 9 => 9 | n => n, fun | n => n⟩
theorem Try.lays128 : Go.Proofs.Lays.n128 Try.prog Try.lays128_ren := {
  mixed := by kernel_rfl
  f128 := Try.func89.trans (congrArg some (by kernel_rfl))
  t3 := Try.underlying3
  a3 := Try.isAgg3
  z3 := Try.sizeOf3
  v3 := Try.zeroValue3
  t4 := Try.underlying4
  a4 := Try.isAgg4
  z4 := Try.sizeOf4
  v4 := Try.zeroValue4
  t5 := Try.underlying5
  a5 := Try.isAgg5
  z5 := Try.sizeOf5
  v5 := Try.zeroValue5
  t9 := Try.underlying9
  a9 := Try.isAgg9
  z9 := Try.sizeOf9
  v9 := Try.zeroValue9
  t46 := Try.underlying131
  a46 := Try.isAgg131
  z46 := Try.sizeOf131
  v46 := Try.zeroValue131
  t51 := Try.underlying141
  a51 := Try.isAgg141
  z51 := Try.sizeOf141
  v51 := Try.zeroValue141 }
/-- bits.Len32: "Len32 returns the minimum number of bits required to represent x; the result is 0 for x == 0.": IT RETURNS 'Lib.bitLen x'; the world is as it was. ('h0', 'h1': x is a uint32.) (LAID: no walk: one application.) -/
theorem Try.bits_Len32 (x : Int) (w : World) (h0 : 0 ≤ x) (h1 : x ≤ 4294967295) :
    Calls Try.prog 89 #[.int .u32 x] w fun e w' => e = .returned (.int .i64 (Lib.bitLen x.toNat)) ∧ w' = w := Any.bits_Len32 Try.lays128 x w h0 h1
def Try.lays125_ren : Go.Shelf.Ren := ⟨fun | 125 => 78 | 128 => 89 | 129 => 90 | n => n, fun | 46 => 131 | 3 => 3 | 51 => 141 | 53 => 143 | 4 => 4 | 5 => 5 | 9 => 9 | n => n, fun | n => n⟩
theorem Try.lays125 : Go.Proofs.Lays.n125 Try.prog Try.lays125_ren := {
  mixed := by kernel_rfl
  f125 := Try.func78.trans (congrArg some (by kernel_rfl))
  f128 := Try.func89.trans (congrArg some (by kernel_rfl))
  f129 := Try.func90.trans (congrArg some (by kernel_rfl))
  t3 := Try.underlying3
  a3 := Try.isAgg3
  z3 := Try.sizeOf3
  v3 := Try.zeroValue3
  t4 := Try.underlying4
  a4 := Try.isAgg4
  z4 := Try.sizeOf4
  v4 := Try.zeroValue4
  t5 := Try.underlying5
  a5 := Try.isAgg5
  z5 := Try.sizeOf5
  v5 := Try.zeroValue5
  t9 := Try.underlying9
  a9 := Try.isAgg9
  z9 := Try.sizeOf9
  v9 := Try.zeroValue9
  t46 := Try.underlying131
  a46 := Try.isAgg131
  z46 := Try.sizeOf131
  v46 := Try.zeroValue131
  t51 := Try.underlying141
  a51 := Try.isAgg141
  z51 := Try.sizeOf141
  v51 := Try.zeroValue141
  t53 := Try.underlying143
  a53 := Try.isAgg143
  z53 := Try.sizeOf143
  v53 := Try.zeroValue143 }
/-- bits.Len: "Len returns the minimum number of bits required to represent x; the result is 0 for x == 0.": IT RETURNS 'Lib.bitLen x'; the world is as it was. (A uint has 64 bits in the model.) ITS CALLEE bits.Len64 IS MET BY ITS OWN CONTRACT OFF THE SHELF (lay that first). (LAID: no walk: one application.) -/
theorem Try.bits_Len (x : Int) (w : World) (h0 : 0 ≤ x) (h1 : x ≤ 18446744073709551615) :
    Calls Try.prog 78 #[.int .u64 x] w fun e w' => e = .returned (.int .i64 (Lib.bitLen x.toNat)) ∧ w' = w := Any.bits_Len Try.lays125 x w h0 h1
open Go.RowKit in
/-- (*strings.Builder).String: "String returns the accumulated string.": OF A BUILDER THAT HOLDS AT LEAST ONE BYTE. ✋ THE MODEL FREEZES THOSE BYTES IN THE BUFFER (unsafe.String): a later write INTO them ends the model's run without an answer; a later append BEHIND them goes on. The statement's order of evaluation is drawn: one draw. THE FORM '_f': IT SAYS BESIDES THAT THE BUILDER IS A BUILDER STILL ('Lib.IsBuilderF', the same bytes): SO IT CAN BE WRITTEN ON: 'b.WriteString(b.String()[:k])'. (LAID: no walk: one application.) -/
theorem Try.Builder_String_f (B b : Nat) (l : List UInt8) (w : World) (h : Lib.IsBuilderF 116 5 B b (Lib.byteCells l) w) (h0 : l ≠ []) :
    Calls Try.prog 70 #[.pointer (some ⟨b, 0, none⟩)] w fun e w' => e = .returned (.string ⟨l.toArray⟩) ∧ (Lib.IsBuilderF 116 5 B b (Lib.byteCells l) w' ∧ Below B w w') := Any.Builder_String_f Try.lays169 Try.Builder_Extra_169 B b l w h h0
open Go.RowKit in
/-- (*strings.Builder).String OF A BUILDER THAT HOLDS NO BYTE: the empty string; THE FORM '_f': a builder still. (LAID: no walk: one application.) -/
theorem Try.Builder_String_empty_f (B b : Nat) (w : World) (h : Lib.IsBuilderF 116 5 B b [] w) (hBw : B ≤ w.heap.size) :
    Calls Try.prog 70 #[.pointer (some ⟨b, 0, none⟩)] w fun e w' => e = .returned (.string ⟨#[]⟩) ∧ (Lib.IsBuilderF 116 5 B b [] w' ∧ Below B w w') := Any.Builder_String_empty_f Try.lays169 Try.Builder_Extra_169 B b w h hBw
open Go.RowKit in
/-- (*strings.Builder).String: "String returns the accumulated string.": WHATEVER THE BUILDER HOLDS; THE FORM '_f': OF A BUILDER THAT MAY HAVE BEEN READ BEFORE; AND IT IS A BUILDER STILL, holding the same bytes: it can be written on. (LAID: no walk: one application.) -/
theorem Try.Builder_String_any_f (B b : Nat) (l : List UInt8) (w : World) (h : Lib.IsBuilderF 116 5 B b (Lib.byteCells l) w) (hBw : B ≤ w.heap.size) :
    Calls Try.prog 70 #[.pointer (some ⟨b, 0, none⟩)] w fun e w' => e = .returned (.string ⟨l.toArray⟩) ∧ (Lib.IsBuilderF 116 5 B b (Lib.byteCells l) w' ∧ Below B w w') := Any.Builder_String_any_f Try.lays169 Try.Builder_Extra_169 B b l w h hBw
open Go.RowKit in
/-- (*strings.Builder).String: "String returns the accumulated string.": OF A BUILDER THAT HOLDS AT LEAST ONE BYTE. ✋ THE MODEL FREEZES THOSE BYTES IN THE BUFFER (unsafe.String): a later write INTO them ends the model's run without an answer; a later append BEHIND them goes on. The statement's order of evaluation is drawn: one draw. THE FORM '_k': OVER 'Lib.IsBuilderF' (a builder that 'String()' may have read), AND WITH THE FRAME THAT REACHES ABOVE THE BUILDER: 'Lib.OthersKept': every block that is not b and is no row of uint8's stands as it stood: the iterator of a range among them. (LAID: no walk: one application.) -/
theorem Try.Builder_String_k (B b : Nat) (l : List UInt8) (w : World) (h : Lib.IsBuilderF 116 5 B b (Lib.byteCells l) w) (h0 : l ≠ []) :
    Calls Try.prog 70 #[.pointer (some ⟨b, 0, none⟩)] w fun e w' => e = .returned (.string ⟨l.toArray⟩) ∧ (Lib.IsBuilderF 116 5 B b (Lib.byteCells l) w' ∧ Below B w w' ∧ Lib.OthersKept 5 (some b) w w') := Any.Builder_String_k Try.lays169 Try.Builder_Extra_169 B b l w h h0
open Go.RowKit in
/-- (*strings.Builder).String OF A BUILDER THAT HOLDS NO BYTE: the empty string; THE FORM '_k': OVER 'Lib.IsBuilderF' (a builder that 'String()' may have read), AND WITH THE FRAME THAT REACHES ABOVE THE BUILDER: 'Lib.OthersKept': every block that is not b and is no row of uint8's stands as it stood: the iterator of a range among them. (LAID: no walk: one application.) -/
theorem Try.Builder_String_empty_k (B b : Nat) (w : World) (h : Lib.IsBuilderF 116 5 B b [] w) (hBw : B ≤ w.heap.size) :
    Calls Try.prog 70 #[.pointer (some ⟨b, 0, none⟩)] w fun e w' => e = .returned (.string ⟨#[]⟩) ∧ (Lib.IsBuilderF 116 5 B b [] w' ∧ Below B w w' ∧ Lib.OthersKept 5 (some b) w w') := Any.Builder_String_empty_k Try.lays169 Try.Builder_Extra_169 B b w h hBw
open Go.RowKit in
/-- (*strings.Builder).String: "String returns the accumulated string.": WHATEVER THE BUILDER HOLDS; THE FORM '_k': OVER 'Lib.IsBuilderF' (a builder that 'String()' may have read), AND WITH THE FRAME THAT REACHES ABOVE THE BUILDER: 'Lib.OthersKept': every block that is not b and is no row of uint8's stands as it stood: the iterator of a range among them. (LAID: no walk: one application.) -/
theorem Try.Builder_String_any_k (B b : Nat) (l : List UInt8) (w : World) (h : Lib.IsBuilderF 116 5 B b (Lib.byteCells l) w) (hBw : B ≤ w.heap.size) :
    Calls Try.prog 70 #[.pointer (some ⟨b, 0, none⟩)] w fun e w' => e = .returned (.string ⟨l.toArray⟩) ∧ (Lib.IsBuilderF 116 5 B b (Lib.byteCells l) w' ∧ Below B w w' ∧ Lib.OthersKept 5 (some b) w w') := Any.Builder_String_any_k Try.lays169 Try.Builder_Extra_169 B b l w h hBw
def Try.lays129_ren : Go.Shelf.Ren := ⟨fun | 129 => 90 | n => n, fun | 53 => 143 | 3 => 3 | 4 => 4 | 46 => 131 | 5 => 5 | 9 => 9 | n => n, fun | n => n⟩
theorem Try.lays129 : Go.Proofs.Lays.n129 Try.prog Try.lays129_ren := {
  mixed := by kernel_rfl
  f129 := Try.func90.trans (congrArg some (by kernel_rfl))
  t3 := Try.underlying3
  a3 := Try.isAgg3
  z3 := Try.sizeOf3
  v3 := Try.zeroValue3
  t4 := Try.underlying4
  a4 := Try.isAgg4
  z4 := Try.sizeOf4
  v4 := Try.zeroValue4
  t5 := Try.underlying5
  a5 := Try.isAgg5
  z5 := Try.sizeOf5
  v5 := Try.zeroValue5
  t9 := Try.underlying9
  a9 := Try.isAgg9
  z9 := Try.sizeOf9
  v9 := Try.zeroValue9
  t46 := Try.underlying131
  a46 := Try.isAgg131
  z46 := Try.sizeOf131
  v46 := Try.zeroValue131
  t53 := Try.underlying143
  a53 := Try.isAgg143
  z53 := Try.sizeOf143
  v53 := Try.zeroValue143 }
/-- bits.Len64: "Len64 returns the minimum number of bits required to represent x; the result is 0 for x == 0.": IT RETURNS 'Lib.bitLen x'; the world is as it was. ('h0', 'h1': x is a uint64.) (LAID: no walk: one application.) -/
theorem Try.bits_Len64 (x : Int) (w : World) (h0 : 0 ≤ x) (h1 : x ≤ 18446744073709551615) :
    Calls Try.prog 90 #[.int .u64 x] w fun e w' => e = .returned (.int .i64 (Lib.bitLen x.toNat)) ∧ w' = w := Any.bits_Len64 Try.lays129 x w h0 h1
def Try.lays190_ren : Go.Shelf.Ren := ⟨fun | 190 => 64 | 125 => 78 | 258 => 77 | 128 => 89 | 129 => 90 | 302 => 80 | 303 => 81 | 304 => 82 | 305 => 83 | 306 => 84 | 307 => 85 | 308 => 86 | 309 => 87 | 310 => 88 | 333 => 92 | 329 => 93 | 330 => 94 | 334 => 95 | 335 => 96 | 336 => 97 | 344 => 98 | n => n, fun | 31 => 31 | 9 => 9 | 3 => 3 | 46 => 131 | 0 => 0 | 51 => 141 | 53 => 143 | 4 => 4 | 183 => 135 | 182 => 134 | 131 => 47 | 5 => 5 | 218 => 146 | 222 => 150 | 228 => 152 | 229 => 153 | n => n, fun | n => n⟩
theorem Try.lays190 : Go.Proofs.Lays.n190 Try.prog Try.lays190_ren := {
  mixed := by kernel_rfl
  f125 := Try.func78.trans (congrArg some (by kernel_rfl))
  f128 := Try.func89.trans (congrArg some (by kernel_rfl))
  f129 := Try.func90.trans (congrArg some (by kernel_rfl))
  f190 := Try.func64.trans (congrArg some (by kernel_rfl))
  f258 := Try.func77.trans (congrArg some (by kernel_rfl))
  f302 := Try.func80.trans (congrArg some (by kernel_rfl))
  f303 := Try.func81.trans (congrArg some (by kernel_rfl))
  f304 := Try.func82.trans (congrArg some (by kernel_rfl))
  f305 := Try.func83.trans (congrArg some (by kernel_rfl))
  f306 := Try.func84.trans (congrArg some (by kernel_rfl))
  f307 := Try.func85.trans (congrArg some (by kernel_rfl))
  f308 := Try.func86.trans (congrArg some (by kernel_rfl))
  f309 := Try.func87.trans (congrArg some (by kernel_rfl))
  f310 := Try.func88.trans (congrArg some (by kernel_rfl))
  f329 := Try.func93.trans (congrArg some (by kernel_rfl))
  f330 := Try.func94.trans (congrArg some (by kernel_rfl))
  f333 := Try.func92.trans (congrArg some (by kernel_rfl))
  f334 := Try.func95.trans (congrArg some (by kernel_rfl))
  f335 := Try.func96.trans (congrArg some (by kernel_rfl))
  f336 := Try.func97.trans (congrArg some (by kernel_rfl))
  f344 := Try.func98.trans (congrArg some (by kernel_rfl))
  t0 := Try.underlying0
  a0 := Try.isAgg0
  z0 := Try.sizeOf0
  v0 := Try.zeroValue0
  t3 := Try.underlying3
  a3 := Try.isAgg3
  z3 := Try.sizeOf3
  v3 := Try.zeroValue3
  t4 := Try.underlying4
  a4 := Try.isAgg4
  z4 := Try.sizeOf4
  v4 := Try.zeroValue4
  t5 := Try.underlying5
  a5 := Try.isAgg5
  z5 := Try.sizeOf5
  v5 := Try.zeroValue5
  t9 := Try.underlying9
  a9 := Try.isAgg9
  z9 := Try.sizeOf9
  v9 := Try.zeroValue9
  t31 := Try.underlying31
  a31 := Try.isAgg31
  z31 := Try.sizeOf31
  v31 := Try.zeroValue31
  t46 := Try.underlying131
  a46 := Try.isAgg131
  z46 := Try.sizeOf131
  v46 := Try.zeroValue131
  t51 := Try.underlying141
  a51 := Try.isAgg141
  z51 := Try.sizeOf141
  v51 := Try.zeroValue141
  t53 := Try.underlying143
  a53 := Try.isAgg143
  z53 := Try.sizeOf143
  v53 := Try.zeroValue143
  t131 := Try.underlying47
  a131 := Try.isAgg47
  z131 := Try.sizeOf47
  v131 := Try.zeroValue47
  t182 := Try.underlying134
  a182 := Try.isAgg134
  z182 := Try.sizeOf134
  v182 := Try.zeroValue134
  t183 := Try.underlying135
  a183 := Try.isAgg135
  z183 := Try.sizeOf135
  v183 := Try.zeroValue135
  t218 := Try.underlying146
  a218 := Try.isAgg146
  z218 := Try.sizeOf146
  v218 := Try.zeroValue146
  t222 := Try.underlying150
  a222 := Try.isAgg150
  z222 := Try.sizeOf150
  v222 := Try.zeroValue150
  t228 := Try.underlying152
  a228 := Try.isAgg152
  z228 := Try.sizeOf152
  v228 := Try.zeroValue152
  t229 := Try.underlying153
  a229 := Try.isAgg153
  z229 := Try.sizeOf153
  v229 := Try.zeroValue153 }
open Go.Sort Go.RowKit in
theorem Try.slices_Sort_string (blk off cap : Nat) (ss : List (List UInt8)) (w : World) (hH : Holds encStr w blk off ss.toArray) (hblk : blk < w.heap.size) (hsz : ss.length < 4611686018427387904) :
    Calls Try.prog 64 #[.slice (some ⟨blk, off, none⟩) ss.length cap] w fun e w' =>
      e = .returned (.tuple #[]) ∧ ∃ n os, w' = grow (putRow encStr (Sort.ahead w n) blk off (ss.mergeSort fun x y => decide (x ≤ y)).toArray) os := Any.slices_Sort_string Try.lays190 blk off cap ss w hH hblk hsz
def Try.lays206_ren : Go.Shelf.Ren := ⟨fun | 206 => 67 | n => n, fun | 9 => 9 | 4 => 4 | 3 => 3 | n => n, fun | n => n⟩
theorem Try.lays206 : Go.Proofs.Lays.n206 Try.prog Try.lays206_ren := {
  mixed := by kernel_rfl
  f206 := Try.func67.trans (congrArg some (by kernel_rfl))
  t3 := Try.underlying3
  a3 := Try.isAgg3
  z3 := Try.sizeOf3
  v3 := Try.zeroValue3
  t4 := Try.underlying4
  a4 := Try.isAgg4
  z4 := Try.sizeOf4
  v4 := Try.zeroValue4
  t9 := Try.underlying9
  a9 := Try.isAgg9
  z9 := Try.sizeOf9
  v9 := Try.zeroValue9 }
open Go.RowKit Go.Lib in
/-- internal/stringslite.HasPrefix (what strings.HasPrefix calls). (LAID: no walk: one application.) -/
theorem Try.stringslite_HasPrefix (s p : ByteArray) (w : World) :
    Calls Try.prog 67 #[.string s, .string p] w fun e w' => e = .returned (.bool (Lib.hasPrefix s.data.toList p.data.toList)) ∧ w' = w := Any.stringslite_HasPrefix Try.lays206 s p w
def Try.lays99_ren : Go.Shelf.Ren := ⟨fun | 99 => 50 | 206 => 67 | n => n, fun | 9 => 9 | 4 => 4 | 3 => 3 | n => n, fun | n => n⟩
theorem Try.lays99 : Go.Proofs.Lays.n99 Try.prog Try.lays99_ren := {
  mixed := by kernel_rfl
  f99 := Try.func50.trans (congrArg some (by kernel_rfl))
  f206 := Try.func67.trans (congrArg some (by kernel_rfl))
  t3 := Try.underlying3
  a3 := Try.isAgg3
  z3 := Try.sizeOf3
  v3 := Try.zeroValue3
  t4 := Try.underlying4
  a4 := Try.isAgg4
  z4 := Try.sizeOf4
  v4 := Try.zeroValue4
  t9 := Try.underlying9
  a9 := Try.isAgg9
  z9 := Try.sizeOf9
  v9 := Try.zeroValue9 }
open Go.RowKit Go.Lib in
/-- strings.HasPrefix: "HasPrefix reports whether the string s begins with prefix.": IT RETURNS 'Lib.hasPrefix s prefix'; the world is as it was. (LAID: no walk: one application.) -/
theorem Try.strings_HasPrefix (s p : ByteArray) (w : World) :
    Calls Try.prog 50 #[.string s, .string p] w fun e w' => e = .returned (.bool (Lib.hasPrefix s.data.toList p.data.toList)) ∧ w' = w := Any.strings_HasPrefix Try.lays99 s p w
open Go.RowKit Go.Sort in
/-- .. and plain. (LAID: no walk: one application.) -/
theorem Try.slices_Sort_string_none (p : Option Addr) (cap : Nat) (w : World) :
    Calls Try.prog 64 #[.slice p 0 cap] w fun e w' => e = .returned (.tuple #[]) ∧ w' = w := Any.slices_Sort_string_none Try.lays190 p cap w
def Try.laysSlH6_f66_ren : Go.Shelf.Ren := ⟨fun | 6 => 66 | n => n, fun | 22 => 31 | 23 => 9 | 25 => 99 | 3 => 3 | 0 => 0 | 4 => 4 | n => n, fun | n => n⟩
theorem Try.laysSlH6_f66 : Go.Proofs.SlLaysH.n6 Try.prog Try.laysSlH6_f66_ren := {
  mixed := by kernel_rfl
  f6 := ⟨Try.f66.name, by decide, Try.func66.trans (congrArg some (by kernel_rfl))⟩
  t0 := Try.underlying0
  a0 := Try.isAgg0
  z0 := Try.sizeOf0
  v0 := Try.zeroValue0
  t3 := Try.underlying3
  a3 := Try.isAgg3
  z3 := Try.sizeOf3
  v3 := Try.zeroValue3
  t4 := Try.underlying4
  a4 := Try.isAgg4
  z4 := Try.sizeOf4
  v4 := Try.zeroValue4
  t22 := Try.underlying31
  a22 := Try.isAgg31
  z22 := Try.sizeOf31
  v22 := Try.zeroValue31
  a23 := Try.isAgg9
  z23 := Try.sizeOf9
  t25 := Try.underlying99
  a25 := Try.isAgg99
  z25 := Try.sizeOf99
  v25 := Try.zeroValue99 }
open Go.RowKit Go.Lib in
/-- slices.IndexFunc: "IndexFunc returns the first index i satisfying f(s[i]), or -1 if none do." (LAID AT THE INSTANCE 'slices.IndexFunc[[]string,string]': no walk: one application.) -/
theorem Try.slices_IndexFunc {α : Type} [Inhabited α] (enc : α → Value) (p : α → Bool) (g : Nat) (lb : Array Value) (eg : ∀ args w, (callFunc g args).run Try.prog w = .ok (.enter g args) w) (b off n c : Nat) (zs : List α) (w : World) (hp : PredAt Try.prog g lb enc p w) (hz : n ≤ zs.length) (hbig : n ≤ 9223372036854775807) (hc : ∀ j, j < zs.length → w.cell? ⟨b, off + j, none⟩ = some (enc zs[j]!)) :
    Calls Try.prog 66 #[.slice (some ⟨b, off, none⟩) n c, .func (.func g) #[] lb] w fun e w' => e = .returned (.int .i64 (Lib.idxBy (fun _ y => p y) (zs.take n) default)) ∧ ∃ q, w' = w.drewN q := AnyE.slices_IndexFunc Try.laysSlH6_f66 enc p g lb eg b off n c zs w hp hz hbig hc
open Go.RowKit Go.Lib in
/-- The same at a slice of length 0, a nil one too: the predicate is not called: nothing is asked of it. (LAID AT THE INSTANCE 'slices.IndexFunc[[]string,string]': no walk: one application.) -/
theorem Try.slices_IndexFunc_empty {α : Type} [Inhabited α] (a : Option Addr) (c : Nat) (fv : Value) (w : World) :
    Calls Try.prog 66 #[.slice a 0 c, fv] w fun e w' => e = .returned (.int .i64 (-1)) ∧ w' = w := AnyE.slices_IndexFunc_empty Try.laysSlH6_f66 a c fv w
def Try.laysSlH10_f48_ren : Go.Shelf.Ren := ⟨fun | 10 => 48 | 6 => 66 | n => n, fun | 22 => 31 | 23 => 9 | 25 => 99 | 3 => 3 | 4 => 4 | 0 => 0 | n => n, fun | n => n⟩
theorem Try.laysSlH10_f48 : Go.Proofs.SlLaysH.n10 Try.prog Try.laysSlH10_f48_ren := {
  mixed := by kernel_rfl
  f6 := ⟨Try.f66.name, by decide, Try.func66.trans (congrArg some (by kernel_rfl))⟩
  f10 := ⟨Try.f48.name, by decide, Try.func48.trans (congrArg some (by kernel_rfl))⟩
  t0 := Try.underlying0
  a0 := Try.isAgg0
  z0 := Try.sizeOf0
  v0 := Try.zeroValue0
  t3 := Try.underlying3
  a3 := Try.isAgg3
  z3 := Try.sizeOf3
  v3 := Try.zeroValue3
  t4 := Try.underlying4
  a4 := Try.isAgg4
  z4 := Try.sizeOf4
  v4 := Try.zeroValue4
  t22 := Try.underlying31
  a22 := Try.isAgg31
  z22 := Try.sizeOf31
  v22 := Try.zeroValue31
  a23 := Try.isAgg9
  z23 := Try.sizeOf9
  t25 := Try.underlying99
  a25 := Try.isAgg99
  z25 := Try.sizeOf99
  v25 := Try.zeroValue99 }
open Go.RowKit Go.Lib Go.Sort in
theorem Try.slices_DeleteFunc {α : Type} [Inhabited α] (enc : α → Value) (hO : OneCell enc) (p : α → Bool) (g : Nat) (lb : Array Value) (eg : ∀ args w, (callFunc g args).run Try.prog w = .ok (.enter g args) w) (zr : α) (v23 : ∀ w, (zeroValue 9).run Try.prog w = .ok (enc zr) w) (blk off cap : Nat) (d : Array α) (w : World) (hp : PredAt Try.prog g lb enc p w) (hpo : PredOver Try.prog g lb enc p blk off d.size w) (hH : Holds enc w blk off d) (hsz : d.size ≤ 9223372036854775807) (hcap : d.size ≤ cap) :
    Calls Try.prog 48 #[.slice (some ⟨blk, off, none⟩) d.size cap, .func (.func g) #[] lb] w fun e w' => e = .returned (.slice (some ⟨blk, off, none⟩) (d.toList.filter fun x => !p x).length cap) ∧ ∃ q, w' = putRow enc (Sort.ahead w q) blk off ((d.toList.filter fun x => !p x) ++ List.replicate (d.size - (d.toList.filter fun x => !p x).length) zr).toArray := AnyE.slices_DeleteFunc Try.laysSlH10_f48 enc hO p g lb eg zr v23 blk off cap d w hp hpo hH hsz hcap
end Go.Proofs

/- A map's keys, sorted: what the library's contracts want of a map, out of MapIs. -/
namespace Go.Proofs.Ytbmhjojlbmbpkaa
open Go.RowKit Go.Maps Go.Sort Go.Shelf Go.MapKept Go.WideElems

def keyB : Value → List UInt8
  | .string s => s.data.toList
  | _ => []
abbrev noR : Value → Option (DataW Unit × List MemPlace) := fun _ => some (.nil, [])
/-- A map whose keys are texts, as the library's contracts want it. -/
theorem MapIs.owns {P : Program} {w : World} {b : Nat} {k : TypeId} {m : List (Value × Value)} (h : MapIs w b .string m) (hk : P.underlying k = some .string) (hs : ∀ x ∈ m, (keyB x.1).length ≤ maxLen) (hl : m.length ≤ maxLen) :
    ∃ D0 : DataW Unit, w.ownsMap P k noR b m.length D0 ∧ (strKeys D0).Perm (m.map fun x => keyB x.1) ∧ Maps.size D0 = m.length := by
  obtain ⟨es, clock, hb, hst, rfl, hks⟩ := h
  have hrd : ∀ x ∈ es.toList, WideElems.rd P k noR x = some (.string (keyB x.key), .nil) := fun x hx => by
    have h1 := hks x hx
    have h2 := hs (x.key, x.val) (List.mem_map.2 ⟨x, hx, rfl⟩)
    unfold WideElems.rd
    cases hkx : x.key with
    | string s =>
      rw [hkx] at h2
      simp only [keyB] at h2
      unfold keyOf mapKey
      rw [hk]
      have h3 : s.size ≤ maxLen := by simpa using h2
      simp [h3, keyB, noR]
    | _ => rw [hkx] at h1; simp [IsKey] at h1
  refine ⟨.map ((es.toList.map (WideElems.rg P k noR)).foldr DataW.insert []), ⟨es, clock, hb, ⟨by simpa using hl, hst, fun x hx => ⟨_, hrd x hx⟩⟩, by simp, rfl⟩, ?_, ?_⟩
  · have hp := (Go.WideShapes.sorted_perm (es.toList.map (WideElems.rg P k noR))).map (fun p => strOf p.1)
    refine hp.trans (List.Perm.of_eq ?_)
    rw [List.map_map, List.map_map]
    apply List.map_congr_left
    intro x hx
    simp only [Function.comp, WideElems.rg_of (hrd x hx), strOf]
  · have hp := (Go.WideShapes.sorted_perm (es.toList.map (WideElems.rg P k noR))).length_eq
    show (List.foldr DataW.insert [] _).length = _
    rw [hp]; simp
end Go.Proofs.Ytbmhjojlbmbpkaa

/- Layer 4: List. -/
namespace Go.Proofs.Ytbmhjojlbmbpkaa.dk
open Go.ChangeShapes Go.WideShapes Go.ChangeAt Go.RowKit Go.Sort Go.Shelf

/-- The names that begin with something, sorted, as lists of bytes. -/
def DiskS.namesL (D : DiskS) (head : List UInt8) : List (List UInt8) := ((D.files.map fun f => f.name.data.toList).mergeSort (fun x y => decide (x ≤ y))).filter fun x => Lib.hasPrefix x head
def DiskS.names (D : DiskS) (head : ByteArray) : List ByteArray := (D.namesL head.data.toList).map fun l => ⟨l.toArray⟩

theorem sorts46 (m : Nat) : AnyZ.SortsIn Try.prog Try.gSorted_ren Fence.wide m :=
  ⟨fun blk off cap ss W hH hblk hsz => callsIn_wide.2 (AnyM.slices_Sort_string Try.gSort blk off cap ss W hH hblk hsz),
   fun p cap W => callsIn_wide.2 (AnyM.slices_Sort_string_none Try.gSort p cap W)⟩
abbrev KF : Nat := 47
abbrev KI : Nat := 65
theorem keys_any (mb : Option Nat) (W : World) : Calls Try.prog KF #[.map mb] W fun e w' => e = .returned (.func (.func KI) #[] #[.pointer (some ⟨W.heap.size, 0, none⟩)]) ∧ w' = W.alloc (.cells #[.map mb] 73) :=
  callsIn_wide.1 (AnyZ.keys_in Try.gKeys Fence.wide 5 trivial rfl mb W)

set_option maxHeartbeats 1000000 in
theorem sortedKeys_any {m : List (Value × Value)} (b : Nat) (w : World) (h : MapIs w b .string m) (hs : ∀ x ∈ m, (keyB x.1).length ≤ maxLen) (hl : m.length ≤ 1000000) :
    Calls Try.prog 46 #[.func (.func KI) #[] #[.pointer (some ⟨w.heap.size, 0, none⟩)]] (w.alloc (.cells #[.map (some b)] 73)) fun e w' => ∃ (v : Value) (ss : List (List UInt8)), e = .returned v ∧ ss.Perm (m.map fun x => keyB x.1) ∧
      w'.ownsRow (w.heap.size + 1) 9 1 v ss.length ((ss.mergeSort (fun x y => decide (x ≤ y))).map encStr) ∧ (v = .slice none 0 0 ↔ ss = []) ∧ Calm w w' := by
  obtain ⟨D0, hown, hperm, hsize⟩ := h.owns (P := Try.prog) Try.underlying9 hs (by unfold maxLen; omega)
  have hbl := hown.lt
  have hseq : SeqGives Fence.wide 2 Try.prog KI #[.pointer (some ⟨w.heap.size, 0, none⟩)] encStr (fun ss => ss.Perm (strKeys D0)) (Maps.size D0) (w.alloc (.cells #[.map (some b)] 73)) :=
    AnyZ.keys_gives (ρ := Try.gKeys_ren) { Try.gKeys with } Fence.wide _ trivial rfl (by omega) w.heap.size b m.length D0 _ (by simp) (by simp) (by
      obtain ⟨es, clock, hb, Ft, hs, hD⟩ := hown
      exact ⟨es, clock, (Below.heap_alloc _ _ b hbl).trans hb, Ft, hs, hD⟩)
  refine (callsIn_wide.1 (AnyZ.sorted_in Try.gSorted Fence.wide 5 trivial trivial trivial trivial rfl (by omega) (sorts46 _) (enters_of Try.func64 (by kernel_rfl) rfl) KI #[.pointer (some ⟨w.heap.size, 0, none⟩)] trivial (enters_of Try.func65 (by kernel_rfl) rfl) _ _ (by rw [hsize]; unfold maxLen; omega) (by rw [hsize]; omega) _ hseq)).mono ?_
  rintro e w' ⟨v, ss, rfl, hp, hrow, hnil, hb⟩
  refine ⟨v, ss, rfl, hp.trans hperm, ?_, hnil, ?_⟩
  · have h2 := hrow
    simp only [World.size_alloc] at h2
    exact h2
  · exact ((Calm.refl w).alloc _).trans hb

theorem list1_any (x head : List UInt8) (B : Nat) (W : World) (hc : W.cell? ⟨B, 0, none⟩ = some (.string ⟨head.toArray⟩)) :
    FnGives Try.prog 49 #[.pointer (some ⟨B, 0, none⟩)] #[encStr x] (.bool (!Lib.hasPrefix x head)) W := by
  show Calls Try.prog 49 #[encStr x, .pointer (some ⟨B, 0, none⟩)] W _
  have hp := box (Try.strings_HasPrefix ⟨x.toArray⟩ ⟨head.toArray⟩ W)
  go_enter Try.func49, Try.ntmps49
  go_wp2_with fail
  refine hp.out.mono ?_
  rintro e w' ⟨rfl, rfl⟩
  go_wp2_with fail
  go_ret
  exact ⟨by simp, 0, rfl⟩
theorem IndexFuncStrNil_any (a : Option Addr) (c : Nat) (fv : Value) (w : World) : Calls Try.prog 66 #[.slice a 0 c, fv] w fun e w' => e = .returned (.int .i64 (-1)) ∧ w = w' := by
  go_enter Try.func66, Try.ntmps66
  go_wp2
  go_loop [8] (fun i => i = .int .i64 0) (fun _ => 0)
  case atStart => rfl
  case round =>
    obtain rfl := hrel
    go_wp2
    go_ret
    exact ⟨rfl, rfl⟩
theorem DeleteFuncStrNil_any (a : Option Addr) (c : Nat) (fv : Value) (w : World) : Calls Try.prog 48 #[.slice a 0 c, fv] w fun e w' => e = .returned (.slice a 0 c) ∧ w = w' := by
  go_enter Try.func48, Try.ntmps48
  go_wp2_with fail
  refine (IndexFuncStrNil_any a c fv w).mono ?_
  rintro e w' ⟨rfl, rfl⟩
  go_wp2_with fail
  go_ret
  exact ⟨rfl, rfl⟩
theorem calm_put {α : Type} [Inhabited α] {enc : α → Value} {w w1 : World} (h : Calm w w1) {q g off : Nat} {d : Array α} (hg : w.heap.size ≤ g) : Calm w (putRow enc (Sort.ahead w1 q) g off d) := by
  refine ⟨h.os, h.tape, h.output, ?_, fun k hk => ?_⟩
  · simpa [putRow, mapBlock, Sort.ahead] using h.size
  · have : (putRow enc (Sort.ahead w1 q) g off d).heap[k]? = w1.heap[k]? := by
      simp only [putRow, mapBlock, Sort.ahead, Array.getElem?_modify]
      rw [if_neg (by omega)]
    rw [this]; exact h.block k hk

/-- What 'List' leaves. -/
def ListDone (D : DiskS) (head : ByteArray) (w : World) (e : Ending) (w' : World) : Prop :=
  ∃ v, e = .returned v ∧ StrsAt w' v (D.names head) ∧ Calm w w' ∧ ∀ a n c, v = .slice (some a) n c → w.heap.size ≤ a.block
theorem zeroStr (w : World) : (zeroValue 9).run Try.prog w = .ok (encStr []) w := by kernel_rfl
set_option maxRecDepth 100000 in
set_option maxHeartbeats 4000000 in
theorem List_any {p : Nat} {D : DiskS} {F : Nat → Prop} (head : ByteArray) (w : World) (h : DiskAt w p D F) (hn : ∀ f ∈ D.files, f.name.size ≤ maxLen) (hl : D.files.length ≤ 1000000) :
    Calls Try.prog 27 #[ptrTo p, .string head] w (ListDone D head w) := by
  obtain ⟨mb, wv, h, rfl⟩ := h
  have hcalm : Calm w (w.alloc (.cells #[.string head] 9)) := (Calm.refl w).alloc _
  have h1 := h.calm hcalm
  obtain ⟨c0, c1, c2, c3, c4⟩ := h1.cells
  have hk0 := sortedKeys_any mb _ h1.map (fun x hx => by obtain ⟨f, hf, rfl⟩ := List.mem_map.1 hx; simpa [encF, keyB] using hn f hf) (by simpa using hl)
  simp only [World.size_alloc] at hk0
  have hk := box hk0
  clear hk0
  have hkeys : D.files.map (fun f => f.name.data.toList) = (D.files.map encF).map fun x => keyB x.1 := by rw [List.map_map]; apply List.map_congr_left; intro f _; simp [encF, keyB]
  have Hkeys := box hkeys
  have Hl := box hl
  have Hcalm := box hcalm
  clear h h1 hn hl hkeys hcalm
  go_enter Try.func27, Try.ntmps27
  go_wp2_with fail
  refine (keys_any _ _).mono ?_
  rintro e w1 ⟨rfl, rfl⟩
  go_wp2_with fail
  refine hk.out.mono ?_
  rintro e w2 ⟨v, ss, rfl, hperm, hrow, hnil, hc2⟩
  have hsort : ss.mergeSort (fun x y => decide (x ≤ y)) = (D.files.map fun f => f.name.data.toList).mergeSort (fun x y => decide (x ≤ y)) := by rw [Hkeys.out]; exact mergeSort_of_perm hperm
  rw [hsort] at hrow
  have hlen : ss.length = ((D.files.map fun f => f.name.data.toList).mergeSort (fun x y => decide (x ≤ y))).length := by rw [← hsort]; simp
  have hll := box (show ss.length ≤ 1000000 by rw [hlen]; simpa using Hl.out)
  have HN := box (show D.names head = ((((D.files.map fun f => f.name.data.toList).mergeSort (fun x y => decide (x ≤ y))).filter fun x => Lib.hasPrefix x head.data.toList)).map (fun l => (⟨l.toArray⟩ : ByteArray)) from rfl)
  obtain ⟨L, hL⟩ : ∃ L, (D.files.map fun f => f.name.data.toList).mergeSort (fun x y => decide (x ≤ y)) = L := ⟨_, rfl⟩
  rw [hL] at hrow hlen HN
  rw [hlen] at hrow hll
  have Hc2 := box (Hcalm.out.trans hc2)
  have hhead : w2.cell? ⟨w.heap.size, 0, none⟩ = some (.string ⟨head.data.toList.toArray⟩) := by
    rw [hc2.cell (p := ⟨w.heap.size, 0, none⟩) (by simp)]
    have := cell_of (heap_new w (.cells #[.string head] 9)) 0
    rw [this]; rfl
  have Hhead := box hhead
  have hsz2 := box hc2.size
  clear hsort hL hhead hperm hc2
  rcases hrow.2 with ⟨rfl, h0⟩ | ⟨g, cap, cur, rfl, hg, hgc, r2, r3, r4, r5⟩
  · have hLn : L = [] := List.eq_nil_of_length_eq_zero h0
    subst hLn
    clear hrow hnil hlen h0
    go_wp2_with fail
    refine (DeleteFuncStrNil_any _ _ _ _).mono ?_
    rintro e w3 ⟨rfl, rfl⟩
    go_wp2_with fail
    go_ret
    exact ⟨_, rfl, by rw [HN.out]; exact .inl ⟨rfl, _, _, rfl⟩, Hc2.out, fun a n c e => by cases e⟩
  · have hH : Holds encStr w2 g 0 L.toArray := fun j hj => by
      simp only [List.size_toArray] at hj
      have hcj : cur[j]? = some (encStr L[j]) := by
        have h5 := congrArg (fun l => l[j]?) r5
        simp only [List.getElem?_map] at h5
        rw [List.getElem?_take_of_lt (by omega), Array.getElem?_toList, List.getElem?_eq_getElem hj] at h5
        exact h5
      rw [Nat.zero_add, cell_of hgc, hcj]
      exact ⟨by simp [hj], free_of hgc j⟩
    have hne : w.heap.size ≠ g := by omega
    have hgw : w.heap.size ≤ g := by omega
    have hcon := AnyE.slices_DeleteFunc Try.gDelStr encStr (fun _ => rfl) (fun x => !Lib.hasPrefix x head.data.toList) 49 #[.pointer (some ⟨w.heap.size, 0, none⟩)] (enters_of Try.func49 (by kernel_rfl) rfl) [] zeroStr g 0 cap L.toArray w2
      (fun W x hb => list1_any x _ _ W (by rw [hb.cell (p := ⟨w.heap.size, 0, none⟩) (by have := hsz2.out; simp at this; simp; omega)]; exact Hhead.out))
      (fun n os dk x _ => list1_any x _ _ _ (by
        unfold sortWorld
        rw [cell?_grow _ _ _ (by show w.heap.size < (putRow _ _ _ _ _).heap.size; rw [size_putRow]; have := hsz2.out; simp at this; show w.heap.size < w2.heap.size; omega), cell?_putRow_other _ _ g 0 _ _ (Or.inl hne)]
        exact Hhead.out)) hH (by simp; have := hll.out; omega) (by simp; omega)
    simp only [List.size_toArray, Bool.not_not] at hcon
    obtain ⟨K, hK⟩ : ∃ K, L.filter (fun x => Lib.hasPrefix x head.data.toList) = K := ⟨_, rfl⟩
    have hKL : K.length ≤ L.length := by rw [← hK]; exact List.length_filter_le _ _
    rw [hK] at hcon HN
    change Calls Try.prog 48 _ _ _ at hcon
    have Hcon := box hcon
    have HH := box hH
    clear hcon hH hnil hrow hlen r2 r3 r4 r5 hg hgc hK
    go_wp2_with fail
    refine Hcon.out.mono ?_
    rintro e w3 ⟨rfl, q, rfl⟩
    go_wp2_with fail
    go_ret
    refine ⟨_, rfl, ?_, calm_put Hc2.out hgw, fun a n c e => by cases e; exact hgw⟩
    rw [HN.out]
    refine .inr ⟨g, 0, cap, by rw [List.length_map]; rfl, fun k hk => ?_⟩
    rw [List.length_map] at hk
    have hHa : Holds encStr (Sort.ahead w2 q) g 0 L.toArray := HH.out
    rw [cell?_putRow encStr _ g 0 L.toArray _ hHa (by simp; omega) k (by simp; omega)]
    simp [List.getD_eq_getElem?_getD, hk, encStr, List.getElem?_append_left]
end Go.Proofs.Ytbmhjojlbmbpkaa.dk
