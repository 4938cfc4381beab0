/-
  DERIVED: THE SHELF's CONTRACTS AT THIS DUMP, IN PLAIN WORDS (tools/lay-plain.mjs out of 'TryShelf.lean', which tools/lay-shelf.mjs wrote): THE SAME DECLARATIONS UNDER THE SAME NAMES: 'import', 'namespace', 'open', 'def', 'theorem' AND NOTHING ELSE: no command of the shelf's: FOR A HAND-IN. Each laying: the table of numbers ('.._ren') and one theorem, a field a fact of the dump's own or the kernel's comparison; each contract: ONE APPLICATION.
-/
import Derived.Test.YtbmhjojlbmbpkaaRows
import Derived.WalkKit
import Derived.ProofKit
import Derived.OpenShut
import Derived.Handy
import Derived.Deep.LoopGhost
import Derived.Lib.Hide
import Derived.Lib.Strings
import Derived.SizedLaws
import Derived.Maps.Own
import Derived.Maps.OwnOps
import Derived.Maps.OwnSet
import Derived.Maps.RangeWalk
import Derived.Deep.QuietTactic
import Derived.BigQuiet
import Derived.Deep.RegionHeld3
import Derived.Lib.ConvBytes
import Derived.Lib.AppendZeros
import Derived.Lib.AppendZerosOnto
import Derived.Lib.LazyBuf
import Derived.Shelf.Abstract
import Derived.LaidEql
import Derived.Lib.SliceRun
import Derived.StillTailTactics
import Derived.Outline
import Derived.Deep.Slices
import Derived.Shelf.SlIter.Nil
import Derived.Ground.GgzProg
import Derived.Shelf.SortM.Plain
import Derived.Shelf.SortM.SortNone
import Derived.Ground.SlgmProg
import Derived.Shelf.SlicesE.DeleteFunc
import Derived.Ground.SlgfProg
import Derived.Test.YtbmhjojlbmbpkaaProg
import Derived.Shelf.Strings.Builder1
import Derived.Shelf.Small.Bits
import Derived.Shelf.Strings.BuilderF
import Derived.Shelf.Strings.BuilderK
import Derived.Shelf.Strconv.Itoa0
import Derived.Shelf.Sort.Plain
import Derived.Shelf.Strings.Prefix
import Derived.Shelf.Strings.BuilderCap
import Derived.Shelf.Slices.In.SortNone
import Derived.Shelf.SlicesE.IndexFunc
import Derived.Test.YtbmhjojlbmbpkaaPk13
namespace Go.Proofs
open Go.Shelf
def Try.lays169_ren : Go.Shelf.Ren := ⟨fun | 169 => 70 | n => n, fun | 70 => 114 | 9 => 9 | 0 => 0 | 72 => 116 | 37 => 43 | 127 => 132 | 3 => 3 | 5 => 5 | n => n, fun | n => n⟩
theorem Try.lays169 : Go.Proofs.Lays.n169 Try.prog Try.lays169_ren := {
  mixed := by kernel_rfl
  f169 := Try.func70.trans (congrArg some (by kernel_rfl))
  t0 := Try.underlying0
  a0 := Try.isAgg0
  z0 := Try.sizeOf0
  v0 := Try.zeroValue0
  t3 := Try.underlying3
  a3 := Try.isAgg3
  z3 := Try.sizeOf3
  v3 := Try.zeroValue3
  t9 := Try.underlying9
  a9 := Try.isAgg9
  z9 := Try.sizeOf9
  v9 := Try.zeroValue9
  t37 := Try.underlying43
  a37 := Try.isAgg43
  z37 := Try.sizeOf43
  v37 := Try.zeroValue43
  t70 := Try.underlying114
  a70 := Try.isAgg114
  z70 := Try.sizeOf114
  v70 := Try.zeroValue114
  t72 := Try.underlying116
  a72 := Try.isAgg116
  z72 := Try.sizeOf116
  v72 := Try.zeroValue116
  t127 := Try.underlying132
  a127 := Try.isAgg132
  z127 := Try.sizeOf132
  v127 := Try.zeroValue132 }
theorem Try.Builder_Extra_169 : Builder.Extra Try.prog Try.lays169_ren := {
  sizeBuilder := by kernel_rfl
  liesBuilder := by kernel_rfl
  t5 := Try.underlying5
  a5 := Try.isAgg5
  z5 := Try.sizeOf5
  v5 := Try.zeroValue5
  infoByte := by kernel_rfl
  cellsByte := by kernel_rfl
  sizeByte := by kernel_rfl
  neB5 := by decide }
open Go.RowKit in
/-- (*strings.Builder).String: "String returns the accumulated string.": OF A BUILDER THAT HOLDS AT LEAST ONE BYTE. ✋ THE MODEL FREEZES THOSE BYTES IN THE BUFFER (unsafe.String): a later write INTO them ends the model's run without an answer; a later append BEHIND them goes on. The statement's order of evaluation is drawn: one draw. (LAID: no walk: one application.) -/
theorem Try.Builder_String (B b : Nat) (l : List UInt8) (w : World) (h : Lib.IsBuilder 116 5 B b (Lib.byteCells l) w) (h0 : l ≠ []) :
    Calls Try.prog 70 #[.pointer (some ⟨b, 0, none⟩)] w fun e w' => e = .returned (.string ⟨l.toArray⟩) ∧ Below B w w' := Any.Builder_String Try.lays169 Try.Builder_Extra_169 B b l w h h0
open Go.RowKit in
/-- (*strings.Builder).String OF A BUILDER THAT HOLDS NO BYTE: the empty string. (Its buffer is nil, or a row of which it has taken nothing yet; where that row has NO capacity the model lays one new block for unsafe.SliceData's 'some address'.) One draw. (LAID: no walk: one application.) -/
theorem Try.Builder_String_empty (B b : Nat) (w : World) (h : Lib.IsBuilder 116 5 B b [] w) (hBw : B ≤ w.heap.size) :
    Calls Try.prog 70 #[.pointer (some ⟨b, 0, none⟩)] w fun e w' => e = .returned (.string ⟨#[]⟩) ∧ Below B w w' := Any.Builder_String_empty Try.lays169 Try.Builder_Extra_169 B b w h hBw
open Go.RowKit in
/-- (*strings.Builder).String: "String returns the accumulated string.": WHATEVER THE BUILDER HOLDS. (LAID: no walk: one application.) -/
theorem Try.Builder_String_any (B b : Nat) (l : List UInt8) (w : World) (h : Lib.IsBuilder 116 5 B b (Lib.byteCells l) w) (hBw : B ≤ w.heap.size) :
    Calls Try.prog 70 #[.pointer (some ⟨b, 0, none⟩)] w fun e w' => e = .returned (.string ⟨l.toArray⟩) ∧ Below B w w' := Any.Builder_String_any Try.lays169 Try.Builder_Extra_169 B b l w h hBw
def Try.lays128_ren : Go.Shelf.Ren := ⟨fun | 128 => 89 | n => n, fun | 51 => 141 | 3 => 3 | 4 => 4 | 46 => 131 | 5 => 5 | 9 => 9 | n => n, fun | n => n⟩
theorem Try.lays128 : Go.Proofs.Lays.n128 Try.prog Try.lays128_ren := {
  mixed := by kernel_rfl
  f128 := Try.func89.trans (congrArg some (by kernel_rfl))
  t3 := Try.underlying3
  a3 := Try.isAgg3
  z3 := Try.sizeOf3
  v3 := Try.zeroValue3
  t4 := Try.underlying4
  a4 := Try.isAgg4
  z4 := Try.sizeOf4
  v4 := Try.zeroValue4
  t5 := Try.underlying5
  a5 := Try.isAgg5
  z5 := Try.sizeOf5
  v5 := Try.zeroValue5
  t9 := Try.underlying9
  a9 := Try.isAgg9
  z9 := Try.sizeOf9
  v9 := Try.zeroValue9
  t46 := Try.underlying131
  a46 := Try.isAgg131
  z46 := Try.sizeOf131
  v46 := Try.zeroValue131
  t51 := Try.underlying141
  a51 := Try.isAgg141
  z51 := Try.sizeOf141
  v51 := Try.zeroValue141 }
/-- bits.Len32: "Len32 returns the minimum number of bits required to represent x; the result is 0 for x == 0.": IT RETURNS 'Lib.bitLen x'; the world is as it was. ('h0', 'h1': x is a uint32.) (LAID: no walk: one application.) -/
theorem Try.bits_Len32 (x : Int) (w : World) (h0 : 0 ≤ x) (h1 : x ≤ 4294967295) :
    Calls Try.prog 89 #[.int .u32 x] w fun e w' => e = .returned (.int .i64 (Lib.bitLen x.toNat)) ∧ w' = w := Any.bits_Len32 Try.lays128 x w h0 h1
def Try.lays125_ren : Go.Shelf.Ren := ⟨fun | 125 => 78 | 128 => 89 | 129 => 90 | n => n, fun | 46 => 131 | 3 => 3 | 51 => 141 | 53 => 143 | 4 => 4 | 5 => 5 | 9 => 9 | n => n, fun | n => n⟩
theorem Try.lays125 : Go.Proofs.Lays.n125 Try.prog Try.lays125_ren := {
  mixed := by kernel_rfl
  f125 := Try.func78.trans (congrArg some (by kernel_rfl))
  f128 := Try.func89.trans (congrArg some (by kernel_rfl))
  f129 := Try.func90.trans (congrArg some (by kernel_rfl))
  t3 := Try.underlying3
  a3 := Try.isAgg3
  z3 := Try.sizeOf3
  v3 := Try.zeroValue3
  t4 := Try.underlying4
  a4 := Try.isAgg4
  z4 := Try.sizeOf4
  v4 := Try.zeroValue4
  t5 := Try.underlying5
  a5 := Try.isAgg5
  z5 := Try.sizeOf5
  v5 := Try.zeroValue5
  t9 := Try.underlying9
  a9 := Try.isAgg9
  z9 := Try.sizeOf9
  v9 := Try.zeroValue9
  t46 := Try.underlying131
  a46 := Try.isAgg131
  z46 := Try.sizeOf131
  v46 := Try.zeroValue131
  t51 := Try.underlying141
  a51 := Try.isAgg141
  z51 := Try.sizeOf141
  v51 := Try.zeroValue141
  t53 := Try.underlying143
  a53 := Try.isAgg143
  z53 := Try.sizeOf143
  v53 := Try.zeroValue143 }
/-- bits.Len: "Len returns the minimum number of bits required to represent x; the result is 0 for x == 0.": IT RETURNS 'Lib.bitLen x'; the world is as it was. (A uint has 64 bits in the model.) ITS CALLEE bits.Len64 IS MET BY ITS OWN CONTRACT OFF THE SHELF (lay that first). (LAID: no walk: one application.) -/
theorem Try.bits_Len (x : Int) (w : World) (h0 : 0 ≤ x) (h1 : x ≤ 18446744073709551615) :
    Calls Try.prog 78 #[.int .u64 x] w fun e w' => e = .returned (.int .i64 (Lib.bitLen x.toNat)) ∧ w' = w := Any.bits_Len Try.lays125 x w h0 h1
open Go.RowKit in
/-- (*strings.Builder).String: "String returns the accumulated string.": OF A BUILDER THAT HOLDS AT LEAST ONE BYTE. ✋ THE MODEL FREEZES THOSE BYTES IN THE BUFFER (unsafe.String): a later write INTO them ends the model's run without an answer; a later append BEHIND them goes on. The statement's order of evaluation is drawn: one draw. THE FORM '_f': IT SAYS BESIDES THAT THE BUILDER IS A BUILDER STILL ('Lib.IsBuilderF', the same bytes): SO IT CAN BE WRITTEN ON: 'b.WriteString(b.String()[:k])'. (LAID: no walk: one application.) -/
theorem Try.Builder_String_f (B b : Nat) (l : List UInt8) (w : World) (h : Lib.IsBuilderF 116 5 B b (Lib.byteCells l) w) (h0 : l ≠ []) :
    Calls Try.prog 70 #[.pointer (some ⟨b, 0, none⟩)] w fun e w' => e = .returned (.string ⟨l.toArray⟩) ∧ (Lib.IsBuilderF 116 5 B b (Lib.byteCells l) w' ∧ Below B w w') := Any.Builder_String_f Try.lays169 Try.Builder_Extra_169 B b l w h h0
open Go.RowKit in
/-- (*strings.Builder).String OF A BUILDER THAT HOLDS NO BYTE: the empty string; THE FORM '_f': a builder still. (LAID: no walk: one application.) -/
theorem Try.Builder_String_empty_f (B b : Nat) (w : World) (h : Lib.IsBuilderF 116 5 B b [] w) (hBw : B ≤ w.heap.size) :
    Calls Try.prog 70 #[.pointer (some ⟨b, 0, none⟩)] w fun e w' => e = .returned (.string ⟨#[]⟩) ∧ (Lib.IsBuilderF 116 5 B b [] w' ∧ Below B w w') := Any.Builder_String_empty_f Try.lays169 Try.Builder_Extra_169 B b w h hBw
open Go.RowKit in
/-- (*strings.Builder).String: "String returns the accumulated string.": WHATEVER THE BUILDER HOLDS; THE FORM '_f': OF A BUILDER THAT MAY HAVE BEEN READ BEFORE; AND IT IS A BUILDER STILL, holding the same bytes: it can be written on. (LAID: no walk: one application.) -/
theorem Try.Builder_String_any_f (B b : Nat) (l : List UInt8) (w : World) (h : Lib.IsBuilderF 116 5 B b (Lib.byteCells l) w) (hBw : B ≤ w.heap.size) :
    Calls Try.prog 70 #[.pointer (some ⟨b, 0, none⟩)] w fun e w' => e = .returned (.string ⟨l.toArray⟩) ∧ (Lib.IsBuilderF 116 5 B b (Lib.byteCells l) w' ∧ Below B w w') := Any.Builder_String_any_f Try.lays169 Try.Builder_Extra_169 B b l w h hBw
open Go.RowKit in
/-- (*strings.Builder).String: "String returns the accumulated string.": OF A BUILDER THAT HOLDS AT LEAST ONE BYTE. ✋ THE MODEL FREEZES THOSE BYTES IN THE BUFFER (unsafe.String): a later write INTO them ends the model's run without an answer; a later append BEHIND them goes on. The statement's order of evaluation is drawn: one draw. THE FORM '_k': OVER 'Lib.IsBuilderF' (a builder that 'String()' may have read), AND WITH THE FRAME THAT REACHES ABOVE THE BUILDER: 'Lib.OthersKept': every block that is not b and is no row of uint8's stands as it stood: the iterator of a range among them. (LAID: no walk: one application.) -/
theorem Try.Builder_String_k (B b : Nat) (l : List UInt8) (w : World) (h : Lib.IsBuilderF 116 5 B b (Lib.byteCells l) w) (h0 : l ≠ []) :
    Calls Try.prog 70 #[.pointer (some ⟨b, 0, none⟩)] w fun e w' => e = .returned (.string ⟨l.toArray⟩) ∧ (Lib.IsBuilderF 116 5 B b (Lib.byteCells l) w' ∧ Below B w w' ∧ Lib.OthersKept 5 (some b) w w') := Any.Builder_String_k Try.lays169 Try.Builder_Extra_169 B b l w h h0
open Go.RowKit in
/-- (*strings.Builder).String OF A BUILDER THAT HOLDS NO BYTE: the empty string; THE FORM '_k': OVER 'Lib.IsBuilderF' (a builder that 'String()' may have read), AND WITH THE FRAME THAT REACHES ABOVE THE BUILDER: 'Lib.OthersKept': every block that is not b and is no row of uint8's stands as it stood: the iterator of a range among them. (LAID: no walk: one application.) -/
theorem Try.Builder_String_empty_k (B b : Nat) (w : World) (h : Lib.IsBuilderF 116 5 B b [] w) (hBw : B ≤ w.heap.size) :
    Calls Try.prog 70 #[.pointer (some ⟨b, 0, none⟩)] w fun e w' => e = .returned (.string ⟨#[]⟩) ∧ (Lib.IsBuilderF 116 5 B b [] w' ∧ Below B w w' ∧ Lib.OthersKept 5 (some b) w w') := Any.Builder_String_empty_k Try.lays169 Try.Builder_Extra_169 B b w h hBw
open Go.RowKit in
/-- (*strings.Builder).String: "String returns the accumulated string.": WHATEVER THE BUILDER HOLDS; THE FORM '_k': OVER 'Lib.IsBuilderF' (a builder that 'String()' may have read), AND WITH THE FRAME THAT REACHES ABOVE THE BUILDER: 'Lib.OthersKept': every block that is not b and is no row of uint8's stands as it stood: the iterator of a range among them. (LAID: no walk: one application.) -/
theorem Try.Builder_String_any_k (B b : Nat) (l : List UInt8) (w : World) (h : Lib.IsBuilderF 116 5 B b (Lib.byteCells l) w) (hBw : B ≤ w.heap.size) :
    Calls Try.prog 70 #[.pointer (some ⟨b, 0, none⟩)] w fun e w' => e = .returned (.string ⟨l.toArray⟩) ∧ (Lib.IsBuilderF 116 5 B b (Lib.byteCells l) w' ∧ Below B w w' ∧ Lib.OthersKept 5 (some b) w w') := Any.Builder_String_any_k Try.lays169 Try.Builder_Extra_169 B b l w h hBw
def Try.lays129_ren : Go.Shelf.Ren := ⟨fun | 129 => 90 | n => n, fun | 53 => 143 | 3 => 3 | 4 => 4 | 46 => 131 | 5 => 5 | 9 => 9 | n => n, fun | n => n⟩
theorem Try.lays129 : Go.Proofs.Lays.n129 Try.prog Try.lays129_ren := {
  mixed := by kernel_rfl
  f129 := Try.func90.trans (congrArg some (by kernel_rfl))
  t3 := Try.underlying3
  a3 := Try.isAgg3
  z3 := Try.sizeOf3
  v3 := Try.zeroValue3
  t4 := Try.underlying4
  a4 := Try.isAgg4
  z4 := Try.sizeOf4
  v4 := Try.zeroValue4
  t5 := Try.underlying5
  a5 := Try.isAgg5
  z5 := Try.sizeOf5
  v5 := Try.zeroValue5
  t9 := Try.underlying9
  a9 := Try.isAgg9
  z9 := Try.sizeOf9
  v9 := Try.zeroValue9
  t46 := Try.underlying131
  a46 := Try.isAgg131
  z46 := Try.sizeOf131
  v46 := Try.zeroValue131
  t53 := Try.underlying143
  a53 := Try.isAgg143
  z53 := Try.sizeOf143
  v53 := Try.zeroValue143 }
/-- bits.Len64: "Len64 returns the minimum number of bits required to represent x; the result is 0 for x == 0.": IT RETURNS 'Lib.bitLen x'; the world is as it was. ('h0', 'h1': x is a uint64.) (LAID: no walk: one application.) -/
theorem Try.bits_Len64 (x : Int) (w : World) (h0 : 0 ≤ x) (h1 : x ≤ 18446744073709551615) :
    Calls Try.prog 90 #[.int .u64 x] w fun e w' => e = .returned (.int .i64 (Lib.bitLen x.toNat)) ∧ w' = w := Any.bits_Len64 Try.lays129 x w h0 h1
def Try.lays190_ren : Go.Shelf.Ren := ⟨fun | 190 => 64 | 125 => 78 | 258 => 77 | 128 => 89 | 129 => 90 | 302 => 80 | 303 => 81 | 304 => 82 | 305 => 83 | 306 => 84 | 307 => 85 | 308 => 86 | 309 => 87 | 310 => 88 | 333 => 92 | 329 => 93 | 330 => 94 | 334 => 95 | 335 => 96 | 336 => 97 | 344 => 98 | n => n, fun | 31 => 31 | 9 => 9 | 3 => 3 | 46 => 131 | 0 => 0 | 51 => 141 | 53 => 143 | 4 => 4 | 183 => 135 | 182 => 134 | 131 => 47 | 5 => 5 | 218 => 146 | 222 => 150 | 228 => 152 | 229 => 153 | n => n, fun | n => n⟩
theorem Try.lays190 : Go.Proofs.Lays.n190 Try.prog Try.lays190_ren := {
  mixed := by kernel_rfl
  f125 := Try.func78.trans (congrArg some (by kernel_rfl))
  f128 := Try.func89.trans (congrArg some (by kernel_rfl))
  f129 := Try.func90.trans (congrArg some (by kernel_rfl))
  f190 := Try.func64.trans (congrArg some (by kernel_rfl))
  f258 := Try.func77.trans (congrArg some (by kernel_rfl))
  f302 := Try.func80.trans (congrArg some (by kernel_rfl))
  f303 := Try.func81.trans (congrArg some (by kernel_rfl))
  f304 := Try.func82.trans (congrArg some (by kernel_rfl))
  f305 := Try.func83.trans (congrArg some (by kernel_rfl))
  f306 := Try.func84.trans (congrArg some (by kernel_rfl))
  f307 := Try.func85.trans (congrArg some (by kernel_rfl))
  f308 := Try.func86.trans (congrArg some (by kernel_rfl))
  f309 := Try.func87.trans (congrArg some (by kernel_rfl))
  f310 := Try.func88.trans (congrArg some (by kernel_rfl))
  f329 := Try.func93.trans (congrArg some (by kernel_rfl))
  f330 := Try.func94.trans (congrArg some (by kernel_rfl))
  f333 := Try.func92.trans (congrArg some (by kernel_rfl))
  f334 := Try.func95.trans (congrArg some (by kernel_rfl))
  f335 := Try.func96.trans (congrArg some (by kernel_rfl))
  f336 := Try.func97.trans (congrArg some (by kernel_rfl))
  f344 := Try.func98.trans (congrArg some (by kernel_rfl))
  t0 := Try.underlying0
  a0 := Try.isAgg0
  z0 := Try.sizeOf0
  v0 := Try.zeroValue0
  t3 := Try.underlying3
  a3 := Try.isAgg3
  z3 := Try.sizeOf3
  v3 := Try.zeroValue3
  t4 := Try.underlying4
  a4 := Try.isAgg4
  z4 := Try.sizeOf4
  v4 := Try.zeroValue4
  t5 := Try.underlying5
  a5 := Try.isAgg5
  z5 := Try.sizeOf5
  v5 := Try.zeroValue5
  t9 := Try.underlying9
  a9 := Try.isAgg9
  z9 := Try.sizeOf9
  v9 := Try.zeroValue9
  t31 := Try.underlying31
  a31 := Try.isAgg31
  z31 := Try.sizeOf31
  v31 := Try.zeroValue31
  t46 := Try.underlying131
  a46 := Try.isAgg131
  z46 := Try.sizeOf131
  v46 := Try.zeroValue131
  t51 := Try.underlying141
  a51 := Try.isAgg141
  z51 := Try.sizeOf141
  v51 := Try.zeroValue141
  t53 := Try.underlying143
  a53 := Try.isAgg143
  z53 := Try.sizeOf143
  v53 := Try.zeroValue143
  t131 := Try.underlying47
  a131 := Try.isAgg47
  z131 := Try.sizeOf47
  v131 := Try.zeroValue47
  t182 := Try.underlying134
  a182 := Try.isAgg134
  z182 := Try.sizeOf134
  v182 := Try.zeroValue134
  t183 := Try.underlying135
  a183 := Try.isAgg135
  z183 := Try.sizeOf135
  v183 := Try.zeroValue135
  t218 := Try.underlying146
  a218 := Try.isAgg146
  z218 := Try.sizeOf146
  v218 := Try.zeroValue146
  t222 := Try.underlying150
  a222 := Try.isAgg150
  z222 := Try.sizeOf150
  v222 := Try.zeroValue150
  t228 := Try.underlying152
  a228 := Try.isAgg152
  z228 := Try.sizeOf152
  v228 := Try.zeroValue152
  t229 := Try.underlying153
  a229 := Try.isAgg153
  z229 := Try.sizeOf153
  v229 := Try.zeroValue153 }
open Go.Sort Go.RowKit in
theorem Try.slices_Sort_string (blk off cap : Nat) (ss : List (List UInt8)) (w : World) (hH : Holds encStr w blk off ss.toArray) (hblk : blk < w.heap.size) (hsz : ss.length < 4611686018427387904) :
    Calls Try.prog 64 #[.slice (some ⟨blk, off, none⟩) ss.length cap] w fun e w' =>
      e = .returned (.tuple #[]) ∧ ∃ n os, w' = grow (putRow encStr (Sort.ahead w n) blk off (ss.mergeSort fun x y => decide (x ≤ y)).toArray) os := Any.slices_Sort_string Try.lays190 blk off cap ss w hH hblk hsz
def Try.lays206_ren : Go.Shelf.Ren := ⟨fun | 206 => 67 | n => n, fun | 9 => 9 | 4 => 4 | 3 => 3 | n => n, fun | n => n⟩
theorem Try.lays206 : Go.Proofs.Lays.n206 Try.prog Try.lays206_ren := {
  mixed := by kernel_rfl
  f206 := Try.func67.trans (congrArg some (by kernel_rfl))
  t3 := Try.underlying3
  a3 := Try.isAgg3
  z3 := Try.sizeOf3
  v3 := Try.zeroValue3
  t4 := Try.underlying4
  a4 := Try.isAgg4
  z4 := Try.sizeOf4
  v4 := Try.zeroValue4
  t9 := Try.underlying9
  a9 := Try.isAgg9
  z9 := Try.sizeOf9
  v9 := Try.zeroValue9 }
open Go.RowKit Go.Lib in
/-- internal/stringslite.HasPrefix (what strings.HasPrefix calls). (LAID: no walk: one application.) -/
theorem Try.stringslite_HasPrefix (s p : ByteArray) (w : World) :
    Calls Try.prog 67 #[.string s, .string p] w fun e w' => e = .returned (.bool (Lib.hasPrefix s.data.toList p.data.toList)) ∧ w' = w := Any.stringslite_HasPrefix Try.lays206 s p w
def Try.lays99_ren : Go.Shelf.Ren := ⟨fun | 99 => 50 | 206 => 67 | n => n, fun | 9 => 9 | 4 => 4 | 3 => 3 | n => n, fun | n => n⟩
theorem Try.lays99 : Go.Proofs.Lays.n99 Try.prog Try.lays99_ren := {
  mixed := by kernel_rfl
  f99 := Try.func50.trans (congrArg some (by kernel_rfl))
  f206 := Try.func67.trans (congrArg some (by kernel_rfl))
  t3 := Try.underlying3
  a3 := Try.isAgg3
  z3 := Try.sizeOf3
  v3 := Try.zeroValue3
  t4 := Try.underlying4
  a4 := Try.isAgg4
  z4 := Try.sizeOf4
  v4 := Try.zeroValue4
  t9 := Try.underlying9
  a9 := Try.isAgg9
  z9 := Try.sizeOf9
  v9 := Try.zeroValue9 }
open Go.RowKit Go.Lib in
/-- strings.HasPrefix: "HasPrefix reports whether the string s begins with prefix.": IT RETURNS 'Lib.hasPrefix s prefix'; the world is as it was. (LAID: no walk: one application.) -/
theorem Try.strings_HasPrefix (s p : ByteArray) (w : World) :
    Calls Try.prog 50 #[.string s, .string p] w fun e w' => e = .returned (.bool (Lib.hasPrefix s.data.toList p.data.toList)) ∧ w' = w := Any.strings_HasPrefix Try.lays99 s p w
open Go.RowKit Go.Sort in
/-- .. and plain. (LAID: no walk: one application.) -/
theorem Try.slices_Sort_string_none (p : Option Addr) (cap : Nat) (w : World) :
    Calls Try.prog 64 #[.slice p 0 cap] w fun e w' => e = .returned (.tuple #[]) ∧ w' = w := Any.slices_Sort_string_none Try.lays190 p cap w
def Try.laysSlH6_f66_ren : Go.Shelf.Ren := ⟨fun | 6 => 66 | n => n, fun | 22 => 31 | 23 => 9 | 25 => 99 | 3 => 3 | 0 => 0 | 4 => 4 | n => n, fun | n => n⟩
theorem Try.laysSlH6_f66 : Go.Proofs.SlLaysH.n6 Try.prog Try.laysSlH6_f66_ren := {
  mixed := by kernel_rfl
  f6 := ⟨Try.f66.name, by decide, Try.func66.trans (congrArg some (by kernel_rfl))⟩
  t0 := Try.underlying0
  a0 := Try.isAgg0
  z0 := Try.sizeOf0
  v0 := Try.zeroValue0
  t3 := Try.underlying3
  a3 := Try.isAgg3
  z3 := Try.sizeOf3
  v3 := Try.zeroValue3
  t4 := Try.underlying4
  a4 := Try.isAgg4
  z4 := Try.sizeOf4
  v4 := Try.zeroValue4
  t22 := Try.underlying31
  a22 := Try.isAgg31
  z22 := Try.sizeOf31
  v22 := Try.zeroValue31
  a23 := Try.isAgg9
  z23 := Try.sizeOf9
  t25 := Try.underlying99
  a25 := Try.isAgg99
  z25 := Try.sizeOf99
  v25 := Try.zeroValue99 }
open Go.RowKit Go.Lib in
/-- slices.IndexFunc: "IndexFunc returns the first index i satisfying f(s[i]), or -1 if none do." (LAID AT THE INSTANCE 'slices.IndexFunc[[]string,string]': no walk: one application.) -/
theorem Try.slices_IndexFunc {α : Type} [Inhabited α] (enc : α → Value) (p : α → Bool) (g : Nat) (lb : Array Value) (eg : ∀ args w, (callFunc g args).run Try.prog w = .ok (.enter g args) w) (b off n c : Nat) (zs : List α) (w : World) (hp : PredAt Try.prog g lb enc p w) (hz : n ≤ zs.length) (hbig : n ≤ 9223372036854775807) (hc : ∀ j, j < zs.length → w.cell? ⟨b, off + j, none⟩ = some (enc zs[j]!)) :
    Calls Try.prog 66 #[.slice (some ⟨b, off, none⟩) n c, .func (.func g) #[] lb] w fun e w' => e = .returned (.int .i64 (Lib.idxBy (fun _ y => p y) (zs.take n) default)) ∧ ∃ q, w' = w.drewN q := AnyE.slices_IndexFunc Try.laysSlH6_f66 enc p g lb eg b off n c zs w hp hz hbig hc
open Go.RowKit Go.Lib in
/-- The same at a slice of length 0, a nil one too: the predicate is not called: nothing is asked of it. (LAID AT THE INSTANCE 'slices.IndexFunc[[]string,string]': no walk: one application.) -/
theorem Try.slices_IndexFunc_empty {α : Type} [Inhabited α] (a : Option Addr) (c : Nat) (fv : Value) (w : World) :
    Calls Try.prog 66 #[.slice a 0 c, fv] w fun e w' => e = .returned (.int .i64 (-1)) ∧ w' = w := AnyE.slices_IndexFunc_empty Try.laysSlH6_f66 a c fv w
def Try.laysSlH10_f48_ren : Go.Shelf.Ren := ⟨fun | 10 => 48 | 6 => 66 | n => n, fun | 22 => 31 | 23 => 9 | 25 => 99 | 3 => 3 | 4 => 4 | 0 => 0 | n => n, fun | n => n⟩
theorem Try.laysSlH10_f48 : Go.Proofs.SlLaysH.n10 Try.prog Try.laysSlH10_f48_ren := {
  mixed := by kernel_rfl
  f6 := ⟨Try.f66.name, by decide, Try.func66.trans (congrArg some (by kernel_rfl))⟩
  f10 := ⟨Try.f48.name, by decide, Try.func48.trans (congrArg some (by kernel_rfl))⟩
  t0 := Try.underlying0
  a0 := Try.isAgg0
  z0 := Try.sizeOf0
  v0 := Try.zeroValue0
  t3 := Try.underlying3
  a3 := Try.isAgg3
  z3 := Try.sizeOf3
  v3 := Try.zeroValue3
  t4 := Try.underlying4
  a4 := Try.isAgg4
  z4 := Try.sizeOf4
  v4 := Try.zeroValue4
  t22 := Try.underlying31
  a22 := Try.isAgg31
  z22 := Try.sizeOf31
  v22 := Try.zeroValue31
  a23 := Try.isAgg9
  z23 := Try.sizeOf9
  t25 := Try.underlying99
  a25 := Try.isAgg99
  z25 := Try.sizeOf99
  v25 := Try.zeroValue99 }
open Go.RowKit Go.Lib Go.Sort in
theorem Try.slices_DeleteFunc {α : Type} [Inhabited α] (enc : α → Value) (hO : OneCell enc) (p : α → Bool) (g : Nat) (lb : Array Value) (eg : ∀ args w, (callFunc g args).run Try.prog w = .ok (.enter g args) w) (zr : α) (v23 : ∀ w, (zeroValue 9).run Try.prog w = .ok (enc zr) w) (blk off cap : Nat) (d : Array α) (w : World) (hp : PredAt Try.prog g lb enc p w) (hpo : PredOver Try.prog g lb enc p blk off d.size w) (hH : Holds enc w blk off d) (hsz : d.size ≤ 9223372036854775807) (hcap : d.size ≤ cap) :
    Calls Try.prog 48 #[.slice (some ⟨blk, off, none⟩) d.size cap, .func (.func g) #[] lb] w fun e w' => e = .returned (.slice (some ⟨blk, off, none⟩) (d.toList.filter fun x => !p x).length cap) ∧ ∃ q, w' = putRow enc (Sort.ahead w q) blk off ((d.toList.filter fun x => !p x) ++ List.replicate (d.size - (d.toList.filter fun x => !p x).length) zr).toArray := AnyE.slices_DeleteFunc Try.laysSlH10_f48 enc hO p g lb eg zr v23 blk off cap d w hp hpo hH hsz hcap
end Go.Proofs

/- A map's keys, sorted: what the library's contracts want of a map, out of MapIs. -/
namespace Go.Proofs.Ytbmhjojlbmbpkaa
open Go.RowKit Go.Maps Go.Sort Go.Shelf Go.MapKept Go.WideElems

def keyB : Value → List UInt8
  | .string s => s.data.toList
  | _ => []
abbrev noR : Value → Option (DataW Unit × List MemPlace) := fun _ => some (.nil, [])
/-- A map whose keys are texts, as the library's contracts want it. -/
theorem MapIs.owns {P : Program} {w : World} {b : Nat} {k : TypeId} {m : List (Value × Value)} (h : MapIs w b .string m) (hk : P.underlying k = some .string) (hs : ∀ x ∈ m, (keyB x.1).length ≤ maxLen) (hl : m.length ≤ maxLen) :
    ∃ D0 : DataW Unit, w.ownsMap P k noR b m.length D0 ∧ (strKeys D0).Perm (m.map fun x => keyB x.1) ∧ Maps.size D0 = m.length := by
  obtain ⟨es, clock, hb, hst, rfl, hks⟩ := h
  have hrd : ∀ x ∈ es.toList, WideElems.rd P k noR x = some (.string (keyB x.key), .nil) := fun x hx => by
    have h1 := hks x hx
    have h2 := hs (x.key, x.val) (List.mem_map.2 ⟨x, hx, rfl⟩)
    unfold WideElems.rd
    cases hkx : x.key with
    | string s =>
      rw [hkx] at h2
      simp only [keyB] at h2
      unfold keyOf mapKey
      rw [hk]
      have h3 : s.size ≤ maxLen := by simpa using h2
      simp [h3, keyB, noR]
    | _ => rw [hkx] at h1; simp [IsKey] at h1
  refine ⟨.map ((es.toList.map (WideElems.rg P k noR)).foldr DataW.insert []), ⟨es, clock, hb, ⟨by simpa using hl, hst, fun x hx => ⟨_, hrd x hx⟩⟩, by simp, rfl⟩, ?_, ?_⟩
  · have hp := (Go.WideShapes.sorted_perm (es.toList.map (WideElems.rg P k noR))).map (fun p => strOf p.1)
    refine hp.trans (List.Perm.of_eq ?_)
    rw [List.map_map, List.map_map]
    apply List.map_congr_left
    intro x hx
    simp only [Function.comp, WideElems.rg_of (hrd x hx), strOf]
  · have hp := (Go.WideShapes.sorted_perm (es.toList.map (WideElems.rg P k noR))).length_eq
    show (List.foldr DataW.insert [] _).length = _
    rw [hp]; simp
end Go.Proofs.Ytbmhjojlbmbpkaa

/- Layer 4: List. -/
namespace Go.Proofs.Ytbmhjojlbmbpkaa.dk
open Go.ChangeShapes Go.WideShapes Go.ChangeAt Go.RowKit Go.Sort Go.Shelf

/-- The names that begin with something, sorted, as lists of bytes. -/
def DiskS.namesL (D : DiskS) (head : List UInt8) : List (List UInt8) := ((D.files.map fun f => f.name.data.toList).mergeSort (fun x y => decide (x ≤ y))).filter fun x => Lib.hasPrefix x head
def DiskS.names (D : DiskS) (head : ByteArray) : List ByteArray := (D.namesL head.data.toList).map fun l => ⟨l.toArray⟩

theorem sorts46 (m : Nat) : AnyZ.SortsIn Try.prog Try.gSorted_ren Fence.wide m :=
  ⟨fun blk off cap ss W hH hblk hsz => callsIn_wide.2 (AnyM.slices_Sort_string Try.gSort blk off cap ss W hH hblk hsz),
   fun p cap W => callsIn_wide.2 (AnyM.slices_Sort_string_none Try.gSort p cap W)⟩
abbrev KF : Nat := 47
abbrev KI : Nat := 65
theorem keys_any (mb : Option Nat) (W : World) : Calls Try.prog KF #[.map mb] W fun e w' => e = .returned (.func (.func KI) #[] #[.pointer (some ⟨W.heap.size, 0, none⟩)]) ∧ w' = W.alloc (.cells #[.map mb] 73) :=
  callsIn_wide.1 (AnyZ.keys_in Try.gKeys Fence.wide 5 trivial rfl mb W)

set_option maxHeartbeats 1000000 in
theorem sortedKeys_any {m : List (Value × Value)} (b : Nat) (w : World) (h : MapIs w b .string m) (hs : ∀ x ∈ m, (keyB x.1).length ≤ maxLen) (hl : m.length ≤ 1000000) :
    Calls Try.prog 46 #[.func (.func KI) #[] #[.pointer (some ⟨w.heap.size, 0, none⟩)]] (w.alloc (.cells #[.map (some b)] 73)) fun e w' => ∃ (v : Value) (ss : List (List UInt8)), e = .returned v ∧ ss.Perm (m.map fun x => keyB x.1) ∧
      w'.ownsRow (w.heap.size + 1) 9 1 v ss.length ((ss.mergeSort (fun x y => decide (x ≤ y))).map encStr) ∧ (v = .slice none 0 0 ↔ ss = []) ∧ Calm w w' := by
  obtain ⟨D0, hown, hperm, hsize⟩ := h.owns (P := Try.prog) Try.underlying9 hs (by unfold maxLen; omega)
  have hbl := hown.lt
  have hseq : SeqGives Fence.wide 2 Try.prog KI #[.pointer (some ⟨w.heap.size, 0, none⟩)] encStr (fun ss => ss.Perm (strKeys D0)) (Maps.size D0) (w.alloc (.cells #[.map (some b)] 73)) :=
    AnyZ.keys_gives (ρ := Try.gKeys_ren) { Try.gKeys with } Fence.wide _ trivial rfl (by omega) w.heap.size b m.length D0 _ (by simp) (by simp) (by
      obtain ⟨es, clock, hb, Ft, hs, hD⟩ := hown
      exact ⟨es, clock, (Below.heap_alloc _ _ b hbl).trans hb, Ft, hs, hD⟩)
  refine (callsIn_wide.1 (AnyZ.sorted_in Try.gSorted Fence.wide 5 trivial trivial trivial trivial rfl (by omega) (sorts46 _) (enters_of Try.func64 (by kernel_rfl) rfl) KI #[.pointer (some ⟨w.heap.size, 0, none⟩)] trivial (enters_of Try.func65 (by kernel_rfl) rfl) _ _ (by rw [hsize]; unfold maxLen; omega) (by rw [hsize]; omega) _ hseq)).mono ?_
  rintro e w' ⟨v, ss, rfl, hp, hrow, hnil, hb⟩
  refine ⟨v, ss, rfl, hp.trans hperm, ?_, hnil, ?_⟩
  · have h2 := hrow
    simp only [World.size_alloc] at h2
    exact h2
  · exact ((Calm.refl w).alloc _).trans hb

theorem list1_any (x head : List UInt8) (B : Nat) (W : World) (hc : W.cell? ⟨B, 0, none⟩ = some (.string ⟨head.toArray⟩)) :
    FnGives Try.prog 49 #[.pointer (some ⟨B, 0, none⟩)] #[encStr x] (.bool (!Lib.hasPrefix x head)) W := by
  show Calls Try.prog 49 #[encStr x, .pointer (some ⟨B, 0, none⟩)] W _
  have hp := box (Try.strings_HasPrefix ⟨x.toArray⟩ ⟨head.toArray⟩ W)
  go_enter Try.func49, Try.ntmps49
  go_wp2_with fail
  refine hp.out.mono ?_
  rintro e w' ⟨rfl, rfl⟩
  go_wp2_with fail
  go_ret
  exact ⟨by simp, 0, rfl⟩
theorem IndexFuncStrNil_any (a : Option Addr) (c : Nat) (fv : Value) (w : World) : Calls Try.prog 66 #[.slice a 0 c, fv] w fun e w' => e = .returned (.int .i64 (-1)) ∧ w = w' := by
  go_enter Try.func66, Try.ntmps66
  go_wp2
  go_loop [8] (fun i => i = .int .i64 0) (fun _ => 0)
  case atStart => rfl
  case round =>
    obtain rfl := hrel
    go_wp2
    go_ret
    exact ⟨rfl, rfl⟩
theorem DeleteFuncStrNil_any (a : Option Addr) (c : Nat) (fv : Value) (w : World) : Calls Try.prog 48 #[.slice a 0 c, fv] w fun e w' => e = .returned (.slice a 0 c) ∧ w = w' := by
  go_enter Try.func48, Try.ntmps48
  go_wp2_with fail
  refine (IndexFuncStrNil_any a c fv w).mono ?_
  rintro e w' ⟨rfl, rfl⟩
  go_wp2_with fail
  go_ret
  exact ⟨rfl, rfl⟩
theorem calm_put {α : Type} [Inhabited α] {enc : α → Value} {w w1 : World} (h : Calm w w1) {q g off : Nat} {d : Array α} (hg : w.heap.size ≤ g) : Calm w (putRow enc (Sort.ahead w1 q) g off d) := by
  refine ⟨h.os, h.tape, h.output, ?_, fun k hk => ?_⟩
  · simpa [putRow, mapBlock, Sort.ahead] using h.size
  · have : (putRow enc (Sort.ahead w1 q) g off d).heap[k]? = w1.heap[k]? := by
      simp only [putRow, mapBlock, Sort.ahead, Array.getElem?_modify]
      rw [if_neg (by omega)]
    rw [this]; exact h.block k hk

/-- What 'List' leaves. -/
def ListDone (D : DiskS) (head : ByteArray) (w : World) (e : Ending) (w' : World) : Prop :=
  ∃ v, e = .returned v ∧ StrsAt w' v (D.names head) ∧ Calm w w' ∧ ∀ a n c, v = .slice (some a) n c → w.heap.size ≤ a.block
theorem zeroStr (w : World) : (zeroValue 9).run Try.prog w = .ok (encStr []) w := by kernel_rfl
set_option maxRecDepth 100000 in
set_option maxHeartbeats 4000000 in
theorem List_any {p : Nat} {D : DiskS} {F : Nat → Prop} (head : ByteArray) (w : World) (h : DiskAt w p D F) (hn : ∀ f ∈ D.files, f.name.size ≤ maxLen) (hl : D.files.length ≤ 1000000) :
    Calls Try.prog 27 #[ptrTo p, .string head] w (ListDone D head w) := by
  obtain ⟨mb, wv, h, rfl⟩ := h
  have hcalm : Calm w (w.alloc (.cells #[.string head] 9)) := (Calm.refl w).alloc _
  have h1 := h.calm hcalm
  obtain ⟨c0, c1, c2, c3, c4⟩ := h1.cells
  have hk0 := sortedKeys_any mb _ h1.map (fun x hx => by obtain ⟨f, hf, rfl⟩ := List.mem_map.1 hx; simpa [encF, keyB] using hn f hf) (by simpa using hl)
  simp only [World.size_alloc] at hk0
  have hk := box hk0
  clear hk0
  have hkeys : D.files.map (fun f => f.name.data.toList) = (D.files.map encF).map fun x => keyB x.1 := by rw [List.map_map]; apply List.map_congr_left; intro f _; simp [encF, keyB]
  have Hkeys := box hkeys
  have Hl := box hl
  have Hcalm := box hcalm
  clear h h1 hn hl hkeys hcalm
  go_enter Try.func27, Try.ntmps27
  go_wp2_with fail
  refine (keys_any _ _).mono ?_
  rintro e w1 ⟨rfl, rfl⟩
  go_wp2_with fail
  refine hk.out.mono ?_
  rintro e w2 ⟨v, ss, rfl, hperm, hrow, hnil, hc2⟩
  have hsort : ss.mergeSort (fun x y => decide (x ≤ y)) = (D.files.map fun f => f.name.data.toList).mergeSort (fun x y => decide (x ≤ y)) := by rw [Hkeys.out]; exact mergeSort_of_perm hperm
  rw [hsort] at hrow
  have hlen : ss.length = ((D.files.map fun f => f.name.data.toList).mergeSort (fun x y => decide (x ≤ y))).length := by rw [← hsort]; simp
  have hll := box (show ss.length ≤ 1000000 by rw [hlen]; simpa using Hl.out)
  have HN := box (show D.names head = ((((D.files.map fun f => f.name.data.toList).mergeSort (fun x y => decide (x ≤ y))).filter fun x => Lib.hasPrefix x head.data.toList)).map (fun l => (⟨l.toArray⟩ : ByteArray)) from rfl)
  obtain ⟨L, hL⟩ : ∃ L, (D.files.map fun f => f.name.data.toList).mergeSort (fun x y => decide (x ≤ y)) = L := ⟨_, rfl⟩
  rw [hL] at hrow hlen HN
  rw [hlen] at hrow hll
  have Hc2 := box (Hcalm.out.trans hc2)
  have hhead : w2.cell? ⟨w.heap.size, 0, none⟩ = some (.string ⟨head.data.toList.toArray⟩) := by
    rw [hc2.cell (p := ⟨w.heap.size, 0, none⟩) (by simp)]
    have := cell_of (heap_new w (.cells #[.string head] 9)) 0
    rw [this]; rfl
  have Hhead := box hhead
  have hsz2 := box hc2.size
  clear hsort hL hhead hperm hc2
  rcases hrow.2 with ⟨rfl, h0⟩ | ⟨g, cap, cur, rfl, hg, hgc, r2, r3, r4, r5⟩
  · have hLn : L = [] := List.eq_nil_of_length_eq_zero h0
    subst hLn
    clear hrow hnil hlen h0
    go_wp2_with fail
    refine (DeleteFuncStrNil_any _ _ _ _).mono ?_
    rintro e w3 ⟨rfl, rfl⟩
    go_wp2_with fail
    go_ret
    exact ⟨_, rfl, by rw [HN.out]; exact .inl ⟨rfl, _, _, rfl⟩, Hc2.out, fun a n c e => by cases e⟩
  · have hH : Holds encStr w2 g 0 L.toArray := fun j hj => by
      simp only [List.size_toArray] at hj
      have hcj : cur[j]? = some (encStr L[j]) := by
        have h5 := congrArg (fun l => l[j]?) r5
        simp only [List.getElem?_map] at h5
        rw [List.getElem?_take_of_lt (by omega), Array.getElem?_toList, List.getElem?_eq_getElem hj] at h5
        exact h5
      rw [Nat.zero_add, cell_of hgc, hcj]
      exact ⟨by simp [hj], free_of hgc j⟩
    have hne : w.heap.size ≠ g := by omega
    have hgw : w.heap.size ≤ g := by omega
    have hcon := AnyE.slices_DeleteFunc Try.gDelStr encStr (fun _ => rfl) (fun x => !Lib.hasPrefix x head.data.toList) 49 #[.pointer (some ⟨w.heap.size, 0, none⟩)] (enters_of Try.func49 (by kernel_rfl) rfl) [] zeroStr g 0 cap L.toArray w2
      (fun W x hb => list1_any x _ _ W (by rw [hb.cell (p := ⟨w.heap.size, 0, none⟩) (by have := hsz2.out; simp at this; simp; omega)]; exact Hhead.out))
      (fun n os dk x _ => list1_any x _ _ _ (by
        unfold sortWorld
        rw [cell?_grow _ _ _ (by show w.heap.size < (putRow _ _ _ _ _).heap.size; rw [size_putRow]; have := hsz2.out; simp at this; show w.heap.size < w2.heap.size; omega), cell?_putRow_other _ _ g 0 _ _ (Or.inl hne)]
        exact Hhead.out)) hH (by simp; have := hll.out; omega) (by simp; omega)
    simp only [List.size_toArray, Bool.not_not] at hcon
    obtain ⟨K, hK⟩ : ∃ K, L.filter (fun x => Lib.hasPrefix x head.data.toList) = K := ⟨_, rfl⟩
    have hKL : K.length ≤ L.length := by rw [← hK]; exact List.length_filter_le _ _
    rw [hK] at hcon HN
    change Calls Try.prog 48 _ _ _ at hcon
    have Hcon := box hcon
    have HH := box hH
    clear hcon hH hnil hrow hlen r2 r3 r4 r5 hg hgc hK
    go_wp2_with fail
    refine Hcon.out.mono ?_
    rintro e w3 ⟨rfl, q, rfl⟩
    go_wp2_with fail
    go_ret
    refine ⟨_, rfl, ?_, calm_put Hc2.out hgw, fun a n c e => by cases e; exact hgw⟩
    rw [HN.out]
    refine .inr ⟨g, 0, cap, by rw [List.length_map]; rfl, fun k hk => ?_⟩
    rw [List.length_map] at hk
    have hHa : Holds encStr (Sort.ahead w2 q) g 0 L.toArray := HH.out
    rw [cell?_putRow encStr _ g 0 L.toArray _ hHa (by simp; omega) k (by simp; omega)]
    simp [List.getD_eq_getElem?_getD, hk, encStr, List.getElem?_append_left]
end Go.Proofs.Ytbmhjojlbmbpkaa.dk

/- Layer 4, plain laws: names' sizes, what is refused changes nothing, capacities stay. -/
namespace Go.Proofs.Ytbmhjojlbmbpkaa.dk
open Go.ChangeShapes Go.WideShapes Go.ChangeAt Go.RowKit

/-- At most n files, their names of at most m bytes. -/
structure Small (D : DiskS) (n m : Nat) : Prop where
  many : D.files.length ≤ n
  names : ∀ f ∈ D.files, f.name.size ≤ m
variable {D : DiskS} {n m : Nat}
theorem Small.mono (h : Small D n m) {n' m' : Nat} (h1 : n ≤ n') (h2 : m ≤ m') : Small D n' m' := ⟨Nat.le_trans h.many h1, fun f hf => Nat.le_trans (h.names f hf) h2⟩
theorem Small.of {E : DiskS} (h : Small D n m) (hl : E.files.length ≤ D.files.length) (hn : ∀ f ∈ E.files, ∃ g ∈ D.files, g.name = f.name) : Small E n m :=
  ⟨Nat.le_trans hl h.many, fun f hf => by obtain ⟨g, hg, e⟩ := hn f hf; rw [← e]; exact h.names g hg⟩
theorem Small.same {E : DiskS} (h : Small D n m) (e : E.files = D.files) : Small E n m := ⟨by rw [e]; exact h.many, by rw [e]; exact h.names⟩
theorem Small.burn (h : Small D n m) : Small D.burn n m := ⟨by rw [burn_files.1]; exact h.many, by rw [burn_files.1]; exact h.names⟩
theorem Small.doing (h : Small D n m) {f : DiskS → DiskS} (hf : Small D.burn n m → Small (f D.burn) n m) : Small (D.doing f).2 n m := by
  unfold DiskS.doing; split; exact h.burn
  exact hf h.burn
theorem Small.turn (h : Small D n m) (a : ByteArray) (g : FileS → FileS) (hg : ∀ x, (g x).name = x.name) : Small (D.turn a g) n m :=
  h.of (by unfold DiskS.turn; simp) (fun f hf => by
    obtain ⟨x, hx, rfl⟩ := List.mem_map.1 hf
    exact ⟨x, hx, by split; exact (hg x).symm; rfl⟩)
theorem Small.last (h : Small D n m) (a : ByteArray) : Small (D.last a) n m := by
  unfold DiskS.last; split; exact h
  exact (h.turn a (fun f => { f with image := f.now }) (fun _ => rfl)).same rfl
theorem Small.lasts (l : List ByteArray) : ∀ {D : DiskS}, Small D n m → Small (l.foldl DiskS.last D) n m := by
  induction l with
  | nil => exact fun h => h
  | cons x l ih => exact fun h => ih (h.last x)
theorem Small.drop (h : Small D n m) (a : ByteArray) : Small (D.drop a) n m := by
  unfold DiskS.drop; split; exact h
  exact h.of (List.length_filter_le _ _) (fun f hf => ⟨f, (List.mem_filter.1 hf).1, rfl⟩)
theorem Small.drops (l : List ByteArray) : ∀ {D : DiskS}, Small D n m → Small (l.foldl DiskS.drop D) n m := by
  induction l with
  | nil => exact fun h => h
  | cons x l ih => exact fun h => ih (h.drop x)
theorem Small.create (h : Small D n m) (s : ByteArray) (hs : s.size ≤ m) (b : Nat) : Small (D.create s b).2 (n + 1) m := by
  have h' := h.mono (Nat.le_succ n) (Nat.le_refl m)
  unfold DiskS.create; split; exact h'
  split; exact h'
  refine h'.doing fun _ => ⟨by have := h.burn.many; simp; omega, fun f hf => ?_⟩
  rcases List.mem_append.1 hf with hf | hf
  · exact h.burn.names f hf
  · rw [List.mem_singleton] at hf; subst hf; exact hs
theorem Small.write (h : Small D n m) (s : ByteArray) (k : Int) (t : ByteArray) : Small (D.write s k t).2 n m := by
  unfold DiskS.write; split; exact h
  split; exact h
  split; exact h
  split; exact h
  refine h.doing fun hb => ?_
  split; exact hb
  exact (hb.turn s (fun f => { f with now := laid f.now k.toNat t }) (fun _ => rfl)).same rfl
theorem Small.sync (h : Small D n m) (l : List ByteArray) : Small (D.sync l).2 n m := by
  unfold DiskS.sync; split; exact h
  exact h.doing fun hb => Small.lasts l hb
theorem Small.cut (h : Small D n m) (s : ByteArray) (k : Int) : Small (D.cut s k).2 n m := by
  unfold DiskS.cut; split; exact h
  split; exact h
  split; exact h
  exact h.doing fun hb => (hb.turn s (fun f => { f with now := f.now.extract 0 k.toNat }) (fun _ => rfl)).last s
theorem Small.delete (h : Small D n m) (l : List ByteArray) : Small (D.delete l).2 n m := by
  unfold DiskS.delete; split; exact h
  exact h.doing fun hb => Small.drops l hb
theorem Small.rename (h : Small D n m) (a b : ByteArray) (hb : b.size ≤ m) : Small (D.rename a b).2 (n + 1) m := by
  have h' := h.mono (Nat.le_succ n) (Nat.le_refl m)
  unfold DiskS.rename; split; exact h'
  split; exact h'
  refine h'.doing fun _ => ?_
  split; exact h'.burn
  have hd := h.burn.drop b
  refine ⟨?_, fun f hf => ?_⟩
  · have := hd.many
    have := List.length_filter_le (fun x : FileS => !decide (x.name = a)) (D.burn.drop b).files
    simp only [List.length_append, List.length_singleton]; omega
  · rcases List.mem_append.1 hf with hf | hf
    · exact hd.names f (List.mem_filter.1 hf).1
    · rw [List.mem_singleton] at hf; subst hf; exact hb
theorem Small.crashed (h : Small D n m) (keep : List Bool) (lack : Int) : Small (D.crashed keep lack) n m :=
  h.of (by unfold DiskS.crashed DiskS.imaged; simp) (fun f hf => by
    unfold DiskS.crashed DiskS.imaged at hf
    simp only [List.map_map] at hf
    obtain ⟨x, hx, rfl⟩ := List.mem_map.1 hf
    exact ⟨x, hx, rfl⟩)
theorem Small.does (h : Small D n m) (o : OpS) (b : Nat) (ha : o.a.size ≤ m) (hb : o.b.size ≤ m) : Small (D.does o b).2 (n + 1) m := by
  have up : ∀ {E : DiskS}, Small E n m → Small E (n + 1) m := fun h => h.mono (Nat.le_succ n) (Nat.le_refl m)
  unfold DiskS.does
  split; exact h.create _ ha _
  split; exact up (h.write _ _ _)
  split; exact up (h.sync _)
  split; exact up (h.cut _ _)
  split; exact h.rename _ _ hb
  split; exact up (h.delete _)
  split; exact up (h.same rfl)
  split; exact up (h.crashed _ _)
  exact up h

theorem drops_cap (l : List ByteArray) : ∀ D : DiskS, (l.foldl DiskS.drop D).cap = D.cap := by
  induction l with
  | nil => exact fun _ => rfl
  | cons x l ih => intro D; rw [List.foldl_cons, ih]; unfold DiskS.drop; split <;> rfl
theorem lasts_cap (l : List ByteArray) : ∀ D : DiskS, (l.foldl DiskS.last D).cap = D.cap := by
  induction l with
  | nil => exact fun _ => rfl
  | cons x l ih => intro D; rw [List.foldl_cons, ih]; unfold DiskS.last; split <;> rfl
theorem doing_cap {f : DiskS → DiskS} (hf : (f D.burn).cap = D.burn.cap) : (D.doing f).2.cap = D.cap := by
  unfold DiskS.doing; split
  · exact burn_files.2.2
  · exact hf.trans burn_files.2.2
theorem does_cap (o : OpS) (b : Nat) : (D.does o b).2.cap = D.cap := by
  unfold DiskS.does
  split
  · unfold DiskS.create; split; rfl
    split; rfl
    exact doing_cap rfl
  split
  · unfold DiskS.write; split; rfl
    split; rfl
    split; rfl
    split; rfl
    exact doing_cap (by split <;> rfl)
  split
  · unfold DiskS.sync; split; rfl
    exact doing_cap (lasts_cap _ _)
  split
  · unfold DiskS.cut; split; rfl
    split; rfl
    split; rfl
    exact doing_cap (by unfold DiskS.last; split <;> rfl)
  split
  · unfold DiskS.rename; split; rfl
    split; rfl
    exact doing_cap (by split; rfl; exact drops_cap [_] _)
  split
  · unfold DiskS.delete; split; rfl
    exact doing_cap (drops_cap _ _)
  split; rfl
  split <;> rfl

/-- What is refused changes neither files nor waiting writes. -/
theorem doing_refused {f : DiskS → DiskS} (h : (D.doing f).1 ≠ 0) : (D.doing f).2.files = D.files ∧ (D.doing f).2.waits = D.waits := by
  unfold DiskS.doing at h ⊢
  split
  · exact ⟨burn_files.1, burn_files.2.1⟩
  · rename_i hb; rw [if_neg hb] at h; exact absurd rfl h
theorem does_refused (o : OpS) (b : Nat) (h : (D.does o b).1 ≠ 0) : (D.does o b).2.files = D.files ∧ (D.does o b).2.waits = D.waits := by
  unfold DiskS.does at h ⊢
  split
  · rename_i hk; rw [if_pos hk] at h
    unfold DiskS.create at h ⊢
    repeat' split
    all_goals first
      | exact ⟨rfl, rfl⟩
      | (rename_i h1 h2; rw [if_neg h1, if_neg h2] at h; exact doing_refused h)
  rename_i k0; rw [if_neg k0] at h
  split
  · rename_i hk; rw [if_pos hk] at h
    unfold DiskS.write at h ⊢
    split; exact ⟨rfl, rfl⟩
    rename_i h1; rw [if_neg h1] at h
    split; exact ⟨rfl, rfl⟩
    rename_i f hf; rw [hf] at h; simp only at h
    split; exact ⟨rfl, rfl⟩
    rename_i h2; rw [if_neg h2] at h
    split; exact ⟨rfl, rfl⟩
    rename_i h3; rw [if_neg h3] at h
    exact doing_refused h
  rename_i k1; rw [if_neg k1] at h
  split
  · rename_i hk; rw [if_pos hk] at h
    unfold DiskS.sync at h ⊢
    split; exact ⟨rfl, rfl⟩
    rename_i h1; rw [if_neg h1] at h
    exact doing_refused h
  rename_i k2; rw [if_neg k2] at h
  split
  · rename_i hk; rw [if_pos hk] at h
    unfold DiskS.cut at h ⊢
    split; exact ⟨rfl, rfl⟩
    rename_i h1; rw [if_neg h1] at h
    split; exact ⟨rfl, rfl⟩
    rename_i f hf; rw [hf] at h; simp only at h
    split; exact ⟨rfl, rfl⟩
    rename_i h2; rw [if_neg h2] at h
    exact doing_refused h
  rename_i k3; rw [if_neg k3] at h
  split
  · rename_i hk; rw [if_pos hk] at h
    unfold DiskS.rename at h ⊢
    split; exact ⟨rfl, rfl⟩
    rename_i h1; rw [if_neg h1] at h
    split; exact ⟨rfl, rfl⟩
    rename_i f hf; rw [hf] at h; simp only at h
    exact doing_refused h
  rename_i k4; rw [if_neg k4] at h
  split
  · rename_i hk; rw [if_pos hk] at h
    unfold DiskS.delete at h ⊢
    split; exact ⟨rfl, rfl⟩
    rename_i h1; rw [if_neg h1] at h
    exact doing_refused h
  rename_i k5; rw [if_neg k5] at h
  split
  · rename_i hk; rw [if_pos hk] at h; exact absurd rfl h
  rename_i k6; rw [if_neg k6] at h
  split
  · rename_i hk; rw [if_pos hk] at h; exact absurd rfl h
  · exact ⟨rfl, rfl⟩
theorem prefix_nil (x : List UInt8) : Lib.hasPrefix x [] = true := by cases x <;> rfl
theorem names_all : (D.names ⟨#[]⟩).length = D.files.length := by
  unfold DiskS.names DiskS.namesL
  rw [List.length_map, List.filter_eq_self.2 (fun x _ => prefix_nil x)]
  simp
end Go.Proofs.Ytbmhjojlbmbpkaa.dk

/- Layer 4, plain laws: two disks alike; a crash that keeps all. -/
namespace Go.Proofs.Ytbmhjojlbmbpkaa.dk
open Go.ChangeShapes Go.WideShapes Go.ChangeAt Go.RowKit

variable {D : DiskS} {g : Nat → Nat}
def renF (g : Nat → Nat) (f : FileS) : FileS := { f with blk := g f.blk }
def renW (g : Nat → Nat) (x : WaitS) : WaitS := { x with blk := g x.blk }
/-- The same disk, its files in other blocks. -/
def DiskS.ren (D : DiskS) (g : Nat → Nat) : DiskS := { D with files := D.files.map (renF g), waits := D.waits.map (renW g) }
/-- The other blocks of unlike files are unlike. -/
def Inj (D : DiskS) (g : Nat → Nat) : Prop := ∀ f ∈ D.files, ∀ f' ∈ D.files, g f.blk = g f'.blk → f.blk = f'.blk

theorem ren_find (n : ByteArray) : (D.ren g).find n = (D.find n).map (renF g) := by
  unfold DiskS.find DiskS.ren
  simp only [List.find?_map, Function.comp_def]; rfl
theorem ren_has (n : ByteArray) : (D.ren g).has n = D.has n := by unfold DiskS.has; rw [ren_find]; cases D.find n <;> rfl
theorem ren_size : (D.ren g).size = D.size := by
  unfold DiskS.size DiskS.ren total
  simp only [List.map_map]; rfl
theorem ren_bars (l : List ByteArray) : (D.ren g).bars l = D.bars l := by
  unfold DiskS.bars
  have : (D.ren g).has = D.has := funext fun n => ren_has n
  rw [this]; rfl
theorem ren_burn : (D.ren g).burn = D.burn.ren g := by
  unfold DiskS.burn
  show (if D.left = 0 then _ else if 0 < D.left then _ else _) = _
  split
  · rfl
  · split <;> rfl
theorem ren_doing {f f' : DiskS → DiskS} (h : f' (D.burn.ren g) = (f D.burn).ren g) : (D.ren g).doing f' = ((D.doing f).1, (D.doing f).2.ren g) := by
  unfold DiskS.doing
  have hb : (D.ren g).burns = D.burns := rfl
  rw [hb, ren_burn]
  split
  · rfl
  · simp only [h]
theorem ren_turn (n : ByteArray) (F : FileS → FileS) (hF : ∀ x, F (renF g x) = renF g (F x)) : (D.ren g).turn n F = (D.turn n F).ren g := by
  unfold DiskS.turn DiskS.ren
  simp only [List.map_map]
  congr 1
  apply List.map_congr_left
  intro x _
  simp only [Function.comp]
  show (if x.name = n then _ else _) = _
  split
  · exact hF x
  · rfl
theorem Inj.burn (h : Inj D g) : Inj D.burn g := by unfold Inj; rw [burn_files.1]; exact h
theorem ren_without (hF : Form D) (hg : Inj D g) {f : FileS} (hf : f ∈ D.files) : (D.ren g).without (g f.blk) = (D.without f.blk).ren g := by
  unfold DiskS.without DiskS.ren
  simp only [List.filter_map]
  congr 2
  apply List.filter_congr
  intro x hx
  simp only [Function.comp, renW]
  obtain ⟨y, hy, he⟩ := hF.live x hx
  congr 2
  rw [eq_iff_iff]
  constructor
  · intro e; rw [← he]; exact hg y hy f hf (by rw [he]; exact e)
  · intro e; rw [e]
theorem Inj.of {E : DiskS} (h : Inj D g) (hb : ∀ f ∈ E.files, ∃ x ∈ D.files, x.blk = f.blk) : Inj E g := fun f hf f' hf' e => by
  obtain ⟨x, hx, h1⟩ := hb f hf
  obtain ⟨y, hy, h2⟩ := hb f' hf'
  rw [← h1, ← h2]; exact h x hx y hy (by rw [h1, h2, e])
theorem turn_blk {n : ByteArray} {F : FileS → FileS} (hF : ∀ x, (F x).blk = x.blk) {f : FileS} (hf : f ∈ (D.turn n F).files) : ∃ x ∈ D.files, x.blk = f.blk := by
  obtain ⟨x, hx, rfl⟩ := List.mem_map.1 hf
  exact ⟨x, hx, by split; exact (hF x).symm; rfl⟩
theorem ren_last (hF : Form D) (hg : Inj D g) (n : ByteArray) : (D.ren g).last n = (D.last n).ren g := by
  unfold DiskS.last
  rw [ren_find]
  cases hf : D.find n with
  | none => rfl
  | some f =>
    simp only [Option.map_some]
    rw [ren_turn n (fun f : FileS => { f with image := f.now }) (fun _ => rfl)]
    have hs := turn_same (D := D) (n := n) (g := fun f => { f with image := f.now }) (fun _ => ⟨rfl, rfl⟩)
    obtain ⟨L1, L2, e1, e2, _⟩ := turn_split hF hf (fun f => { f with image := f.now })
    have hFt : Form (D.turn n fun f => { f with image := f.now }) := by
      refine ⟨?_, by rw [hs.2]; exact hF.blks, ?_⟩
      · rw [e2]; have := hF.names; rw [e1] at this; simpa using this
      · intro x hx
        obtain ⟨y, hy, he⟩ := hF.live x hx
        have : y.blk ∈ (D.turn n (fun f => { f with image := f.now })).files.map (·.blk) := by rw [hs.2]; exact List.mem_map.2 ⟨y, hy, rfl⟩
        obtain ⟨z, hz, hze⟩ := List.mem_map.1 this
        exact ⟨z, hz, hze.trans he⟩
    have hgt : Inj (D.turn n fun f => { f with image := f.now }) g := hg.of (fun f hf => turn_blk (F := fun f => { f with image := f.now }) (fun _ => rfl) hf)
    exact ren_without hFt hgt (f := { f with image := f.now }) (by rw [e2]; simp)
theorem last_blk (n : ByteArray) {f : FileS} (hf : f ∈ (D.last n).files) : ∃ x ∈ D.files, x.blk = f.blk := by
  unfold DiskS.last at hf
  split at hf
  · exact ⟨f, hf, rfl⟩
  · exact turn_blk (F := fun f => { f with image := f.now }) (fun _ => rfl) hf
theorem ren_lasts (l : List ByteArray) : ∀ {D : DiskS}, Form D → Inj D g → l.foldl DiskS.last (D.ren g) = (l.foldl DiskS.last D).ren g := by
  induction l with
  | nil => exact fun _ _ => rfl
  | cons n l ih =>
    intro D hF hg
    rw [List.foldl_cons, List.foldl_cons, ren_last hF hg]
    exact ih (hF.last n) (hg.of (fun f hf => last_blk n hf))
theorem ren_drop (hF : Form D) (hg : Inj D g) (n : ByteArray) : (D.ren g).drop n = (D.drop n).ren g := by
  unfold DiskS.drop
  rw [ren_find]
  cases hf : D.find n with
  | none => rfl
  | some f =>
    simp only [Option.map_some]
    have hw := ren_without hF hg (find_some hf).1
    have hw' : (D.ren g).without (renF g f).blk = (D.without f.blk).ren g := hw
    rw [hw']
    unfold DiskS.ren
    simp only [List.filter_map, Function.comp_def]; rfl
theorem drop_blk (n : ByteArray) {f : FileS} (hf : f ∈ (D.drop n).files) : ∃ x ∈ D.files, x.blk = f.blk := by
  unfold DiskS.drop at hf
  split at hf
  · exact ⟨f, hf, rfl⟩
  · exact ⟨f, (List.mem_filter.1 hf).1, rfl⟩
theorem ren_drops (l : List ByteArray) : ∀ {D : DiskS}, Form D → Inj D g → l.foldl DiskS.drop (D.ren g) = (l.foldl DiskS.drop D).ren g := by
  induction l with
  | nil => exact fun _ _ => rfl
  | cons n l ih =>
    intro D hF hg
    rw [List.foldl_cons, List.foldl_cons, ren_drop hF hg]
    exact ih (hF.drop n) (hg.of (fun f hf => drop_blk n hf))

theorem ren_write (n : ByteArray) (k : Int) (t : ByteArray) : (D.ren g).write n k t = ((D.write n k t).1, (D.write n k t).2.ren g) := by
  unfold DiskS.write
  rw [ren_find]
  show (if D.down = true then _ else _) = _
  split; rfl
  cases hf : D.find n with
  | none => rfl
  | some f =>
    simp only [Option.map_some]
    show (if k < 0 ∨ (f.now.size : Int) < k then _ else _) = _
    split; rfl
    rw [ren_size]
    show (if k + t.size - f.now.size > D.cap - D.size ∧ k + t.size > f.now.size then _ else _) = _
    split; rfl
    refine ren_doing ?_
    split
    · rfl
    · rw [ren_turn n (fun f => { f with now := laid f.now k.toNat t }) (fun _ => rfl)]
      unfold DiskS.ren
      simp [renW, renF]
theorem ren_sync (hF : Form D) (hg : Inj D g) (l : List ByteArray) : (D.ren g).sync l = ((D.sync l).1, (D.sync l).2.ren g) := by
  unfold DiskS.sync
  rw [ren_bars]
  split; rfl
  exact ren_doing (ren_lasts l hF.burn hg.burn)
theorem Form.turn (hF : Form D) {n : ByteArray} (F : FileS → FileS) (hs : ∀ x, (F x).name = x.name ∧ (F x).blk = x.blk) : Form (D.turn n F) := by
  have e := turn_same (D := D) (n := n) hs
  have hn : (D.turn n F).files.map (·.name) = D.files.map (·.name) := by
    unfold DiskS.turn
    rw [List.map_map]
    apply List.map_congr_left
    intro x _
    simp only [Function.comp]
    split
    · exact (hs x).1
    · rfl
  refine ⟨by rw [hn]; exact hF.names, by rw [e.2]; exact hF.blks, fun x hx => ?_⟩
  obtain ⟨y, hy, he⟩ := hF.live x hx
  have : y.blk ∈ (D.turn n F).files.map (·.blk) := by rw [e.2]; exact List.mem_map.2 ⟨y, hy, rfl⟩
  obtain ⟨z, hz, hze⟩ := List.mem_map.1 this
  exact ⟨z, hz, hze.trans he⟩
theorem ren_cut (hF : Form D) (hg : Inj D g) (n : ByteArray) (k : Int) : (D.ren g).cut n k = ((D.cut n k).1, (D.cut n k).2.ren g) := by
  unfold DiskS.cut
  rw [ren_find]
  show (if D.down = true then _ else _) = _
  split; rfl
  cases hf : D.find n with
  | none => rfl
  | some f =>
    simp only [Option.map_some]
    show (if k < 0 ∨ (f.now.size : Int) < k then _ else _) = _
    split; rfl
    refine ren_doing ?_
    rw [ren_turn n (fun f => { f with now := f.now.extract 0 k.toNat }) (fun _ => rfl)]
    exact ren_last (hF.burn.turn (fun f => { f with now := f.now.extract 0 k.toNat }) (fun _ => ⟨rfl, rfl⟩)) (hg.burn.of (fun f hf => turn_blk (F := fun f => { f with now := f.now.extract 0 k.toNat }) (fun _ => rfl) hf)) n
theorem ren_delete (hF : Form D) (hg : Inj D g) (l : List ByteArray) : (D.ren g).delete l = ((D.delete l).1, (D.delete l).2.ren g) := by
  unfold DiskS.delete
  rw [ren_bars]
  split; rfl
  exact ren_doing (ren_drops l hF.burn hg.burn)
theorem ren_rename (hF : Form D) (hg : Inj D g) (a b : ByteArray) : (D.ren g).rename a b = ((D.rename a b).1, (D.rename a b).2.ren g) := by
  unfold DiskS.rename
  rw [ren_find]
  show (if D.down = true then _ else _) = _
  split; rfl
  cases hf : D.find a with
  | none => rfl
  | some f =>
    simp only [Option.map_some]
    refine ren_doing ?_
    split
    · rfl
    · rw [ren_drop hF.burn hg.burn]
      unfold DiskS.ren
      simp only [List.filter_map, Function.comp_def, List.map_append]; rfl
theorem ren_create (n : ByteArray) (b1 : Nat) : (D.ren g).create n (g b1) = ((D.create n b1).1, (D.create n b1).2.ren g) := by
  unfold DiskS.create
  rw [ren_has]
  show (if D.down = true then _ else _) = _
  split; rfl
  split; rfl
  refine ren_doing ?_
  unfold DiskS.ren
  simp [renF]
/-- With one block more. -/
def more (g : Nat → Nat) (b1 b2 : Nat) (x : Nat) : Nat := if x = b1 then b2 else g x
theorem ren_more (hF : Form D) {b1 b2 : Nat} (hb : ∀ f ∈ D.files, f.blk ≠ b1) : D.ren (more g b1 b2) = D.ren g := by
  unfold DiskS.ren
  congr 1
  · apply List.map_congr_left
    intro f hf
    unfold renF more; rw [if_neg (hb f hf)]
  · apply List.map_congr_left
    intro x hx
    obtain ⟨f, hf, he⟩ := hF.live x hx
    unfold renW more; rw [if_neg (by rw [← he]; exact hb f hf)]
theorem ren_does (hF : Form D) (hF2 : Form (D.ren g)) (o : OpS) (b1 b2 : Nat) (hk : o.k < 6) (hb : ∀ f ∈ D.files, f.blk ≠ b1) :
    (D.ren g).does o b2 = ((D.does o b1).1, (D.does o b1).2.ren (more g b1 b2)) := by
  have hg : Inj D g := fun f hf f' hf' e => by
    have h2 := hF2.blks
    unfold DiskS.ren at h2
    rw [List.map_map] at h2
    have : f = f' := nodup_inj h2 hf hf' e
    rw [this]
  rw [← ren_more hF hb (b2 := b2)]
  have hg' : Inj D (more g b1 b2) := fun f hf f' hf' e => by
    unfold more at e
    rw [if_neg (hb f hf), if_neg (hb f' hf')] at e
    exact hg f hf f' hf' e
  unfold DiskS.does
  split
  · have := ren_create (D := D) (g := more g b1 b2) o.a b1
    rw [show more g b1 b2 b1 = b2 by unfold more; rw [if_pos rfl]] at this
    exact this
  split; exact ren_write _ _ _
  split; exact ren_sync hF hg' _
  split; exact ren_cut hF hg' _ _
  split; exact ren_rename hF hg' _ _
  split; exact ren_delete hF hg' _
  split; omega
  split; omega
  rfl
end Go.Proofs.Ytbmhjojlbmbpkaa.dk

/- Layer 4, plain laws: a file's bytes are its image with all waiting writes laid over; a crash that keeps all, or none. -/
namespace Go.Proofs.Ytbmhjojlbmbpkaa.dk
open Go.ChangeShapes Go.WideShapes Go.ChangeAt Go.RowKit

variable {D : DiskS}
def Whole (D : DiskS) : Prop := ∀ f ∈ D.files, f.now = lays f.image f.blk D.waits
theorem lays_none (b : Nat) : ∀ (K : List WaitS) (i : ByteArray), (∀ y ∈ K, y.blk ≠ b) → lays i b K = i
  | [], _, _ => rfl
  | y :: K, i, h => by
    unfold lays
    rw [List.foldl_cons, if_neg (h y (List.mem_cons_self ..))]
    exact lays_none b K i (fun z hz => h z (List.mem_cons_of_mem _ hz))
theorem lays_without (b c : Nat) (hne : b ≠ c) : ∀ (K : List WaitS) (i : ByteArray), lays i b (K.filter fun x => !decide (x.blk = c)) = lays i b K
  | [], _ => rfl
  | y :: K, i => by
    rw [List.filter_cons]
    by_cases h : y.blk = c
    · have hb : ¬ y.blk = b := fun e => hne (e.symm.trans h)
      rw [if_neg (by simp [h])]
      rw [lays_without b c hne K i]
      unfold lays
      rw [List.foldl_cons, if_neg hb]
    · rw [if_pos (by simpa using h)]
      unfold lays
      rw [List.foldl_cons, List.foldl_cons]
      exact lays_without b c hne K _
theorem Whole.burn (h : Whole D) : Whole D.burn := by unfold Whole; rw [burn_files.1, burn_files.2.1]; exact h
theorem Whole.doing (h : Whole D) {f : DiskS → DiskS} (hf : Whole D.burn → Whole (f D.burn)) : Whole (D.doing f).2 := by
  unfold DiskS.doing; split; exact h.burn
  exact hf h.burn
theorem Whole.last (h : Whole D) (hF : Form D) (n : ByteArray) : Whole (D.last n) := by
  unfold DiskS.last
  cases hf : D.find n with
  | none => exact h
  | some f =>
    intro y hy
    rcases turn_mem hF hf hy with rfl | ⟨hy', _, hne⟩
    · exact (lays_none _ _ _ (fun x hx => by simpa using (List.mem_filter.1 hx).2)).symm
    · show y.now = lays y.image y.blk (D.waits.filter fun x => !decide (x.blk = f.blk))
      rw [lays_without _ _ hne]
      exact h y hy'
theorem Whole.lasts (l : List ByteArray) : ∀ {D : DiskS}, Whole D → Form D → Whole (l.foldl DiskS.last D) := by
  induction l with
  | nil => exact fun h _ => h
  | cons n l ih => exact fun h hF => ih (h.last hF n) (hF.last n)
theorem Whole.drop (h : Whole D) (hF : Form D) (n : ByteArray) : Whole (D.drop n) := by
  unfold DiskS.drop
  cases hf : D.find n with
  | none => exact h
  | some f =>
    intro y hy
    obtain ⟨hy1, hy2⟩ := List.mem_filter.1 hy
    obtain ⟨hm, hn⟩ := find_some hf
    have hne : y.blk ≠ f.blk := fun e => by
      have : y = f := nodup_inj hF.blks hy1 hm e
      subst this
      simp [hn] at hy2
    show y.now = lays y.image y.blk (D.waits.filter fun x => !decide (x.blk = f.blk))
    rw [lays_without _ _ hne]
    exact h y hy1
theorem Whole.drops (l : List ByteArray) : ∀ {D : DiskS}, Whole D → Form D → Whole (l.foldl DiskS.drop D) := by
  induction l with
  | nil => exact fun h _ => h
  | cons n l ih => exact fun h hF => ih (h.drop hF n) (hF.drop n)
theorem Whole.does (h : Whole D) (hF : Form D) (o : OpS) (b : Nat) (hk : o.k < 6) (hb : ∀ f ∈ D.files, f.blk ≠ b) : Whole (D.does o b).2 := by
  unfold DiskS.does
  split
  · unfold DiskS.create; split; exact h
    split; exact h
    refine h.doing fun hw => ?_
    intro y hy
    rcases List.mem_append.1 hy with hy | hy
    · exact hw y hy
    · rw [List.mem_singleton] at hy; subst hy
      refine (lays_none _ _ _ (fun x hx e => ?_)).symm
      have hx : x ∈ D.waits := by have := hx; rw [← burn_files.2.1]; exact this
      obtain ⟨z, hz, he⟩ := hF.live x hx
      exact hb z hz (he.trans e)
  split
  · unfold DiskS.write; split; exact h
    split; exact h
    rename_i f hf
    split; exact h
    split; exact h
    refine h.doing fun hw => ?_
    split; exact hw
    have hfb : D.burn.find o.a = some f := by rw [burn_find]; exact hf
    intro y hy
    rcases turn_mem hF.burn hfb hy with rfl | ⟨hy', _, hne⟩
    · show laid f.now o.n.toNat o.s = lays f.image f.blk (D.burn.waits ++ [⟨f.blk, o.n.toNat, o.s⟩])
      have h1 := hw f (find_some hfb).1
      unfold lays at h1 ⊢
      rw [List.foldl_append, ← h1]
      simp
    · show y.now = lays y.image y.blk (D.burn.waits ++ [⟨f.blk, o.n.toNat, o.s⟩])
      have h1 := hw y hy'
      unfold lays at h1 ⊢
      rw [List.foldl_append, ← h1]
      simp [Ne.symm hne]
  split
  · unfold DiskS.sync; split; exact h
    exact h.doing fun hw => Whole.lasts _ hw hF.burn
  split
  · unfold DiskS.cut; split; exact h
    split; exact h
    rename_i f hf
    split; exact h
    refine h.doing fun hw => ?_
    have hfb : D.burn.find o.a = some f := by rw [burn_find]; exact hf
    obtain ⟨L1, L2, e1, e2, e3⟩ := turn_split hF.burn hfb (fun f => { f with now := f.now.extract 0 o.n.toNat })
    have hFt := hF.burn.turn (n := o.a) (fun f => { f with now := f.now.extract 0 o.n.toNat }) (fun _ => ⟨rfl, rfl⟩)
    have hft : (D.burn.turn o.a (fun f => { f with now := f.now.extract 0 o.n.toNat })).find o.a = some { f with now := f.now.extract 0 o.n.toNat } := by
      have := find_some hfb
      unfold DiskS.find
      rw [e2, List.find?_append, List.find?_cons]
      have hn1 : L1.find? (fun f => decide (f.name = o.a)) = none := by
        rw [List.find?_eq_none]; intro x hx; simpa using (e3 x (List.mem_append_left _ hx)).1
      simp [hn1, this.2]
    unfold DiskS.last
    rw [hft]
    intro y hy
    rcases turn_mem hFt hft hy with rfl | ⟨hy', hyn, hne⟩
    · exact (lays_none _ _ _ (fun x hx => by simpa using (List.mem_filter.1 hx).2)).symm
    · have hyd : y ∈ D.burn.files := by
        rcases turn_mem hF.burn hfb hy' with rfl | ⟨h', _⟩
        · exact absurd rfl hne
        · exact h'
      show y.now = lays y.image y.blk (D.burn.waits.filter fun x => !decide (x.blk = f.blk))
      rw [lays_without _ _ hne]
      exact hw y hyd
  split
  · unfold DiskS.rename; split; exact h
    split; exact h
    rename_i f hf
    refine h.doing fun hw => ?_
    split; exact hw
    rename_i hab
    have hd := hw.drop hF.burn o.b
    have hfd : (D.burn.drop o.b).find o.a = some f := by rw [drop_find hab, burn_find]; exact hf
    intro y hy
    rcases List.mem_append.1 hy with hy | hy
    · exact hd y (List.mem_filter.1 hy).1
    · rw [List.mem_singleton] at hy; subst hy
      exact hd f (find_some hfd).1
  split
  · unfold DiskS.delete; split; exact h
    exact h.doing fun hw => Whole.drops _ hw hF.burn
  split; omega
  split; omega
  exact h

/-- A crash that keeps all writes, whole, loses nothing. -/
theorem keptTo_all (L : List WaitS) (m : Nat) (hL : L.length ≤ m) : keptTo (List.replicate m true) 0 L (min (List.replicate m true).length L.length) = L := by
  rw [List.length_replicate, Nat.min_eq_right hL]
  have hat : ∀ i (hi : i < L.length), keptAt (List.replicate m true) 0 L i = some L[i] := fun i hi => by
    unfold keptAt
    rw [List.getElem?_eq_getElem hi]
    have hk : (List.replicate m true).getD i false = true := by simp [List.getD_eq_getElem?_getD, List.getElem?_replicate, show i < m by omega]
    simp only [hk, if_true]
    have : (L[i]).s.extract 0 ((L[i]).s.size - 0) = (L[i]).s := by
      apply ba_ext
      simp
    simp only [this, ite_self]
  have : ∀ k, k ≤ L.length → keptTo (List.replicate m true) 0 L k = L.take k := by
    intro k
    induction k with
    | zero => intro _; simp [keptTo]
    | succ k ih =>
      intro hk
      rw [keptTo_succ, ih (by omega), hat k (by omega), List.take_succ_eq_append_getElem (by omega)]; rfl
  rw [this _ (Nat.le_refl _), List.take_length]
theorem crashed_all (h : Whole D) (m : Nat) (hL : D.waits.length ≤ m) : (D.crashed (List.replicate m true) 0).files = D.files.map fun f => { f with image := f.now } := by
  unfold DiskS.crashed DiskS.imaged
  simp only [List.map_map]
  apply List.map_congr_left
  intro f hf
  simp only [Function.comp, Int.toNat_zero]
  rw [keptTo_all _ _ hL, ← h f hf]
theorem crashed_twice (keep : List Bool) (lack : Int) (hw : D.waits = []) (hi : ∀ f ∈ D.files, f.now = f.image) : (D.crashed keep lack).files = D.files := by
  unfold DiskS.crashed DiskS.imaged
  simp only [List.map_map, hw, List.length_nil, Nat.min_zero]
  conv => rhs; rw [← List.map_id D.files]
  apply List.map_congr_left
  intro f hf
  have := hi f hf
  simp only [Function.comp, keptTo, List.range_zero, List.filterMap_nil, lays, List.foldl_nil, id, ← this]
  obtain ⟨a, b, c, d⟩ := f
  simp only at this
  subst this
  rfl
theorem crashed_last (keep : List Bool) (lack : Int) : (D.crashed keep lack).waits = [] ∧ ∀ f ∈ (D.crashed keep lack).files, f.now = f.image := by
  refine ⟨rfl, fun f hf => ?_⟩
  unfold DiskS.crashed at hf
  obtain ⟨x, _, rfl⟩ := List.mem_map.1 hf
  rfl
theorem crashed_names (keep : List Bool) (lack : Int) : (D.crashed keep lack).files.map (·.name) = D.files.map (·.name) := by
  unfold DiskS.crashed DiskS.imaged
  simp only [List.map_map]; rfl
theorem names_of {E : DiskS} (h : E.files.map (·.name) = D.files.map (·.name)) (hd : ByteArray) : E.names hd = D.names hd := by
  have : E.files.map (fun f => f.name.data.toList) = D.files.map (fun f => f.name.data.toList) := by
    have := congrArg (List.map fun n : ByteArray => n.data.toList) h
    simpa [List.map_map, Function.comp_def] using this
  unfold DiskS.names DiskS.namesL
  rw [this]
end Go.Proofs.Ytbmhjojlbmbpkaa.dk

/- Small lemmas for regions that draw their order and only read. -/
namespace Go.Proofs.Ytbmhjojlbmbpkaa
open Go.ChangeShapes Go.WideShapes Go.ChangeAt Go.RowKit
theorem Calm.drewN {a w : World} (h : Calm a w) (n : Nat) : Calm a (w.drewN n) := ⟨h.os, h.tape, h.output, h.size, h.block⟩
end Go.Proofs.Ytbmhjojlbmbpkaa

/- Layer 4: two disks that have the same are told so; two lists of texts. -/
namespace Go.Proofs.Ytbmhjojlbmbpkaa
open Go.ChangeShapes Go.WideShapes Go.ChangeAt Go.RowKit
theorem MapIs.len {P : Program} {w : World} {t k e : TypeId} {b : Nat} {d : TypeDesc} {m : List (Value × Value)} (h : MapIs w b d m) (ht : P.underlying t = some (.map k e)) (ty : TypeId) : (Builtin.len_ #[t] ty #[.map (some b)]).run P w = .ok (.int .i64 m.length) w := by
  obtain ⟨es, c, hb, hs, rfl, hk⟩ := h
  simp [Builtin.len_, run_underlying ht, MapKept.run_getObj_map hb, goInt, Result.andThen]
end Go.Proofs.Ytbmhjojlbmbpkaa
namespace Go.Proofs.Ytbmhjojlbmbpkaa.dk
open Go.ChangeShapes Go.WideShapes Go.ChangeAt Go.RowKit

section
variable {p q mb mc : Nat} {wv wu : Value} {D E : DiskS} {F G : Nat → Prop}
theorem DiskIn.looks {w : World} (h : DiskIn w p mb wv D) {n : ByteArray} {f : FileS} (hf : D.find n = some f) : Sem.run Try.prog (Instr.lookup 73 (.map (some mb)) (.string n) true) w = .ok (.tuple #[ptrTo f.blk, .bool true]) w := by
  obtain ⟨h1, h2⟩ := find_some hf
  have := h.map.hit (P := Try.prog) Try.underlying73 Try.underlying9 (key := .string n) (v := ptrTo f.blk) trivial (List.mem_map.2 ⟨f, h1, by simp [encF, h2]⟩) true
  simpa using this
theorem Same1_yes (a b : Nat) (i j s : ByteArray) (W : World) (ha : W.heap[a]? = some (.cells #[.string i, .string s] 80 (0, 0))) (hb : W.heap[b]? = some (.cells #[.string j, .string s] 80 (0, 0))) :
    Calls Try.prog 52 #[ptrTo a, ptrTo b] W fun e w' => e = .returned (.bool true) ∧ Calm W w' := by
  have c1 := cell_of ha 1
  have d1 := cell_of hb 1
  have la := heap_lt ha
  have lb := heap_lt hb
  clear ha hb
  go_enter Try.func52, Try.ntmps52
  go_wp2_with (first | go_quiet (fail) | fail)
  go_wp2_with fail
  go_ret
  exact ⟨ret_bool (by simp), (Calm.refl _).drewN _⟩
set_option maxRecDepth 100000 in
set_option maxHeartbeats 2000000 in
theorem EqualFunc_yes (w : World) (h : DiskIn w p mb wv D) (g : DiskIn w q mc wu E) (hlen : D.files.length = E.files.length) (hs : ∀ f ∈ D.files, ∃ x, E.find f.name = some x ∧ x.now = f.now) :
    Calls Try.prog 51 #[.map (some mb), .map (some mc), .func (.func 52) #[] #[]] w fun e w' => e = .returned (.bool true) ∧ Calm w w' := by
  have H := box h
  have G := box g
  have HS := box hs
  have hl1 := fun ty => h.map.len (P := Try.prog) (t := 73) Try.underlying73 ty
  have hl2 := fun ty => g.map.len (P := Try.prog) (t := 73) Try.underlying73 ty
  rw [List.length_map] at hl1 hl2
  rw [← hlen] at hl2
  clear h g hs hlen
  go_enter Try.func51, Try.ntmps51
  go_wp2_with (at_range; refine wpList_range_list rfl _ rfl Try.underlying73 rfl H.out.map ?_; intro w0 hr0 hc0 hs0)
  go_frame
  go_loopw [6] (fun r wr => r = .bool false ∧ ∃ left : List FileS, RangeIs wr mb w.heap.size .string (D.files.map encF) (left.map encF) ∧ Calm w wr ∧ ∀ f ∈ left, f ∈ D.files) (fun _ wr => wr.rangeLeft mb w.heap.size)
  case atStart => exact ⟨rfl, D.files, hr0, hc0, fun _ h => h⟩
  case round =>
    obtain ⟨rfl, left, hr, hcalm, hin⟩ := hrel
    have Hr := box hr
    have Hin := box hin
    clear hr hin
    go_wp2_with (at_next; refine wpList_next_list rfl _ rfl rfl Hr.out ?_ ?_)
    case refine_1 =>
      intro hnil
      go_wp2
      go_ret
      exact ⟨rfl, by (repeat' (first | (with_reducible exact Calm.refl _) | (with_reducible assumption) | (with_reducible refine Calm.drew ?_) | (with_reducible refine Calm.alloc ?_ _) | (with_reducible refine Calm.trans ?_ (by assumption))))⟩
    case refine_2 =>
      intro l1 x1 x2 l2 w1 hl hr1 hen hk1 hs1 f hf hfe
      simp only [encF, Prod.mk.injEq] at hfe
      obtain ⟨rfl, rfl⟩ := hfe
      obtain ⟨L1, L2, hL, rfl, rfl⟩ : ∃ L1 L2, left = L1 ++ f :: L2 ∧ L1.map encF = l1 ∧ L2.map encF = l2 := by
        obtain ⟨L1, L', hL, h1, h2⟩ := List.map_eq_append_iff.1 hl
        obtain ⟨g, L2, hL', h3, h4⟩ := List.map_eq_cons_iff.1 h2
        have hg : g = f := by
          refine nodup_inj H.out.blks (Hin.out g (by rw [hL, hL']; simp)) hf ?_
          have : (encF g).2 = ptrTo f.blk := by rw [h3]
          simpa [encF] using this
        subst hg
        exact ⟨L1, L2, by rw [hL, hL'], h1, h4⟩
      have hcalm1 : Calm w w1 := ⟨hk1.os.trans hcalm.os, hk1.tape.trans hcalm.tape, hk1.output.trans hcalm.output, Nat.le_trans hcalm.size hk1.size, fun b hb => (hk1.block b (Nat.lt_of_lt_of_le hb hcalm.size) (by omega)).trans (hcalm.block b hb)⟩
      obtain ⟨x, hx1, hx2⟩ := HS.out f hf
      have hlk := (G.out.calm hcalm1).looks hx1
      have hS1 := box (Same1_yes f.blk x.blk f.image x.image f.now w1 (heap_calm hcalm1 (H.out.files f hf)) (by have := heap_calm hcalm1 (G.out.files x (find_some hx1).1); rw [hx2] at this; exact this))
      have hR1 := box hr1
      have hin1 := box (show ∀ g ∈ L1 ++ L2, g ∈ D.files from fun g hg => Hin.out g (by rw [hL]; rcases List.mem_append.1 hg with h | h <;> simp [h]))
      have hlt := box (show w1.rangeLeft mb w.heap.size < wr.rangeLeft mb w.heap.size by rw [hr1.left_eq, Hr.out.left_eq, hL]; simp)
      clear hl hL hr1 hx1 hx2
      go_wp2_with (first | (go_at_call 52; refine hS1.out.mono ?_; rintro e w2 ⟨rfl, hc2⟩) | fail)
      go_roundw
      case rel => exact ⟨rfl, L1 ++ L2, by rw [List.map_append]; exact hR1.out.calm hc2, hcalm1.trans hc2, hin1.out⟩
      case measure => rw [(hR1.out.calm hc2).left_eq, ← hR1.out.left_eq]; exact hlt.out
/-- Two disks that have the same. -/
def SameS (D E : DiskS) : Prop := D.files.length = E.files.length ∧ ∀ f ∈ D.files, ∃ x, E.find f.name = some x ∧ x.now = f.now
set_option maxRecDepth 100000 in
set_option maxHeartbeats 2000000 in
theorem Same_yes (w : World) (h : DiskAt w p D F) (g : DiskAt w q E G) (hs : SameS D E) :
    Calls Try.prog 29 #[ptrTo p, ptrTo q] w fun e w' => e = .returned (.bool true) ∧ Calm w w' := by
  obtain ⟨mb, wv, h, rfl⟩ := h
  obtain ⟨mc, wu, g, rfl⟩ := g
  have c2 := h.cells.2.2.1
  have d2 := g.cells.2.2.1
  have lp := heap_lt h.obj
  have lq := heap_lt g.obj
  have hE := box (fun W (hc : Calm w W) => EqualFunc_yes W (h.calm hc) (g.calm hc) hs.1 hs.2)
  have C2 := box c2
  have D2 := box d2
  clear h g hs
  go_enter Try.func29, Try.ntmps29
  go_wp2_with fail
  go_region_held3 (fun w' => w'.cell? ⟨p, 2, none⟩ = some (.map (some mb)) ∧ w'.cell? ⟨q, 2, none⟩ = some (.map (some mc))) (first | go_keep | (refine ⟨(Below.cell hb (p := ⟨p, 2, none⟩) lp).trans C2.out, (Below.cell hb (p := ⟨q, 2, none⟩) lq).trans D2.out⟩)) ((go_at_call 51; refine (hE.out _ (by (repeat' (first | (with_reducible exact Calm.refl _) | (with_reducible assumption) | (with_reducible refine Calm.drew ?_) | (with_reducible refine Calm.alloc ?_ _) | (with_reducible refine Calm.trans ?_ (by assumption)))))).mono ?_; rintro e w' ⟨rfl, hb⟩))
  go_wp2_with fail
  go_ret
  exact ⟨ret_bool (by simp), by (repeat' (first | (with_reducible exact Calm.refl _) | (with_reducible assumption) | (with_reducible refine Calm.drew ?_) | (with_reducible refine Calm.alloc ?_ _) | (with_reducible refine Calm.trans ?_ (by assumption))))⟩
end
end Go.Proofs.Ytbmhjojlbmbpkaa.dk

/- Layer 4, plain laws: two disks alike have the same; a crash that keeps none leaves no more. -/
namespace Go.Proofs.Ytbmhjojlbmbpkaa.dk
open Go.ChangeShapes Go.WideShapes Go.ChangeAt Go.RowKit

variable {D : DiskS} {g : Nat → Nat}
theorem find_mem (hF : Form D) {f : FileS} (hf : f ∈ D.files) : D.find f.name = some f := by
  cases hx : D.find f.name with
  | none => exact absurd rfl (find_none hx f hf)
  | some x =>
    obtain ⟨h1, h2⟩ := find_some hx
    rw [nodup_inj hF.names h1 hf h2]
theorem same_ren (hF : Form D) : SameS D (D.ren g) := by
  refine ⟨by unfold DiskS.ren; simp, fun f hf => ⟨renF g f, ?_, rfl⟩⟩
  rw [ren_find, find_mem hF hf]; rfl
theorem same_crash (hF : Form D) (hW : Whole D) (m : Nat) (hL : D.waits.length ≤ m) : SameS (D.crashed (List.replicate m true) 0) (D.ren g) := by
  have h := crashed_all hW m hL
  refine ⟨by rw [h]; unfold DiskS.ren; simp, fun f hf => ?_⟩
  rw [h] at hf
  obtain ⟨x, hx, rfl⟩ := List.mem_map.1 hf
  exact ⟨renF g x, by rw [ren_find, find_mem hF hx]; rfl, rfl⟩
theorem total_le {f : FileS → FileS} : ∀ (l : List FileS), (∀ x ∈ l, (f x).now.size ≤ x.now.size) → total (l.map f) ≤ total l
  | [], _ => Nat.le_refl _
  | x :: l, h => by
    have ih := total_le l (fun y hy => h y (List.mem_cons_of_mem _ hy))
    have h1 := h x (List.mem_cons_self ..)
    unfold total at *
    simp only [List.map_cons, List.foldr_cons] at ih ⊢
    omega
theorem crash_size (hg : Good D) : (D.crashed [] 0).size ≤ D.size := by
  unfold DiskS.size DiskS.crashed DiskS.imaged
  simp only [List.length_nil, Nat.zero_min, keptTo, List.range_zero, List.filterMap_nil, lays, List.foldl_nil, List.map_map]
  exact total_le _ (fun x hx => hg.image x hx)
theorem same_size {E : DiskS} (h : E.files = D.files) : E.size = D.size := by unfold DiskS.size; rw [h]
end Go.Proofs.Ytbmhjojlbmbpkaa.dk

/- Rows of numbers: read, made by append, compared. -/
namespace Go.Proofs.Ytbmhjojlbmbpkaa
open Go.ChangeShapes Go.WideShapes Go.ChangeAt Go.RowKit
open Go.Proofs.Ytbmhjojlbmbpkaa.dk

/-- A slice value that reads as a list of numbers. -/
def IntsAt (w : World) (v : Value) (l : List Int) : Prop :=
  ∃ a cap, v = .slice a l.length cap ∧ l.length ≤ maxLen ∧ ∀ k (hk : k < l.length), ∃ b off, a = some ⟨b, off, none⟩ ∧ b < w.heap.size ∧ w.cell? ⟨b, off + k, none⟩ = some (.int .i64 l[k])
theorem IntsAt.calm {w w' : World} {v : Value} {l : List Int} (h : IntsAt w v l) (hc : Calm w w') : IntsAt w' v l := by
  obtain ⟨a, cap, h1, h2, h4⟩ := h
  refine ⟨a, cap, h1, h2, fun k hk => ?_⟩
  obtain ⟨b, off, e, hb, hcell⟩ := h4 k hk
  exact ⟨b, off, e, Nat.lt_of_lt_of_le hb hc.size, by rw [hc.cell (p := ⟨b, off + k, none⟩) hb]; exact hcell⟩

/-- All its blocks lie from B on. -/
def From (B : Nat) (v : Value) : Prop := ∀ b, v.ownBlock = some b → B ≤ b
theorem ints_keep {w w' : World} {v : Value} {l : List Int} {B : Nat} {F : Nat → Prop} (h : IntsAt w v l) (hv : From B v) (k : Keeps F w w') (hF : ∀ b, F b → b < B) : IntsAt w' v l := by
  obtain ⟨a, cap, rfl, h2, h4⟩ := h
  refine ⟨a, cap, rfl, h2, fun j hj => ?_⟩
  obtain ⟨b, off, rfl, hb, hcell⟩ := h4 j hj
  have hB := hv b rfl
  refine ⟨b, off, rfl, Nat.lt_of_lt_of_le hb k.size, ?_⟩
  rw [World.cell?_of_block (w := w) (a := ⟨b, off + j, none⟩) (k.block b hb (fun hf => by have := hF b hf; omega))]
  exact hcell
theorem RowsAt.ints {w : World} {v : Value} {l : List Int} (h : RowsAt (IntR .i64) 1 w v l) : IntsAt w v l ∧ ∀ x ∈ l, -9223372036854775808 ≤ x ∧ x ≤ 9223372036854775807 := by
  obtain ⟨a, cap, rfl, h2, h3, h4⟩ := h
  refine ⟨⟨a, cap, rfl, by omega, fun k hk => ?_⟩, fun x hx => ?_⟩
  · obtain ⟨b, off, cs, e, hb, hl, hcell, hr, _⟩ := h4 k hk
    subst hr
    have := hcell 0 (by omega)
    simp only [Nat.mul_one, Nat.add_zero] at this
    exact ⟨b, off, e, hb, this⟩
  · obtain ⟨i, hi, rfl⟩ := List.mem_iff_getElem.1 hx
    obtain ⟨_, _, _, _, _, _, _, _, hr⟩ := h4 i hi
    exact hr
abbrev intRow (l : List Int) : List Value := l.map fun n => .int .i64 n
theorem own_ints {w : World} {base : Nat} {v : Value} {l : List Int} (h : w.ownsRow base 3 1 v l.length (intRow l)) (hl : l.length ≤ 1000000) : IntsAt w v l ∧ From base v := by
  refine ⟨?_, fun b hb => (h.lt b hb).1⟩
  rcases h.2 with ⟨rfl, hn⟩ | ⟨g, cap, cur, rfl, hb, hg, hnc, hcm, hcs, htake⟩
  · have : l = [] := List.eq_nil_of_length_eq_zero hn
    subst this
    exact ⟨none, 0, rfl, Nat.zero_le _, fun k hk => absurd hk (Nat.not_lt_zero _)⟩
  · refine ⟨_, cap, rfl, by omega, fun k hk => ⟨g, 0, rfl, heap_lt hg, ?_⟩⟩
    have := h.cells (g := g) rfl k (.int .i64 l[k]) (by simp [intRow, hk])
    rw [add_lit] at this
    rw [Nat.zero_add]
    exact this
theorem own_calm {w w' : World} {base n : Nat} {v : Value} {e : TypeId} {size : Nat} {xs : List Value} (h : w.ownsRow base e size v n xs) (hc : Calm w w') : w'.ownsRow base e size v n xs :=
  row_same h (fun g hg => hc.block g (h.lt g hg).2)
theorem infoInt : (Try.prog.info? 3).map (fun i => (i.zero, i.size, i.bytes)) = some (some (.int .i64 0), 1, 8) := by kernel_rfl
/-- 'append(row, n)' onto a row of one's own. -/
theorem append_int (w : World) (base : Nat) (v : Value) (l : List Int) (x : Int) (h : w.ownsRow base 3 1 v l.length (intRow l)) (hbase : base ≤ w.heap.size) (hl : l.length ≤ 1000000) (ty : TypeId) :
    ∃ v' w', (Builtin.append_ #[57, 57] ty #[v, .slice (some ⟨w.heap.size, 0, none⟩) 1 1]).run Try.prog (w.alloc (.cells #[.int .i64 x] 3)) = .ok v' w' ∧
      w'.ownsRow base 3 1 v' (l ++ [x]).length (intRow (l ++ [x])) ∧ Keeps (base ≤ ·) w w' := by
  obtain ⟨i0, hi, hz0, hz1, hz2⟩ := info_parts infoInt
  have hb := heap_new w (.cells #[.int .i64 x] 3)
  obtain ⟨v', w', h1, h2, h3, _⟩ := run_append_own (P := Try.prog) (w.alloc (.cells #[.int .i64 x] 3)) base 57 ty 3 i0 _ 1 8 Try.underlying57 hi hz0 hz1 hz2 (by kernel_rfl) (by decide) v l.length _ (h.alloc _) ⟨w.heap.size, 0, none⟩ 1 1 [.int .i64 x] rfl (fun j u hj => by
      rw [add_lit, cell_of hb]
      match j, hj with
      | 0, hj => exact hj
      | k + 1, hj => simp at hj) (fun u hu => by
      rcases List.mem_cons.1 hu with rfl | hu
      · rfl
      cases hu) (by simp only [maxLen]; omega) (by omega) (by rw [World.size_alloc]; omega)
  refine ⟨v', w', h1, ?_, ?_⟩
  · simpa [intRow] using h2
  · exact ((Keeps.refl (base ≤ ·) w).alloc _).grown h3 (fun k hk => .inl (h.lt k hk).1)

/-- A pair of numbers. -/
def PairR (k : IntKind) : Reads (Int × Int) := fun _ cs x => cs = [.int k x.1, .int k x.2] ∧ (k.min ≤ x.1 ∧ x.1 ≤ k.max) ∧ k.min ≤ x.2 ∧ x.2 ≤ k.max
theorem PairR.lasts (k : IntKind) : (PairR k).Lasts := fun _ _ _ _ h _ => h
theorem opens_pair {P : Program} {t e : TypeId} {k : IntKind} (ht : P.underlying t = some (.array 2 e)) (he : P.underlying e = some (.int k)) (hc : P.cellsOf e = 1) (hc2 : P.cellsOf t = 2) : Opens P t (PairR k) := fun H enc w base sp held fuel cs x h => by
  obtain ⟨xs, m, _, _, hlen, hxl, hg⟩ := DataW.trod_array ht h
  rw [hc2] at hlen
  rw [hc] at hg
  match cs, hlen with
  | [c0, c1], _ =>
    have g0 := hg 0 (by decide)
    have g1 := hg 1 (by decide)
    rw [List.getElem?_eq_getElem (by omega)] at g0 g1
    obtain ⟨a, ha, ha2⟩ := opens_int he _ _ _ _ _ _ _ _ _ g0
    obtain ⟨b, hb, hb2⟩ := opens_int he _ _ _ _ _ _ _ _ _ g1
    simp at ha hb
    exact ⟨(a, b), by rw [ha, hb], ha2, hb2⟩
theorem RowsAt.pairs {k : IntKind} {w : World} {v : Value} {l : List (Int × Int)} (h : RowsAt (PairR k) 2 w v l) : ∃ a cap, v = .slice a l.length cap ∧ l.length ≤ maxLen ∧ ∀ i (hi : i < l.length), ∃ b off, a = some ⟨b, off, none⟩ ∧ b < w.heap.size ∧
    w.cell? ⟨b, off + i * 2, none⟩ = some (.int k l[i].1) ∧ w.cell? ⟨b, off + i * 2 + 1, none⟩ = some (.int k l[i].2) ∧ (k.min ≤ l[i].1 ∧ l[i].1 ≤ k.max) ∧ k.min ≤ l[i].2 ∧ l[i].2 ≤ k.max := by
  obtain ⟨a, cap, rfl, h2, h3, h4⟩ := h
  refine ⟨a, cap, rfl, by omega, fun i hi => ?_⟩
  obtain ⟨b, off, cs, e, hb, hl, hcell, hr, hm⟩ := h4 i hi
  subst hr
  exact ⟨b, off, e, hb, hcell 0 (by omega), hcell 1 (by omega), hm⟩
theorem RowsAt.nums {k : IntKind} {w : World} {v : Value} {l : List Int} (h : RowsAt (IntR k) 1 w v l) : ∃ a cap, v = .slice a l.length cap ∧ l.length ≤ maxLen ∧ ∀ i (hi : i < l.length), ∃ b off, a = some ⟨b, off, none⟩ ∧ b < w.heap.size ∧
    w.cell? ⟨b, off + i, none⟩ = some (.int k l[i]) ∧ k.min ≤ l[i] ∧ l[i] ≤ k.max := by
  obtain ⟨a, cap, rfl, h2, h3, h4⟩ := h
  refine ⟨a, cap, rfl, by omega, fun i hi => ?_⟩
  obtain ⟨b, off, cs, e, hb, hl, hcell, hr, hm⟩ := h4 i hi
  subst hr
  have := hcell 0 (by omega)
  simp only [Nat.mul_one, Nat.add_zero] at this
  exact ⟨b, off, e, hb, this, hm⟩

/-- Are two lists one? -/
theorem Ints_any (v u : Value) (l m : List Int) (w : World) (h : IntsAt w v l) (g : IntsAt w u m) : Calls Try.prog 35 #[v, u] w fun e w' => e = .returned (.bool (decide (l = m))) ∧ Calm w w' := by
  obtain ⟨a, acap, rfl, hal, ha⟩ := h
  obtain ⟨b, bcap, rfl, hbl, hb⟩ := g
  by_cases hlen : l.length = m.length
  · have ha' := box ha
    have hb' := box hb
    have Hl := box hal
    unfold maxLen at hal
    clear ha hb hbl
    rw [← hlen]
    obtain ⟨rr, hrr⟩ : ∃ rr, decide (l = m) = rr := ⟨_, rfl⟩
    rw [hrr]
    have Hrr := box hrr.symm
    clear hrr
    go_enter Try.func35, Try.ntmps35
    go_wp2_with fail
    go_loopw [5] (fun i wr => ∃ k : Nat, k ≤ l.length ∧ i = .int .i64 k ∧ l.take k = m.take k ∧ Calm w wr) (fun i _ => l.length - (intOf i).toNat)
    case atStart => exact ⟨0, Nat.zero_le _, rfl, rfl, .refl _⟩
    case round =>
      obtain ⟨k, hk, rfl, hpre, hC⟩ := hrel
      have Hpre := box hpre
      have HC := box hC
      clear hpre hC
      by_cases hlt : k < l.length
      · obtain ⟨ab, aoff, rfl, hal2, hac⟩ := ha'.out k hlt
        obtain ⟨bb, boff, rfl, hbl2, hbc⟩ := hb'.out k (by omega)
        have hs1 := box (show l.take (k + 1) = l.take k ++ [l[k]] from List.take_succ_eq_append_getElem hlt)
        have hs2 := box (show m.take (k + 1) = m.take k ++ [m[k]'(by omega)] from List.take_succ_eq_append_getElem (by omega))
        have hne := box (fun (h : l[k] ≠ m[k]'(by omega)) => (decide_eq_false (fun e => h (by subst e; rfl)) : decide (l = m) = false))
        obtain ⟨x, hx⟩ : ∃ x, l[k] = x := ⟨_, rfl⟩
        obtain ⟨y, hy⟩ : ∃ y, m[k]'(by omega) = y := ⟨_, rfl⟩
        rw [hx] at hac hs1 hne
        rw [hy] at hbc hs2 hne
        clear hx hy
        have hac' := (HC.out.cell (p := ⟨ab, aoff + k, none⟩) hal2).trans hac
        have hbc' := (HC.out.cell (p := ⟨bb, boff + k, none⟩) hbl2).trans hbc
        have hal3 := Nat.lt_of_lt_of_le hal2 HC.out.size
        have hbl3 := Nat.lt_of_lt_of_le hbl2 HC.out.size
        have hki : (k : Int) < (l.length : Int) := by omega
        have hk0 : (0 : Int) ≤ (k : Int) := by omega
        clear hac hbc
        by_cases heq : x = y
        · subst heq
          go_wp2_with (first | go_quiet (fail) | fail)
          go_wp2_with fail
          go_roundw
          case rel => exact ⟨k + 1, by omega, by go_num, by rw [hs1.out, hs2.out, Hpre.out], HC.out.drewN _⟩
          case measure => simp [intOf]; omega
        · have hb1 : (x != y) = true := bne_iff_ne.2 heq
          have hne := box (hne.out heq)
          clear heq
          go_wp2_with (first | go_quiet (fail) | fail)
          go_wp2_with fail
          go_ret
          exact ⟨ret_bool (by rw [Hrr.out, hne.out]), HC.out.drewN _⟩
      · obtain rfl : k = l.length := by omega
        have hd : decide (l = m) = true := decide_eq_true (by
          have := Hpre.out
          rw [List.take_length, hlen, List.take_length] at this
          exact this)
        have hd := box hd
        go_wp2_with fail
        go_ret
        exact ⟨ret_bool (by rw [Hrr.out, hd.out]), HC.out⟩
  · have hd : decide (l = m) = false := decide_eq_false (fun e => hlen (by rw [e]))
    have hne : (l.length == m.length) = false := by rw [beq_eq_false_iff_ne]; exact hlen
    rw [hd]
    clear hd ha hb
    go_enter Try.func35, Try.ntmps35
    go_wp2_with fail
    all_goals first | (go_ret; exact ⟨rfl, .refl _⟩) | (exfalso; omega)
end Go.Proofs.Ytbmhjojlbmbpkaa

/- Two lists of texts are compared. -/
namespace Go.Proofs.Ytbmhjojlbmbpkaa
open Go.ChangeShapes Go.WideShapes Go.ChangeAt Go.RowKit

/-- Are two lists one? -/
theorem Texts_any (v u : Value) (l m : List ByteArray) (w : World) (h : StrsAt w v l) (g : StrsAt w u m) (hal : l.length ≤ 4294967296) (hbl : m.length ≤ 4294967296) : Calls Try.prog 30 #[v, u] w fun e w' => e = .returned (.bool (decide (l = m))) ∧ Calm w w' := by
  obtain ⟨a, acap, rfl, ha⟩ := h.uni
  obtain ⟨b, bcap, rfl, hb⟩ := g.uni
  by_cases hlen : l.length = m.length
  · have ha' := box ha
    have hb' := box hb
    have Hl := box hal
    clear ha hb hbl
    rw [← hlen]
    obtain ⟨rr, hrr⟩ : ∃ rr, decide (l = m) = rr := ⟨_, rfl⟩
    rw [hrr]
    have Hrr := box hrr.symm
    clear hrr
    go_enter Try.func30, Try.ntmps30
    go_wp2_with fail
    go_loopw [5] (fun i wr => ∃ k : Nat, k ≤ l.length ∧ i = .int .i64 k ∧ l.take k = m.take k ∧ Calm w wr) (fun i _ => l.length - (intOf i).toNat)
    case atStart => exact ⟨0, Nat.zero_le _, rfl, rfl, .refl _⟩
    case round =>
      obtain ⟨k, hk, rfl, hpre, hC⟩ := hrel
      have Hpre := box hpre
      have HC := box hC
      clear hpre hC
      by_cases hlt : k < l.length
      · obtain ⟨ab, aoff, rfl, hal2, hac⟩ := ha'.out k hlt
        obtain ⟨bb, boff, rfl, hbl2, hbc⟩ := hb'.out k (by omega)
        have hs1 := box (show l.take (k + 1) = l.take k ++ [l[k]] from List.take_succ_eq_append_getElem hlt)
        have hs2 := box (show m.take (k + 1) = m.take k ++ [m[k]'(by omega)] from List.take_succ_eq_append_getElem (by omega))
        have hne := box (fun (h : l[k] ≠ m[k]'(by omega)) => (decide_eq_false (fun e => h (by subst e; rfl)) : decide (l = m) = false))
        have hga : l.getD k ByteArray.empty = l[k] := by rw [List.getD_eq_getElem?_getD, List.getElem?_eq_getElem hlt]; rfl
        have hgb : m.getD k ByteArray.empty = m[k]'(by omega) := by rw [List.getD_eq_getElem?_getD, List.getElem?_eq_getElem (by omega)]; rfl
        rw [hga] at hac
        rw [hgb] at hbc
        clear hga hgb
        obtain ⟨x, hx⟩ : ∃ x, l[k] = x := ⟨_, rfl⟩
        obtain ⟨y, hy⟩ : ∃ y, m[k]'(by omega) = y := ⟨_, rfl⟩
        rw [hx] at hac hs1 hne
        rw [hy] at hbc hs2 hne
        clear hx hy
        have hac' := (HC.out.cell (p := ⟨ab, aoff + k, none⟩) hal2).trans hac
        have hbc' := (HC.out.cell (p := ⟨bb, boff + k, none⟩) hbl2).trans hbc
        have hal3 := Nat.lt_of_lt_of_le hal2 HC.out.size
        have hbl3 := Nat.lt_of_lt_of_le hbl2 HC.out.size
        have hki : (k : Int) < (l.length : Int) := by omega
        have hk0 : (0 : Int) ≤ (k : Int) := by omega
        clear hac hbc
        by_cases heq : x = y
        · subst heq
          go_wp2_with (first | go_quiet (fail) | fail)
          go_wp2_with fail
          go_roundw
          case rel => exact ⟨k + 1, by omega, by go_num, by rw [hs1.out, hs2.out, Hpre.out], HC.out.drewN _⟩
          case measure => simp [intOf]; omega
        · have hb1 : (x.toList == y.toList) = false := beq_eq_false_iff_ne.2 (fun e => heq (ba_ext (by rw [← Lib.toList_data, ← Lib.toList_data]; exact e)))
          have hne := box (hne.out heq)
          clear heq
          go_wp2_with (first | go_quiet (fail) | fail)
          go_wp2_with fail
          go_ret
          exact ⟨ret_bool (by rw [Hrr.out, hne.out]), HC.out.drewN _⟩
      · obtain rfl : k = l.length := by omega
        have hd : decide (l = m) = true := decide_eq_true (by
          have := Hpre.out
          rw [List.take_length, hlen, List.take_length] at this
          exact this)
        have hd := box hd
        go_wp2_with fail
        go_ret
        exact ⟨ret_bool (by rw [Hrr.out, hd.out]), HC.out⟩
  · have hd : decide (l = m) = false := decide_eq_false (fun e => hlen (by rw [e]))
    have hne : (l.length == m.length) = false := by rw [beq_eq_false_iff_ne]; exact hlen
    rw [hd]
    clear hd ha hb
    go_enter Try.func30, Try.ntmps30
    go_wp2_with fail
    all_goals first | (go_ret; exact ⟨rfl, .refl _⟩) | (exfalso; omega)
end Go.Proofs.Ytbmhjojlbmbpkaa
