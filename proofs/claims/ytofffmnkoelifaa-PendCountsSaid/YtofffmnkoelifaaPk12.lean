/-
  DERIVED: THE SHELF's CONTRACTS AT THIS DUMP, IN PLAIN WORDS (tools/lay-plain.mjs out of 'TryIter3.lean', which tools/lay-shelf.mjs wrote): THE SAME DECLARATIONS UNDER THE SAME NAMES: 'import', 'namespace', 'open', 'def', 'theorem' AND NOTHING ELSE: no command of the shelf's: FOR A HAND-IN. Each laying: the table of numbers ('.._ren') and one theorem, a field a fact of the dump's own or the kernel's comparison; each contract: ONE APPLICATION.
-/
import Derived.Test.YtofffmnkoelifaaRows
import Derived.WalkKit
import Derived.ProofKit
import Derived.OpenShut
import Derived.Handy
import Derived.Deep.LoopGhost
import Derived.Lib.Hide
import Derived.Lib.Strings
import Derived.SizedLaws
import Derived.Maps.Own
import Derived.Maps.OwnOps
import Derived.Maps.OwnSet
import Derived.Maps.RangeWalk
import Derived.Deep.Slices
import Derived.Laws.StructEq
import Derived.Deep.RegionHeld3
import Derived.Shelf.Strings.Builder1
import Derived.Shelf.Strings.Builder2
import Derived.Shelf.Small.Bits
import Derived.Shelf.Small.Wraps
import Derived.Shelf.Strings.BuilderF
import Derived.Shelf.Strings.BuilderK
import Derived.Shelf.Strings.Builder2Cap
import Derived.Shelf.Strconv.Itoa0
import Derived.Shelf.Sort.Plain
import Derived.Shelf.GgClosure.StringsIndexFunc
import Derived.Ground.GgwProg
import Derived.Shelf.GgClosure.StringsIndexFuncTop
import Derived.Shelf.GgClosure.StringsRunes
import Derived.Shelf.Strings.Prefix
import Derived.Shelf.Bits.Mul64
import Derived.Shelf.Strings.Repeat
import Derived.Shelf.Strings.BuilderCap
import Derived.Shelf.Slices.Equal
import Derived.Ground.Names2Prog
import Derived.Shelf.Slices.Clone
import Derived.Shelf.Slices.CompactS
import Derived.Shelf.Slices.SearchI
import Derived.Shelf.Slices.Cells
import Derived.Shelf.Slices.In.SortNone
import Derived.Shelf.Slices.Empties2
import Derived.Ground.SlgnProg
import Derived.Shelf.SlicesE.Equal
import Derived.Shelf.SlicesE.Compact
import Derived.Ground.SlgfProg
import Derived.Shelf.SlicesE.IndexFunc
import Derived.Shelf.SlicesE.DeleteFunc
import Derived.Test.YtofffmnkoelifaaProg
import Derived.Sort.Statements
import Derived.Lib.ConvBytes
import Derived.Lib.AppendZeros
import Derived.Lib.AppendZerosOnto
import Derived.Lib.LazyBuf
import Derived.Lib.SliceRun
import Derived.Shelf.SlIterI.Collect
import Derived.Shelf.SlIterI.Nil
import Derived.Ground.GgzProg
import Derived.Shelf.SlSortCmp.Whole1
import Derived.Ground.SlsfProg
import Derived.Test.YtofffmnkoelifaaPk11
namespace Go.Proofs
open Go.Shelf
def Try.gSortFn_ren : Go.Shelf.Ren := ⟨fun | 6 => 35 | 15 => 66 | 14 => 65 | 28 => 95 | 29 => 96 | 20 => 87 | 21 => 88 | 22 => 89 | 23 => 90 | 24 => 91 | 25 => 92 | 26 => 93 | 27 => 94 | 46 => 117 | 47 => 118 | 48 => 119 | 49 => 120 | 50 => 121 | 57 => 133 | n => n, fun | 22 => 34 | 24 => 3 | 25 => 78 | 3 => 3 | 39 => 58 | 0 => 0 | 53 => 48 | 55 => 132 | 4 => 4 | 46 => 124 | 45 => 123 | 50 => 128 | 5 => 5 | 9 => 9 | 66 => 147 | 70 => 151 | 76 => 165 | 77 => 166 | n => n, fun | n => n⟩
theorem Try.gSortFn : Go.Proofs.SlLaysF.n6 Try.prog Try.gSortFn_ren := {
  mixed := by kernel_rfl
  f6 := ⟨Try.f35.name, by decide, Try.func35.trans (congrArg some (by kernel_rfl))⟩
  f14 := ⟨Try.f65.name, by decide, Try.func65.trans (congrArg some (by kernel_rfl))⟩
  f15 := Try.func66.trans (congrArg some (by kernel_rfl))
  f20 := ⟨Try.f87.name, by decide, Try.func87.trans (congrArg some (by kernel_rfl))⟩
  f21 := ⟨Try.f88.name, by decide, Try.func88.trans (congrArg some (by kernel_rfl))⟩
  f22 := ⟨Try.f89.name, by decide, Try.func89.trans (congrArg some (by kernel_rfl))⟩
  f23 := ⟨Try.f90.name, by decide, Try.func90.trans (congrArg some (by kernel_rfl))⟩
  f24 := ⟨Try.f91.name, by decide, Try.func91.trans (congrArg some (by kernel_rfl))⟩
  f25 := ⟨Try.f92.name, by decide, Try.func92.trans (congrArg some (by kernel_rfl))⟩
  f26 := ⟨Try.f93.name, by decide, Try.func93.trans (congrArg some (by kernel_rfl))⟩
  f27 := ⟨Try.f94.name, by decide, Try.func94.trans (congrArg some (by kernel_rfl))⟩
  f28 := Try.func95.trans (congrArg some (by kernel_rfl))
  f29 := Try.func96.trans (congrArg some (by kernel_rfl))
  f46 := ⟨Try.f117.name, by decide, Try.func117.trans (congrArg some (by kernel_rfl))⟩
  f47 := Try.func118.trans (congrArg some (by kernel_rfl))
  f48 := Try.func119.trans (congrArg some (by kernel_rfl))
  f49 := ⟨Try.f120.name, by decide, Try.func120.trans (congrArg some (by kernel_rfl))⟩
  f50 := ⟨Try.f121.name, by decide, Try.func121.trans (congrArg some (by kernel_rfl))⟩
  f57 := ⟨Try.f133.name, by decide, Try.func133.trans (congrArg some (by kernel_rfl))⟩
  t0 := Try.underlying0
  a0 := Try.isAgg0
  z0 := Try.sizeOf0
  v0 := Try.zeroValue0
  t3 := Try.underlying3
  a3 := Try.isAgg3
  z3 := Try.sizeOf3
  v3 := Try.zeroValue3
  t4 := Try.underlying4
  a4 := Try.isAgg4
  z4 := Try.sizeOf4
  v4 := Try.zeroValue4
  t5 := Try.underlying5
  a5 := Try.isAgg5
  z5 := Try.sizeOf5
  v5 := Try.zeroValue5
  t9 := Try.underlying9
  a9 := Try.isAgg9
  z9 := Try.sizeOf9
  v9 := Try.zeroValue9
  t22 := Try.underlying34
  a22 := Try.isAgg34
  z22 := Try.sizeOf34
  v22 := Try.zeroValue34
  a24 := Try.isAgg3
  z24 := Try.sizeOf3
  t25 := Try.underlying78
  a25 := Try.isAgg78
  z25 := Try.sizeOf78
  v25 := Try.zeroValue78
  t39 := Try.underlying58
  a39 := Try.isAgg58
  z39 := Try.sizeOf58
  v39 := Try.zeroValue58
  t45 := Try.underlying123
  a45 := Try.isAgg123
  z45 := Try.sizeOf123
  v45 := Try.zeroValue123
  t46 := Try.underlying124
  a46 := Try.isAgg124
  z46 := Try.sizeOf124
  v46 := Try.zeroValue124
  t50 := Try.underlying128
  a50 := Try.isAgg128
  z50 := Try.sizeOf128
  v50 := Try.zeroValue128
  t53 := Try.underlying48
  a53 := Try.isAgg48
  z53 := Try.sizeOf48
  v53 := Try.zeroValue48
  t55 := Try.underlying132
  a55 := Try.isAgg132
  z55 := Try.sizeOf132
  v55 := Try.zeroValue132
  t66 := Try.underlying147
  a66 := Try.isAgg147
  z66 := Try.sizeOf147
  v66 := Try.zeroValue147
  t70 := Try.underlying151
  a70 := Try.isAgg151
  z70 := Try.sizeOf151
  v70 := Try.zeroValue151
  t76 := Try.underlying165
  a76 := Try.isAgg165
  z76 := Try.sizeOf165
  v76 := Try.zeroValue165
  t77 := Try.underlying166
  a77 := Try.isAgg166
  z77 := Try.sizeOf166
  v77 := Try.zeroValue166 }
end Go.Proofs
