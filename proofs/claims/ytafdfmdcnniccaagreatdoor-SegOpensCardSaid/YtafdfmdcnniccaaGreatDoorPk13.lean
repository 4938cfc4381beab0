/-
  DERIVED: THE SHELF's CONTRACTS AT THIS DUMP, IN PLAIN WORDS (tools/lay-plain.mjs out of 'TryzIter.lean', which tools/lay-shelf.mjs wrote): THE SAME DECLARATIONS UNDER THE SAME NAMES: 'import', 'namespace', 'open', 'def', 'theorem' AND NOTHING ELSE: no command of the shelf's: FOR A HAND-IN. Each laying: the table of numbers ('.._ren') and one theorem, a field a fact of the dump's own or the kernel's comparison; each contract: ONE APPLICATION.
-/
import Derived.Test.YtafdfmdcnniccaaGreatDoorRows
import Derived.WalkKit
import Derived.ProofKit
import Derived.OpenShut
import Derived.Handy
import Derived.Deep.LoopGhost
import Derived.Lib.Hide
import Derived.Lib.Strings
import Derived.SizedLaws
import Derived.Maps.Own
import Derived.Maps.OwnOps
import Derived.Maps.OwnSet
import Derived.Maps.RangeWalk
import Derived.Deep.QuietTactic
import Derived.BigQuiet
import Derived.Deep.RegionHeld3
import Derived.Lib.ConvBytes
import Derived.Lib.AppendZeros
import Derived.Lib.AppendZerosOnto
import Derived.Lib.LazyBuf
import Derived.Shelf.Abstract
import Derived.LaidEql
import Derived.Lib.SliceRun
import Derived.StillTailTactics
import Derived.Deep.Slices
import Derived.Lib.Atoi
import Derived.Lib.ItoaNum
import Derived.Lib.SlTrimSet
import Derived.Shelf.SlIter.Nil
import Derived.Ground.GgzProg
import Derived.Shelf.SortM.Plain
import Derived.Shelf.SortM.SortNone
import Derived.Ground.SlgmProg
import Derived.Shelf.SlicesE.DeleteFunc
import Derived.Ground.SlgfProg
import Derived.Test.YtafdfmdcnniccaaGreatDoorProg
import Derived.Test.YtafdfmdcnniccaaGreatDoorPk12
namespace Go.Proofs
open Go.Shelf
def Tryz.gKeys_ren : Go.Shelf.Ren := ⟨fun | 7 => 40 | 10 => 79 | n => n, fun | 23 => 67 | 26 => 9 | 3 => 74 | 28 => 88 | 0 => 0 | 27 => 87 | 33 => 64 | 4 => 4 | n => n, fun | n => n⟩
theorem Tryz.gKeys : Go.Proofs.SlLaysZ.n7 Tryz.prog Tryz.gKeys_ren := {
  mixed := by kernel_rfl
  f7 := ⟨Tryz.f40.name, by decide, Tryz.func40.trans (congrArg some (by kernel_rfl))⟩
  f10 := ⟨Tryz.f79.name, by decide, Tryz.func79.trans (congrArg some (by kernel_rfl))⟩
  t0 := Tryz.underlying0
  a0 := Tryz.isAgg0
  z0 := Tryz.sizeOf0
  v0 := Tryz.zeroValue0
  t4 := Tryz.underlying4
  a4 := Tryz.isAgg4
  z4 := Tryz.sizeOf4
  v4 := Tryz.zeroValue4
  t23 := Tryz.underlying67
  a23 := Tryz.isAgg67
  z23 := Tryz.sizeOf67
  v23 := Tryz.zeroValue67
  t26 := Tryz.underlying9
  a26 := Tryz.isAgg9
  z26 := Tryz.sizeOf9
  v26 := Tryz.zeroValue9
  t27 := Tryz.underlying87
  a27 := Tryz.isAgg87
  z27 := Tryz.sizeOf87
  v27 := Tryz.zeroValue87
  t28 := Tryz.underlying88
  a28 := Tryz.isAgg88
  z28 := Tryz.sizeOf88
  v28 := Tryz.zeroValue88
  t33 := Tryz.underlying64
  a33 := Tryz.isAgg64
  z33 := Tryz.sizeOf64
  v33 := Tryz.zeroValue64 }
def Tryz.gSorted_ren : Go.Shelf.Ren := ⟨fun | 6 => 39 | 8 => 77 | 9 => 78 | 11 => 100 | 13 => 102 | 12 => 101 | 23 => 127 | 24 => 128 | 14 => 118 | 15 => 119 | 16 => 120 | 17 => 121 | 18 => 122 | 19 => 123 | 20 => 124 | 21 => 125 | 22 => 126 | 25 => 140 | 26 => 141 | 27 => 142 | 28 => 143 | 29 => 144 | 30 => 145 | 31 => 149 | n => n, fun | 26 => 9 | 28 => 88 | 24 => 24 | 0 => 0 | 3 => 3 | 37 => 103 | 48 => 125 | 50 => 128 | 4 => 4 | 40 => 165 | 39 => 164 | 45 => 34 | 5 => 5 | 9 => 9 | 51 => 186 | 55 => 190 | 57 => 192 | 58 => 193 | 33 => 64 | n => n, fun | n => n⟩
theorem Tryz.gSorted : Go.Proofs.SlLaysZ.n6 Tryz.prog Tryz.gSorted_ren := {
  mixed := by kernel_rfl
  f6 := ⟨Tryz.f39.name, by decide, Tryz.func39.trans (congrArg some (by kernel_rfl))⟩
  f8 := ⟨Tryz.f77.name, by decide, Tryz.func77.trans (congrArg some (by kernel_rfl))⟩
  f11 := ⟨Tryz.f100.name, by decide, Tryz.func100.trans (congrArg some (by kernel_rfl))⟩
  t0 := Tryz.underlying0
  a0 := Tryz.isAgg0
  z0 := Tryz.sizeOf0
  v0 := Tryz.zeroValue0
  t24 := Tryz.underlying24
  a24 := Tryz.isAgg24
  z24 := Tryz.sizeOf24
  v24 := Tryz.zeroValue24
  t26 := Tryz.underlying9
  a26 := Tryz.isAgg9
  z26 := Tryz.sizeOf9
  v26 := Tryz.zeroValue9
  t28 := Tryz.underlying88
  a28 := Tryz.isAgg88
  z28 := Tryz.sizeOf88
  v28 := Tryz.zeroValue88
  i26 := by kernel_rfl }
def Tryz.gSort_ren : Go.Shelf.Ren := ⟨fun | 6 => 78 | 8 => 102 | 9 => 101 | 19 => 127 | 20 => 128 | 21 => 118 | 22 => 119 | 23 => 120 | 24 => 121 | 25 => 122 | 26 => 123 | 27 => 124 | 28 => 125 | 29 => 126 | 36 => 140 | 31 => 141 | 32 => 142 | 37 => 143 | 38 => 144 | 39 => 145 | 41 => 149 | n => n, fun | 27 => 24 | 29 => 9 | 3 => 3 | 32 => 103 | 26 => 24 | 0 => 0 | 44 => 125 | 46 => 128 | 4 => 4 | 36 => 165 | 35 => 164 | 41 => 34 | 5 => 5 | 9 => 9 | 53 => 186 | 57 => 190 | 63 => 192 | 64 => 193 | n => n, fun | n => n⟩
theorem Tryz.gSort : Go.Proofs.SlLaysM.n6 Tryz.prog Tryz.gSort_ren := {
  mixed := by kernel_rfl
  f6 := ⟨Tryz.f78.name, by decide, Tryz.func78.trans (congrArg some (by kernel_rfl))⟩
  f8 := Tryz.func102.trans (congrArg some (by kernel_rfl))
  f9 := ⟨Tryz.f101.name, by decide, Tryz.func101.trans (congrArg some (by kernel_rfl))⟩
  f19 := Tryz.func127.trans (congrArg some (by kernel_rfl))
  f20 := Tryz.func128.trans (congrArg some (by kernel_rfl))
  f21 := ⟨Tryz.f118.name, by decide, Tryz.func118.trans (congrArg some (by kernel_rfl))⟩
  f22 := ⟨Tryz.f119.name, by decide, Tryz.func119.trans (congrArg some (by kernel_rfl))⟩
  f23 := ⟨Tryz.f120.name, by decide, Tryz.func120.trans (congrArg some (by kernel_rfl))⟩
  f24 := ⟨Tryz.f121.name, by decide, Tryz.func121.trans (congrArg some (by kernel_rfl))⟩
  f25 := ⟨Tryz.f122.name, by decide, Tryz.func122.trans (congrArg some (by kernel_rfl))⟩
  f26 := ⟨Tryz.f123.name, by decide, Tryz.func123.trans (congrArg some (by kernel_rfl))⟩
  f27 := ⟨Tryz.f124.name, by decide, Tryz.func124.trans (congrArg some (by kernel_rfl))⟩
  f28 := ⟨Tryz.f125.name, by decide, Tryz.func125.trans (congrArg some (by kernel_rfl))⟩
  f29 := ⟨Tryz.f126.name, by decide, Tryz.func126.trans (congrArg some (by kernel_rfl))⟩
  f31 := Tryz.func141.trans (congrArg some (by kernel_rfl))
  f32 := Tryz.func142.trans (congrArg some (by kernel_rfl))
  f36 := ⟨Tryz.f140.name, by decide, Tryz.func140.trans (congrArg some (by kernel_rfl))⟩
  f37 := ⟨Tryz.f143.name, by decide, Tryz.func143.trans (congrArg some (by kernel_rfl))⟩
  f38 := ⟨Tryz.f144.name, by decide, Tryz.func144.trans (congrArg some (by kernel_rfl))⟩
  f39 := ⟨Tryz.f145.name, by decide, Tryz.func145.trans (congrArg some (by kernel_rfl))⟩
  f41 := ⟨Tryz.f149.name, by decide, Tryz.func149.trans (congrArg some (by kernel_rfl))⟩
  t0 := Tryz.underlying0
  a0 := Tryz.isAgg0
  z0 := Tryz.sizeOf0
  v0 := Tryz.zeroValue0
  t3 := Tryz.underlying3
  a3 := Tryz.isAgg3
  z3 := Tryz.sizeOf3
  v3 := Tryz.zeroValue3
  t4 := Tryz.underlying4
  a4 := Tryz.isAgg4
  z4 := Tryz.sizeOf4
  v4 := Tryz.zeroValue4
  t5 := Tryz.underlying5
  a5 := Tryz.isAgg5
  z5 := Tryz.sizeOf5
  v5 := Tryz.zeroValue5
  t9 := Tryz.underlying9
  a9 := Tryz.isAgg9
  z9 := Tryz.sizeOf9
  v9 := Tryz.zeroValue9
  t26 := Tryz.underlying24
  a26 := Tryz.isAgg24
  z26 := Tryz.sizeOf24
  v26 := Tryz.zeroValue24
  t27 := Tryz.underlying24
  a27 := Tryz.isAgg24
  z27 := Tryz.sizeOf24
  v27 := Tryz.zeroValue24
  t29 := Tryz.underlying9
  a29 := Tryz.isAgg9
  z29 := Tryz.sizeOf9
  v29 := Tryz.zeroValue9
  t32 := Tryz.underlying103
  a32 := Tryz.isAgg103
  z32 := Tryz.sizeOf103
  v32 := Tryz.zeroValue103
  t35 := Tryz.underlying164
  a35 := Tryz.isAgg164
  z35 := Tryz.sizeOf164
  v35 := Tryz.zeroValue164
  t36 := Tryz.underlying165
  a36 := Tryz.isAgg165
  z36 := Tryz.sizeOf165
  v36 := Tryz.zeroValue165
  t41 := Tryz.underlying34
  a41 := Tryz.isAgg34
  z41 := Tryz.sizeOf34
  v41 := Tryz.zeroValue34
  t44 := Tryz.underlying125
  a44 := Tryz.isAgg125
  z44 := Tryz.sizeOf125
  v44 := Tryz.zeroValue125
  t46 := Tryz.underlying128
  a46 := Tryz.isAgg128
  z46 := Tryz.sizeOf128
  v46 := Tryz.zeroValue128
  t53 := Tryz.underlying186
  a53 := Tryz.isAgg186
  z53 := Tryz.sizeOf186
  v53 := Tryz.zeroValue186
  t57 := Tryz.underlying190
  a57 := Tryz.isAgg190
  z57 := Tryz.sizeOf190
  v57 := Tryz.zeroValue190
  t63 := Tryz.underlying192
  a63 := Tryz.isAgg192
  z63 := Tryz.sizeOf192
  v63 := Tryz.zeroValue192
  t64 := Tryz.underlying193
  a64 := Tryz.isAgg193
  z64 := Tryz.sizeOf193
  v64 := Tryz.zeroValue193 }
def Tryz.gDelStr_ren : Go.Shelf.Ren := ⟨fun | 10 => 41 | 6 => 80 | n => n, fun | 22 => 24 | 23 => 9 | 25 => 64 | 3 => 3 | 4 => 4 | 0 => 0 | n => n, fun | n => n⟩
theorem Tryz.gDelStr : Go.Proofs.SlLaysH.n10 Tryz.prog Tryz.gDelStr_ren := {
  mixed := by kernel_rfl
  f6 := ⟨Tryz.f80.name, by decide, Tryz.func80.trans (congrArg some (by kernel_rfl))⟩
  f10 := ⟨Tryz.f41.name, by decide, Tryz.func41.trans (congrArg some (by kernel_rfl))⟩
  t0 := Tryz.underlying0
  a0 := Tryz.isAgg0
  z0 := Tryz.sizeOf0
  v0 := Tryz.zeroValue0
  t3 := Tryz.underlying3
  a3 := Tryz.isAgg3
  z3 := Tryz.sizeOf3
  v3 := Tryz.zeroValue3
  t4 := Tryz.underlying4
  a4 := Tryz.isAgg4
  z4 := Tryz.sizeOf4
  v4 := Tryz.zeroValue4
  t22 := Tryz.underlying24
  a22 := Tryz.isAgg24
  z22 := Tryz.sizeOf24
  v22 := Tryz.zeroValue24
  a23 := Tryz.isAgg9
  z23 := Tryz.sizeOf9
  t25 := Tryz.underlying64
  a25 := Tryz.isAgg64
  z25 := Tryz.sizeOf64
  v25 := Tryz.zeroValue64 }
end Go.Proofs
