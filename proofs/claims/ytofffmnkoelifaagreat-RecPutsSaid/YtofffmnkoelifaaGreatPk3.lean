/-
  DERIVED: THE SHELF's CONTRACTS AT THIS DUMP, IN PLAIN WORDS (tools/lay-plain.mjs out of 'TryzIter.lean', which tools/lay-shelf.mjs wrote): THE SAME DECLARATIONS UNDER THE SAME NAMES: 'import', 'namespace', 'open', 'def', 'theorem' AND NOTHING ELSE: no command of the shelf's: FOR A HAND-IN. Each laying: the table of numbers ('.._ren') and one theorem, a field a fact of the dump's own or the kernel's comparison; each contract: ONE APPLICATION.
-/
import Derived.Test.YtofffmnkoelifaaGreatRows
import Derived.WalkKit
import Derived.ProofKit
import Derived.OpenShut
import Derived.Handy
import Derived.Deep.LoopGhost
import Derived.Lib.Hide
import Derived.Lib.Strings
import Derived.SizedLaws
import Derived.Deep.Slices
import Derived.Shelf.SlIter.Nil
import Derived.Ground.GgzProg
import Derived.Shelf.SortM.Plain
import Derived.Shelf.SortM.SortNone
import Derived.Ground.SlgmProg
import Derived.Test.YtofffmnkoelifaaGreatProg
import Derived.Test.YtofffmnkoelifaaGreatPk2
namespace Go.Proofs
open Go.Shelf
def Tryz.gSorted_ren : Go.Shelf.Ren := ⟨fun | 6 => 66 | 8 => 85 | 9 => 86 | 11 => 95 | 13 => 97 | 12 => 96 | 23 => 108 | 24 => 109 | 14 => 99 | 15 => 100 | 16 => 101 | 17 => 102 | 18 => 103 | 19 => 104 | 20 => 105 | 21 => 106 | 22 => 107 | 25 => 110 | 26 => 111 | 27 => 112 | 28 => 113 | 29 => 114 | 30 => 115 | 31 => 116 | n => n, fun | 26 => 9 | 28 => 92 | 24 => 22 | 0 => 0 | 3 => 3 | 37 => 49 | 48 => 42 | 50 => 109 | 4 => 4 | 40 => 122 | 39 => 121 | 45 => 126 | 5 => 5 | 9 => 9 | 51 => 130 | 55 => 134 | 57 => 136 | 58 => 137 | 33 => 66 | n => n, fun | n => n⟩
theorem Tryz.gSorted : Go.Proofs.SlLaysZ.n6 Tryz.prog Tryz.gSorted_ren := {
  mixed := by kernel_rfl
  f6 := ⟨Tryz.f66.name, by decide, Tryz.func66.trans (congrArg some (by kernel_rfl))⟩
  f8 := ⟨Tryz.f85.name, by decide, Tryz.func85.trans (congrArg some (by kernel_rfl))⟩
  f11 := ⟨Tryz.f95.name, by decide, Tryz.func95.trans (congrArg some (by kernel_rfl))⟩
  t0 := Tryz.underlying0
  a0 := Tryz.isAgg0
  z0 := Tryz.sizeOf0
  v0 := Tryz.zeroValue0
  t24 := Tryz.underlying22
  a24 := Tryz.isAgg22
  z24 := Tryz.sizeOf22
  v24 := Tryz.zeroValue22
  t26 := Tryz.underlying9
  a26 := Tryz.isAgg9
  z26 := Tryz.sizeOf9
  v26 := Tryz.zeroValue9
  t28 := Tryz.underlying92
  a28 := Tryz.isAgg92
  z28 := Tryz.sizeOf92
  v28 := Tryz.zeroValue92
  i26 := by kernel_rfl }
def Tryz.gSort_ren : Go.Shelf.Ren := ⟨fun | 6 => 86 | 8 => 97 | 9 => 96 | 19 => 108 | 20 => 109 | 21 => 99 | 22 => 100 | 23 => 101 | 24 => 102 | 25 => 103 | 26 => 104 | 27 => 105 | 28 => 106 | 29 => 107 | 36 => 110 | 31 => 111 | 32 => 112 | 37 => 113 | 38 => 114 | 39 => 115 | 41 => 116 | n => n, fun | 27 => 22 | 29 => 9 | 3 => 3 | 32 => 49 | 26 => 22 | 0 => 0 | 44 => 42 | 46 => 109 | 4 => 4 | 36 => 122 | 35 => 121 | 41 => 126 | 5 => 5 | 9 => 9 | 53 => 130 | 57 => 134 | 63 => 136 | 64 => 137 | n => n, fun | n => n⟩
theorem Tryz.gSort : Go.Proofs.SlLaysM.n6 Tryz.prog Tryz.gSort_ren := {
  mixed := by kernel_rfl
  f6 := ⟨Tryz.f86.name, by decide, Tryz.func86.trans (congrArg some (by kernel_rfl))⟩
  f8 := Tryz.func97.trans (congrArg some (by kernel_rfl))
  f9 := ⟨Tryz.f96.name, by decide, Tryz.func96.trans (congrArg some (by kernel_rfl))⟩
  f19 := Tryz.func108.trans (congrArg some (by kernel_rfl))
  f20 := Tryz.func109.trans (congrArg some (by kernel_rfl))
  f21 := ⟨Tryz.f99.name, by decide, Tryz.func99.trans (congrArg some (by kernel_rfl))⟩
  f22 := ⟨Tryz.f100.name, by decide, Tryz.func100.trans (congrArg some (by kernel_rfl))⟩
  f23 := ⟨Tryz.f101.name, by decide, Tryz.func101.trans (congrArg some (by kernel_rfl))⟩
  f24 := ⟨Tryz.f102.name, by decide, Tryz.func102.trans (congrArg some (by kernel_rfl))⟩
  f25 := ⟨Tryz.f103.name, by decide, Tryz.func103.trans (congrArg some (by kernel_rfl))⟩
  f26 := ⟨Tryz.f104.name, by decide, Tryz.func104.trans (congrArg some (by kernel_rfl))⟩
  f27 := ⟨Tryz.f105.name, by decide, Tryz.func105.trans (congrArg some (by kernel_rfl))⟩
  f28 := ⟨Tryz.f106.name, by decide, Tryz.func106.trans (congrArg some (by kernel_rfl))⟩
  f29 := ⟨Tryz.f107.name, by decide, Tryz.func107.trans (congrArg some (by kernel_rfl))⟩
  f31 := Tryz.func111.trans (congrArg some (by kernel_rfl))
  f32 := Tryz.func112.trans (congrArg some (by kernel_rfl))
  f36 := ⟨Tryz.f110.name, by decide, Tryz.func110.trans (congrArg some (by kernel_rfl))⟩
  f37 := ⟨Tryz.f113.name, by decide, Tryz.func113.trans (congrArg some (by kernel_rfl))⟩
  f38 := ⟨Tryz.f114.name, by decide, Tryz.func114.trans (congrArg some (by kernel_rfl))⟩
  f39 := ⟨Tryz.f115.name, by decide, Tryz.func115.trans (congrArg some (by kernel_rfl))⟩
  f41 := ⟨Tryz.f116.name, by decide, Tryz.func116.trans (congrArg some (by kernel_rfl))⟩
  t0 := Tryz.underlying0
  a0 := Tryz.isAgg0
  z0 := Tryz.sizeOf0
  v0 := Tryz.zeroValue0
  t3 := Tryz.underlying3
  a3 := Tryz.isAgg3
  z3 := Tryz.sizeOf3
  v3 := Tryz.zeroValue3
  t4 := Tryz.underlying4
  a4 := Tryz.isAgg4
  z4 := Tryz.sizeOf4
  v4 := Tryz.zeroValue4
  t5 := Tryz.underlying5
  a5 := Tryz.isAgg5
  z5 := Tryz.sizeOf5
  v5 := Tryz.zeroValue5
  t9 := Tryz.underlying9
  a9 := Tryz.isAgg9
  z9 := Tryz.sizeOf9
  v9 := Tryz.zeroValue9
  t26 := Tryz.underlying22
  a26 := Tryz.isAgg22
  z26 := Tryz.sizeOf22
  v26 := Tryz.zeroValue22
  t27 := Tryz.underlying22
  a27 := Tryz.isAgg22
  z27 := Tryz.sizeOf22
  v27 := Tryz.zeroValue22
  t29 := Tryz.underlying9
  a29 := Tryz.isAgg9
  z29 := Tryz.sizeOf9
  v29 := Tryz.zeroValue9
  t32 := Tryz.underlying49
  a32 := Tryz.isAgg49
  z32 := Tryz.sizeOf49
  v32 := Tryz.zeroValue49
  t35 := Tryz.underlying121
  a35 := Tryz.isAgg121
  z35 := Tryz.sizeOf121
  v35 := Tryz.zeroValue121
  t36 := Tryz.underlying122
  a36 := Tryz.isAgg122
  z36 := Tryz.sizeOf122
  v36 := Tryz.zeroValue122
  t41 := Tryz.underlying126
  a41 := Tryz.isAgg126
  z41 := Tryz.sizeOf126
  v41 := Tryz.zeroValue126
  t44 := Tryz.underlying42
  a44 := Tryz.isAgg42
  z44 := Tryz.sizeOf42
  v44 := Tryz.zeroValue42
  t46 := Tryz.underlying109
  a46 := Tryz.isAgg109
  z46 := Tryz.sizeOf109
  v46 := Tryz.zeroValue109
  t53 := Tryz.underlying130
  a53 := Tryz.isAgg130
  z53 := Tryz.sizeOf130
  v53 := Tryz.zeroValue130
  t57 := Tryz.underlying134
  a57 := Tryz.isAgg134
  z57 := Tryz.sizeOf134
  v57 := Tryz.zeroValue134
  t63 := Tryz.underlying136
  a63 := Tryz.isAgg136
  z63 := Tryz.sizeOf136
  v63 := Tryz.zeroValue136
  t64 := Tryz.underlying137
  a64 := Tryz.isAgg137
  z64 := Tryz.sizeOf137
  v64 := Tryz.zeroValue137 }
end Go.Proofs
