/-
  DERIVED: THE SHELF's CONTRACTS AT THIS DUMP, IN PLAIN WORDS (tools/lay-plain.mjs out of 'TrydIter.lean', which tools/lay-shelf.mjs wrote): THE SAME DECLARATIONS UNDER THE SAME NAMES: 'import', 'namespace', 'open', 'def', 'theorem' AND NOTHING ELSE: no command of the shelf's: FOR A HAND-IN. Each laying: the table of numbers ('.._ren') and one theorem, a field a fact of the dump's own or the kernel's comparison; each contract: ONE APPLICATION.
-/
import Derived.Test.YtofffmnkoelifaaDoorRows
import Derived.WalkKit
import Derived.ProofKit
import Derived.OpenShut
import Derived.Handy
import Derived.Deep.LoopGhost
import Derived.Lib.Hide
import Derived.Lib.Strings
import Derived.SizedLaws
import Derived.Deep.Slices
import Derived.Shelf.SlIter.Nil
import Derived.Ground.GgzProg
import Derived.Shelf.SortM.Plain
import Derived.Shelf.SortM.SortNone
import Derived.Ground.SlgmProg
import Derived.Test.YtofffmnkoelifaaDoorProg
import Derived.Test.YtofffmnkoelifaaDoorPk2
namespace Go.Proofs
open Go.Shelf
def Tryd.gSorted_ren : Go.Shelf.Ren := ⟨fun | 6 => 14 | 8 => 27 | 9 => 28 | 11 => 36 | 13 => 38 | 12 => 37 | 23 => 54 | 24 => 55 | 14 => 45 | 15 => 46 | 16 => 47 | 17 => 48 | 18 => 49 | 19 => 50 | 20 => 51 | 21 => 52 | 22 => 53 | 25 => 62 | 26 => 63 | 27 => 64 | 28 => 65 | 29 => 66 | 30 => 67 | 31 => 73 | n => n, fun | 26 => 9 | 28 => 38 | 24 => 22 | 0 => 0 | 3 => 3 | 37 => 66 | 48 => 51 | 50 => 82 | 4 => 4 | 40 => 73 | 39 => 72 | 45 => 78 | 5 => 5 | 9 => 9 | 51 => 90 | 55 => 94 | 57 => 97 | 58 => 98 | 33 => 28 | n => n, fun | n => n⟩
theorem Tryd.gSorted : Go.Proofs.SlLaysZ.n6 Tryd.prog Tryd.gSorted_ren := {
  mixed := by kernel_rfl
  f6 := ⟨Tryd.f14.name, by decide, Tryd.func14.trans (congrArg some (by kernel_rfl))⟩
  f8 := ⟨Tryd.f27.name, by decide, Tryd.func27.trans (congrArg some (by kernel_rfl))⟩
  f11 := ⟨Tryd.f36.name, by decide, Tryd.func36.trans (congrArg some (by kernel_rfl))⟩
  t0 := Tryd.underlying0
  a0 := Tryd.isAgg0
  z0 := Tryd.sizeOf0
  v0 := Tryd.zeroValue0
  t24 := Tryd.underlying22
  a24 := Tryd.isAgg22
  z24 := Tryd.sizeOf22
  v24 := Tryd.zeroValue22
  t26 := Tryd.underlying9
  a26 := Tryd.isAgg9
  z26 := Tryd.sizeOf9
  v26 := Tryd.zeroValue9
  t28 := Tryd.underlying38
  a28 := Tryd.isAgg38
  z28 := Tryd.sizeOf38
  v28 := Tryd.zeroValue38
  i26 := by kernel_rfl }
def Tryd.gSort_ren : Go.Shelf.Ren := ⟨fun | 6 => 28 | 8 => 38 | 9 => 37 | 19 => 54 | 20 => 55 | 21 => 45 | 22 => 46 | 23 => 47 | 24 => 48 | 25 => 49 | 26 => 50 | 27 => 51 | 28 => 52 | 29 => 53 | 36 => 62 | 31 => 63 | 32 => 64 | 37 => 65 | 38 => 66 | 39 => 67 | 41 => 73 | n => n, fun | 27 => 22 | 29 => 9 | 3 => 3 | 32 => 66 | 26 => 22 | 0 => 0 | 44 => 51 | 46 => 82 | 4 => 4 | 36 => 73 | 35 => 72 | 41 => 78 | 5 => 5 | 9 => 9 | 53 => 90 | 57 => 94 | 63 => 97 | 64 => 98 | n => n, fun | n => n⟩
theorem Tryd.gSort : Go.Proofs.SlLaysM.n6 Tryd.prog Tryd.gSort_ren := {
  mixed := by kernel_rfl
  f6 := ⟨Tryd.f28.name, by decide, Tryd.func28.trans (congrArg some (by kernel_rfl))⟩
  f8 := Tryd.func38.trans (congrArg some (by kernel_rfl))
  f9 := ⟨Tryd.f37.name, by decide, Tryd.func37.trans (congrArg some (by kernel_rfl))⟩
  f19 := Tryd.func54.trans (congrArg some (by kernel_rfl))
  f20 := Tryd.func55.trans (congrArg some (by kernel_rfl))
  f21 := ⟨Tryd.f45.name, by decide, Tryd.func45.trans (congrArg some (by kernel_rfl))⟩
  f22 := ⟨Tryd.f46.name, by decide, Tryd.func46.trans (congrArg some (by kernel_rfl))⟩
  f23 := ⟨Tryd.f47.name, by decide, Tryd.func47.trans (congrArg some (by kernel_rfl))⟩
  f24 := ⟨Tryd.f48.name, by decide, Tryd.func48.trans (congrArg some (by kernel_rfl))⟩
  f25 := ⟨Tryd.f49.name, by decide, Tryd.func49.trans (congrArg some (by kernel_rfl))⟩
  f26 := ⟨Tryd.f50.name, by decide, Tryd.func50.trans (congrArg some (by kernel_rfl))⟩
  f27 := ⟨Tryd.f51.name, by decide, Tryd.func51.trans (congrArg some (by kernel_rfl))⟩
  f28 := ⟨Tryd.f52.name, by decide, Tryd.func52.trans (congrArg some (by kernel_rfl))⟩
  f29 := ⟨Tryd.f53.name, by decide, Tryd.func53.trans (congrArg some (by kernel_rfl))⟩
  f31 := Tryd.func63.trans (congrArg some (by kernel_rfl))
  f32 := Tryd.func64.trans (congrArg some (by kernel_rfl))
  f36 := ⟨Tryd.f62.name, by decide, Tryd.func62.trans (congrArg some (by kernel_rfl))⟩
  f37 := ⟨Tryd.f65.name, by decide, Tryd.func65.trans (congrArg some (by kernel_rfl))⟩
  f38 := ⟨Tryd.f66.name, by decide, Tryd.func66.trans (congrArg some (by kernel_rfl))⟩
  f39 := ⟨Tryd.f67.name, by decide, Tryd.func67.trans (congrArg some (by kernel_rfl))⟩
  f41 := ⟨Tryd.f73.name, by decide, Tryd.func73.trans (congrArg some (by kernel_rfl))⟩
  t0 := Tryd.underlying0
  a0 := Tryd.isAgg0
  z0 := Tryd.sizeOf0
  v0 := Tryd.zeroValue0
  t3 := Tryd.underlying3
  a3 := Tryd.isAgg3
  z3 := Tryd.sizeOf3
  v3 := Tryd.zeroValue3
  t4 := Tryd.underlying4
  a4 := Tryd.isAgg4
  z4 := Tryd.sizeOf4
  v4 := Tryd.zeroValue4
  t5 := Tryd.underlying5
  a5 := Tryd.isAgg5
  z5 := Tryd.sizeOf5
  v5 := Tryd.zeroValue5
  t9 := Tryd.underlying9
  a9 := Tryd.isAgg9
  z9 := Tryd.sizeOf9
  v9 := Tryd.zeroValue9
  t26 := Tryd.underlying22
  a26 := Tryd.isAgg22
  z26 := Tryd.sizeOf22
  v26 := Tryd.zeroValue22
  t27 := Tryd.underlying22
  a27 := Tryd.isAgg22
  z27 := Tryd.sizeOf22
  v27 := Tryd.zeroValue22
  t29 := Tryd.underlying9
  a29 := Tryd.isAgg9
  z29 := Tryd.sizeOf9
  v29 := Tryd.zeroValue9
  t32 := Tryd.underlying66
  a32 := Tryd.isAgg66
  z32 := Tryd.sizeOf66
  v32 := Tryd.zeroValue66
  t35 := Tryd.underlying72
  a35 := Tryd.isAgg72
  z35 := Tryd.sizeOf72
  v35 := Tryd.zeroValue72
  t36 := Tryd.underlying73
  a36 := Tryd.isAgg73
  z36 := Tryd.sizeOf73
  v36 := Tryd.zeroValue73
  t41 := Tryd.underlying78
  a41 := Tryd.isAgg78
  z41 := Tryd.sizeOf78
  v41 := Tryd.zeroValue78
  t44 := Tryd.underlying51
  a44 := Tryd.isAgg51
  z44 := Tryd.sizeOf51
  v44 := Tryd.zeroValue51
  t46 := Tryd.underlying82
  a46 := Tryd.isAgg82
  z46 := Tryd.sizeOf82
  v46 := Tryd.zeroValue82
  t53 := Tryd.underlying90
  a53 := Tryd.isAgg90
  z53 := Tryd.sizeOf90
  v53 := Tryd.zeroValue90
  t57 := Tryd.underlying94
  a57 := Tryd.isAgg94
  z57 := Tryd.sizeOf94
  v57 := Tryd.zeroValue94
  t63 := Tryd.underlying97
  a63 := Tryd.isAgg97
  z63 := Tryd.sizeOf97
  v63 := Tryd.zeroValue97
  t64 := Tryd.underlying98
  a64 := Tryd.isAgg98
  z64 := Tryd.sizeOf98
  v64 := Tryd.zeroValue98 }
end Go.Proofs
