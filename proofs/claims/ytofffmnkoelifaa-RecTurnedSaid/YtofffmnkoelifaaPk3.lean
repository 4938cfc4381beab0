/-
  DERIVED: THE SHELF's CONTRACTS AT THIS DUMP, IN PLAIN WORDS (tools/lay-plain.mjs out of 'TryIter.lean', which tools/lay-shelf.mjs wrote): THE SAME DECLARATIONS UNDER THE SAME NAMES: 'import', 'namespace', 'open', 'def', 'theorem' AND NOTHING ELSE: no command of the shelf's: FOR A HAND-IN. Each laying: the table of numbers ('.._ren') and one theorem, a field a fact of the dump's own or the kernel's comparison; each contract: ONE APPLICATION.
-/
import Derived.Test.YtofffmnkoelifaaRows
import Derived.WalkKit
import Derived.ProofKit
import Derived.OpenShut
import Derived.Handy
import Derived.Deep.LoopGhost
import Derived.Lib.Hide
import Derived.Lib.Strings
import Derived.SizedLaws
import Derived.Deep.Slices
import Derived.Shelf.SlIter.Nil
import Derived.Ground.GgzProg
import Derived.Shelf.SortM.Plain
import Derived.Shelf.SortM.SortNone
import Derived.Ground.SlgmProg
import Derived.Test.YtofffmnkoelifaaProg
import Derived.Test.YtofffmnkoelifaaPk2
namespace Go.Proofs
open Go.Shelf
def Try.gSorted_ren : Go.Shelf.Ren := ⟨fun | 6 => 124 | 8 => 135 | 9 => 136 | 11 => 140 | 13 => 66 | 12 => 141 | 23 => 95 | 24 => 96 | 14 => 142 | 15 => 143 | 16 => 144 | 17 => 145 | 18 => 146 | 19 => 147 | 20 => 148 | 21 => 149 | 22 => 150 | 25 => 151 | 26 => 118 | 27 => 119 | 28 => 152 | 29 => 153 | 30 => 154 | 31 => 155 | n => n, fun | 26 => 9 | 28 => 156 | 24 => 31 | 0 => 0 | 3 => 3 | 37 => 58 | 48 => 48 | 50 => 132 | 4 => 4 | 40 => 124 | 39 => 123 | 45 => 128 | 5 => 5 | 9 => 9 | 51 => 147 | 55 => 151 | 57 => 165 | 58 => 166 | 33 => 44 | n => n, fun | n => n⟩
theorem Try.gSorted : Go.Proofs.SlLaysZ.n6 Try.prog Try.gSorted_ren := {
  mixed := by kernel_rfl
  f6 := ⟨Try.f124.name, by decide, Try.func124.trans (congrArg some (by kernel_rfl))⟩
  f8 := ⟨Try.f135.name, by decide, Try.func135.trans (congrArg some (by kernel_rfl))⟩
  f11 := ⟨Try.f140.name, by decide, Try.func140.trans (congrArg some (by kernel_rfl))⟩
  t0 := Try.underlying0
  a0 := Try.isAgg0
  z0 := Try.sizeOf0
  v0 := Try.zeroValue0
  t24 := Try.underlying31
  a24 := Try.isAgg31
  z24 := Try.sizeOf31
  v24 := Try.zeroValue31
  t26 := Try.underlying9
  a26 := Try.isAgg9
  z26 := Try.sizeOf9
  v26 := Try.zeroValue9
  t28 := Try.underlying156
  a28 := Try.isAgg156
  z28 := Try.sizeOf156
  v28 := Try.zeroValue156
  i26 := by kernel_rfl }
def Try.gSort_ren : Go.Shelf.Ren := ⟨fun | 6 => 136 | 8 => 66 | 9 => 141 | 19 => 95 | 20 => 96 | 21 => 142 | 22 => 143 | 23 => 144 | 24 => 145 | 25 => 146 | 26 => 147 | 27 => 148 | 28 => 149 | 29 => 150 | 36 => 151 | 31 => 118 | 32 => 119 | 37 => 152 | 38 => 153 | 39 => 154 | 41 => 155 | n => n, fun | 27 => 31 | 29 => 9 | 3 => 3 | 32 => 58 | 26 => 31 | 0 => 0 | 44 => 48 | 46 => 132 | 4 => 4 | 36 => 124 | 35 => 123 | 41 => 128 | 5 => 5 | 9 => 9 | 53 => 147 | 57 => 151 | 63 => 165 | 64 => 166 | n => n, fun | n => n⟩
theorem Try.gSort : Go.Proofs.SlLaysM.n6 Try.prog Try.gSort_ren := {
  mixed := by kernel_rfl
  f6 := ⟨Try.f136.name, by decide, Try.func136.trans (congrArg some (by kernel_rfl))⟩
  f8 := Try.func66.trans (congrArg some (by kernel_rfl))
  f9 := ⟨Try.f141.name, by decide, Try.func141.trans (congrArg some (by kernel_rfl))⟩
  f19 := Try.func95.trans (congrArg some (by kernel_rfl))
  f20 := Try.func96.trans (congrArg some (by kernel_rfl))
  f21 := ⟨Try.f142.name, by decide, Try.func142.trans (congrArg some (by kernel_rfl))⟩
  f22 := ⟨Try.f143.name, by decide, Try.func143.trans (congrArg some (by kernel_rfl))⟩
  f23 := ⟨Try.f144.name, by decide, Try.func144.trans (congrArg some (by kernel_rfl))⟩
  f24 := ⟨Try.f145.name, by decide, Try.func145.trans (congrArg some (by kernel_rfl))⟩
  f25 := ⟨Try.f146.name, by decide, Try.func146.trans (congrArg some (by kernel_rfl))⟩
  f26 := ⟨Try.f147.name, by decide, Try.func147.trans (congrArg some (by kernel_rfl))⟩
  f27 := ⟨Try.f148.name, by decide, Try.func148.trans (congrArg some (by kernel_rfl))⟩
  f28 := ⟨Try.f149.name, by decide, Try.func149.trans (congrArg some (by kernel_rfl))⟩
  f29 := ⟨Try.f150.name, by decide, Try.func150.trans (congrArg some (by kernel_rfl))⟩
  f31 := Try.func118.trans (congrArg some (by kernel_rfl))
  f32 := Try.func119.trans (congrArg some (by kernel_rfl))
  f36 := ⟨Try.f151.name, by decide, Try.func151.trans (congrArg some (by kernel_rfl))⟩
  f37 := ⟨Try.f152.name, by decide, Try.func152.trans (congrArg some (by kernel_rfl))⟩
  f38 := ⟨Try.f153.name, by decide, Try.func153.trans (congrArg some (by kernel_rfl))⟩
  f39 := ⟨Try.f154.name, by decide, Try.func154.trans (congrArg some (by kernel_rfl))⟩
  f41 := ⟨Try.f155.name, by decide, Try.func155.trans (congrArg some (by kernel_rfl))⟩
  t0 := Try.underlying0
  a0 := Try.isAgg0
  z0 := Try.sizeOf0
  v0 := Try.zeroValue0
  t3 := Try.underlying3
  a3 := Try.isAgg3
  z3 := Try.sizeOf3
  v3 := Try.zeroValue3
  t4 := Try.underlying4
  a4 := Try.isAgg4
  z4 := Try.sizeOf4
  v4 := Try.zeroValue4
  t5 := Try.underlying5
  a5 := Try.isAgg5
  z5 := Try.sizeOf5
  v5 := Try.zeroValue5
  t9 := Try.underlying9
  a9 := Try.isAgg9
  z9 := Try.sizeOf9
  v9 := Try.zeroValue9
  t26 := Try.underlying31
  a26 := Try.isAgg31
  z26 := Try.sizeOf31
  v26 := Try.zeroValue31
  t27 := Try.underlying31
  a27 := Try.isAgg31
  z27 := Try.sizeOf31
  v27 := Try.zeroValue31
  t29 := Try.underlying9
  a29 := Try.isAgg9
  z29 := Try.sizeOf9
  v29 := Try.zeroValue9
  t32 := Try.underlying58
  a32 := Try.isAgg58
  z32 := Try.sizeOf58
  v32 := Try.zeroValue58
  t35 := Try.underlying123
  a35 := Try.isAgg123
  z35 := Try.sizeOf123
  v35 := Try.zeroValue123
  t36 := Try.underlying124
  a36 := Try.isAgg124
  z36 := Try.sizeOf124
  v36 := Try.zeroValue124
  t41 := Try.underlying128
  a41 := Try.isAgg128
  z41 := Try.sizeOf128
  v41 := Try.zeroValue128
  t44 := Try.underlying48
  a44 := Try.isAgg48
  z44 := Try.sizeOf48
  v44 := Try.zeroValue48
  t46 := Try.underlying132
  a46 := Try.isAgg132
  z46 := Try.sizeOf132
  v46 := Try.zeroValue132
  t53 := Try.underlying147
  a53 := Try.isAgg147
  z53 := Try.sizeOf147
  v53 := Try.zeroValue147
  t57 := Try.underlying151
  a57 := Try.isAgg151
  z57 := Try.sizeOf151
  v57 := Try.zeroValue151
  t63 := Try.underlying165
  a63 := Try.isAgg165
  z63 := Try.sizeOf165
  v63 := Try.zeroValue165
  t64 := Try.underlying166
  a64 := Try.isAgg166
  z64 := Try.sizeOf166
  v64 := Try.zeroValue166 }
end Go.Proofs
