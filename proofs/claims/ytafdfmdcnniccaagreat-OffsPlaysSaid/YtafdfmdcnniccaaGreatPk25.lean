/-
  DERIVED: THE SHELF's CONTRACTS AT THIS DUMP, IN PLAIN WORDS (tools/lay-plain.mjs out of 'TryzIter.lean', which tools/lay-shelf.mjs wrote): THE SAME DECLARATIONS UNDER THE SAME NAMES: 'import', 'namespace', 'open', 'def', 'theorem' AND NOTHING ELSE: no command of the shelf's: FOR A HAND-IN. Each laying: the table of numbers ('.._ren') and one theorem, a field a fact of the dump's own or the kernel's comparison; each contract: ONE APPLICATION.
-/
import Derived.Test.YtafdfmdcnniccaaGreatRows
import Derived.WalkKit
import Derived.ProofKit
import Derived.OpenShut
import Derived.Handy
import Derived.Deep.LoopGhost
import Derived.Lib.Hide
import Derived.Lib.Strings
import Derived.SizedLaws
import Derived.Maps.Own
import Derived.Maps.OwnOps
import Derived.Maps.OwnSet
import Derived.Maps.RangeWalk
import Derived.Deep.QuietTactic
import Derived.BigQuiet
import Derived.Deep.RegionHeld3
import Derived.Lib.ConvBytes
import Derived.Lib.AppendZeros
import Derived.Lib.AppendZerosOnto
import Derived.Lib.LazyBuf
import Derived.Shelf.Abstract
import Derived.LaidEql
import Derived.Lib.SliceRun
import Derived.StillTailTactics
import Derived.Deep.Slices
import Derived.Outline
import Derived.Laws.Cover1
import Derived.Deep.RegionLaw
import Derived.Deep.DeepCutAuto
import Derived.Deep.CutBlock
import Derived.Shelf.SlicesE.Clone
import Derived.Ground.SlgnProg
import Derived.Test.YtafdfmdcnniccaaGreatProg
import Derived.Shelf.Strings.Builder1
import Derived.Shelf.Small.Bits
import Derived.Shelf.Small.Wraps
import Derived.Shelf.Strings.BuilderF
import Derived.Shelf.Strings.BuilderK
import Derived.Shelf.Strconv.Itoa0
import Derived.Shelf.Sort.Plain
import Derived.Shelf.GgClosure.StringsIndexFunc
import Derived.Ground.GgwProg
import Derived.Shelf.GgClosure.StringsIndexFuncTop
import Derived.Shelf.GgClosure.StringsRunes
import Derived.Shelf.Strings.Prefix
import Derived.Shelf.Strings.BuilderCap
import Derived.Ground.Names2Prog
import Derived.Shelf.Slices.SearchI
import Derived.Shelf.Slices.In.SortNone
import Derived.Ground.SlgfProg
import Derived.Shelf.SlicesE.IndexFunc
import Derived.Shelf.SlicesE.DeleteFunc
import Derived.Lib.DecodeN
import Derived.Lib.Overlaps
import Derived.Laws.CopyOwn
import Derived.Laws.MakeOwn
import Derived.Lib.Builder
import Derived.Lib.AppendStr
import Derived.Laws.Rows
import Derived.Shelf.SlIter.Nil
import Derived.Ground.GgzProg
import Derived.Shelf.SortM.Plain
import Derived.Shelf.SortM.SortNone
import Derived.Ground.SlgmProg
import Derived.Test.YtafdfmdcnniccaaGreatPk24
namespace Go.Proofs
open Go.Shelf
def Tryz.gKeys_ren : Go.Shelf.Ren := ⟨fun | 7 => 77 | 10 => 99 | n => n, fun | 23 => 51 | 26 => 9 | 3 => 69 | 28 => 124 | 0 => 0 | 27 => 123 | 33 => 68 | 4 => 4 | n => n, fun | n => n⟩
theorem Tryz.gKeys : Go.Proofs.SlLaysZ.n7 Tryz.prog Tryz.gKeys_ren := {
  mixed := by kernel_rfl
  f7 := ⟨Tryz.f77.name, by decide, Tryz.func77.trans (congrArg some (by kernel_rfl))⟩
  f10 := ⟨Tryz.f99.name, by decide, Tryz.func99.trans (congrArg some (by kernel_rfl))⟩
  t0 := Tryz.underlying0
  a0 := Tryz.isAgg0
  z0 := Tryz.sizeOf0
  v0 := Tryz.zeroValue0
  t4 := Tryz.underlying4
  a4 := Tryz.isAgg4
  z4 := Tryz.sizeOf4
  v4 := Tryz.zeroValue4
  t23 := Tryz.underlying51
  a23 := Tryz.isAgg51
  z23 := Tryz.sizeOf51
  v23 := Tryz.zeroValue51
  t26 := Tryz.underlying9
  a26 := Tryz.isAgg9
  z26 := Tryz.sizeOf9
  v26 := Tryz.zeroValue9
  t27 := Tryz.underlying123
  a27 := Tryz.isAgg123
  z27 := Tryz.sizeOf123
  v27 := Tryz.zeroValue123
  t28 := Tryz.underlying124
  a28 := Tryz.isAgg124
  z28 := Tryz.sizeOf124
  v28 := Tryz.zeroValue124
  t33 := Tryz.underlying68
  a33 := Tryz.isAgg68
  z33 := Tryz.sizeOf68
  v33 := Tryz.zeroValue68 }
def Tryz.gSorted_ren : Go.Shelf.Ren := ⟨fun | 6 => 76 | 8 => 97 | 9 => 98 | 11 => 110 | 13 => 112 | 12 => 111 | 23 => 126 | 24 => 127 | 14 => 117 | 15 => 118 | 16 => 119 | 17 => 120 | 18 => 121 | 19 => 122 | 20 => 123 | 21 => 124 | 22 => 125 | 25 => 128 | 26 => 129 | 27 => 130 | 28 => 131 | 29 => 132 | 30 => 72 | 31 => 133 | n => n, fun | 26 => 9 | 28 => 124 | 24 => 94 | 0 => 0 | 3 => 3 | 37 => 88 | 48 => 104 | 50 => 169 | 4 => 4 | 40 => 162 | 39 => 161 | 45 => 61 | 5 => 5 | 9 => 9 | 51 => 170 | 55 => 174 | 57 => 176 | 58 => 177 | 33 => 68 | n => n, fun | n => n⟩
theorem Tryz.gSorted : Go.Proofs.SlLaysZ.n6 Tryz.prog Tryz.gSorted_ren := {
  mixed := by kernel_rfl
  f6 := ⟨Tryz.f76.name, by decide, Tryz.func76.trans (congrArg some (by kernel_rfl))⟩
  f8 := ⟨Tryz.f97.name, by decide, Tryz.func97.trans (congrArg some (by kernel_rfl))⟩
  f11 := ⟨Tryz.f110.name, by decide, Tryz.func110.trans (congrArg some (by kernel_rfl))⟩
  t0 := Tryz.underlying0
  a0 := Tryz.isAgg0
  z0 := Tryz.sizeOf0
  v0 := Tryz.zeroValue0
  t24 := Tryz.underlying94
  a24 := Tryz.isAgg94
  z24 := Tryz.sizeOf94
  v24 := Tryz.zeroValue94
  t26 := Tryz.underlying9
  a26 := Tryz.isAgg9
  z26 := Tryz.sizeOf9
  v26 := Tryz.zeroValue9
  t28 := Tryz.underlying124
  a28 := Tryz.isAgg124
  z28 := Tryz.sizeOf124
  v28 := Tryz.zeroValue124
  i26 := by kernel_rfl }
def Tryz.gSort_ren : Go.Shelf.Ren := ⟨fun | 6 => 98 | 8 => 112 | 9 => 111 | 19 => 126 | 20 => 127 | 21 => 117 | 22 => 118 | 23 => 119 | 24 => 120 | 25 => 121 | 26 => 122 | 27 => 123 | 28 => 124 | 29 => 125 | 36 => 128 | 31 => 129 | 32 => 130 | 37 => 131 | 38 => 132 | 39 => 72 | 41 => 133 | n => n, fun | 27 => 94 | 29 => 9 | 3 => 3 | 32 => 88 | 26 => 94 | 0 => 0 | 44 => 104 | 46 => 169 | 4 => 4 | 36 => 162 | 35 => 161 | 41 => 61 | 5 => 5 | 9 => 9 | 53 => 170 | 57 => 174 | 63 => 176 | 64 => 177 | n => n, fun | n => n⟩
theorem Tryz.gSort : Go.Proofs.SlLaysM.n6 Tryz.prog Tryz.gSort_ren := {
  mixed := by kernel_rfl
  f6 := ⟨Tryz.f98.name, by decide, Tryz.func98.trans (congrArg some (by kernel_rfl))⟩
  f8 := Tryz.func112.trans (congrArg some (by kernel_rfl))
  f9 := ⟨Tryz.f111.name, by decide, Tryz.func111.trans (congrArg some (by kernel_rfl))⟩
  f19 := Tryz.func126.trans (congrArg some (by kernel_rfl))
  f20 := Tryz.func127.trans (congrArg some (by kernel_rfl))
  f21 := ⟨Tryz.f117.name, by decide, Tryz.func117.trans (congrArg some (by kernel_rfl))⟩
  f22 := ⟨Tryz.f118.name, by decide, Tryz.func118.trans (congrArg some (by kernel_rfl))⟩
  f23 := ⟨Tryz.f119.name, by decide, Tryz.func119.trans (congrArg some (by kernel_rfl))⟩
  f24 := ⟨Tryz.f120.name, by decide, Tryz.func120.trans (congrArg some (by kernel_rfl))⟩
  f25 := ⟨Tryz.f121.name, by decide, Tryz.func121.trans (congrArg some (by kernel_rfl))⟩
  f26 := ⟨Tryz.f122.name, by decide, Tryz.func122.trans (congrArg some (by kernel_rfl))⟩
  f27 := ⟨Tryz.f123.name, by decide, Tryz.func123.trans (congrArg some (by kernel_rfl))⟩
  f28 := ⟨Tryz.f124.name, by decide, Tryz.func124.trans (congrArg some (by kernel_rfl))⟩
  f29 := ⟨Tryz.f125.name, by decide, Tryz.func125.trans (congrArg some (by kernel_rfl))⟩
  f31 := Tryz.func129.trans (congrArg some (by kernel_rfl))
  f32 := Tryz.func130.trans (congrArg some (by kernel_rfl))
  f36 := ⟨Tryz.f128.name, by decide, Tryz.func128.trans (congrArg some (by kernel_rfl))⟩
  f37 := ⟨Tryz.f131.name, by decide, Tryz.func131.trans (congrArg some (by kernel_rfl))⟩
  f38 := ⟨Tryz.f132.name, by decide, Tryz.func132.trans (congrArg some (by kernel_rfl))⟩
  f39 := ⟨Tryz.f72.name, by decide, Tryz.func72.trans (congrArg some (by kernel_rfl))⟩
  f41 := ⟨Tryz.f133.name, by decide, Tryz.func133.trans (congrArg some (by kernel_rfl))⟩
  t0 := Tryz.underlying0
  a0 := Tryz.isAgg0
  z0 := Tryz.sizeOf0
  v0 := Tryz.zeroValue0
  t3 := Tryz.underlying3
  a3 := Tryz.isAgg3
  z3 := Tryz.sizeOf3
  v3 := Tryz.zeroValue3
  t4 := Tryz.underlying4
  a4 := Tryz.isAgg4
  z4 := Tryz.sizeOf4
  v4 := Tryz.zeroValue4
  t5 := Tryz.underlying5
  a5 := Tryz.isAgg5
  z5 := Tryz.sizeOf5
  v5 := Tryz.zeroValue5
  t9 := Tryz.underlying9
  a9 := Tryz.isAgg9
  z9 := Tryz.sizeOf9
  v9 := Tryz.zeroValue9
  t26 := Tryz.underlying94
  a26 := Tryz.isAgg94
  z26 := Tryz.sizeOf94
  v26 := Tryz.zeroValue94
  t27 := Tryz.underlying94
  a27 := Tryz.isAgg94
  z27 := Tryz.sizeOf94
  v27 := Tryz.zeroValue94
  t29 := Tryz.underlying9
  a29 := Tryz.isAgg9
  z29 := Tryz.sizeOf9
  v29 := Tryz.zeroValue9
  t32 := Tryz.underlying88
  a32 := Tryz.isAgg88
  z32 := Tryz.sizeOf88
  v32 := Tryz.zeroValue88
  t35 := Tryz.underlying161
  a35 := Tryz.isAgg161
  z35 := Tryz.sizeOf161
  v35 := Tryz.zeroValue161
  t36 := Tryz.underlying162
  a36 := Tryz.isAgg162
  z36 := Tryz.sizeOf162
  v36 := Tryz.zeroValue162
  t41 := Tryz.underlying61
  a41 := Tryz.isAgg61
  z41 := Tryz.sizeOf61
  v41 := Tryz.zeroValue61
  t44 := Tryz.underlying104
  a44 := Tryz.isAgg104
  z44 := Tryz.sizeOf104
  v44 := Tryz.zeroValue104
  t46 := Tryz.underlying169
  a46 := Tryz.isAgg169
  z46 := Tryz.sizeOf169
  v46 := Tryz.zeroValue169
  t53 := Tryz.underlying170
  a53 := Tryz.isAgg170
  z53 := Tryz.sizeOf170
  v53 := Tryz.zeroValue170
  t57 := Tryz.underlying174
  a57 := Tryz.isAgg174
  z57 := Tryz.sizeOf174
  v57 := Tryz.zeroValue174
  t63 := Tryz.underlying176
  a63 := Tryz.isAgg176
  z63 := Tryz.sizeOf176
  v63 := Tryz.zeroValue176
  t64 := Tryz.underlying177
  a64 := Tryz.isAgg177
  z64 := Tryz.sizeOf177
  v64 := Tryz.zeroValue177 }
def Tryz.gDelStr_ren : Go.Shelf.Ren := ⟨fun | 10 => 78 | 6 => 100 | n => n, fun | 22 => 94 | 23 => 9 | 25 => 68 | 3 => 3 | 4 => 4 | 0 => 0 | n => n, fun | n => n⟩
theorem Tryz.gDelStr : Go.Proofs.SlLaysH.n10 Tryz.prog Tryz.gDelStr_ren := {
  mixed := by kernel_rfl
  f6 := ⟨Tryz.f100.name, by decide, Tryz.func100.trans (congrArg some (by kernel_rfl))⟩
  f10 := ⟨Tryz.f78.name, by decide, Tryz.func78.trans (congrArg some (by kernel_rfl))⟩
  t0 := Tryz.underlying0
  a0 := Tryz.isAgg0
  z0 := Tryz.sizeOf0
  v0 := Tryz.zeroValue0
  t3 := Tryz.underlying3
  a3 := Tryz.isAgg3
  z3 := Tryz.sizeOf3
  v3 := Tryz.zeroValue3
  t4 := Tryz.underlying4
  a4 := Tryz.isAgg4
  z4 := Tryz.sizeOf4
  v4 := Tryz.zeroValue4
  t22 := Tryz.underlying94
  a22 := Tryz.isAgg94
  z22 := Tryz.sizeOf94
  v22 := Tryz.zeroValue94
  a23 := Tryz.isAgg9
  z23 := Tryz.sizeOf9
  t25 := Tryz.underlying68
  a25 := Tryz.isAgg68
  z25 := Tryz.sizeOf68
  v25 := Tryz.zeroValue68 }
end Go.Proofs

/- A map's keys, sorted: what the library's contracts want of a map, out of MapIs. -/
namespace Go.Proofs.YtafdfmdcnniccaaGreat
open Go.RowKit Go.Maps Go.Sort Go.Shelf Go.MapKept Go.WideElems

def keyB : Value → List UInt8
  | .string s => s.data.toList
  | _ => []
abbrev noR : Value → Option (DataW Unit × List MemPlace) := fun _ => some (.nil, [])
/-- A map whose keys are texts, as the library's contracts want it. -/
theorem MapIs.owns {P : Program} {w : World} {b : Nat} {k : TypeId} {m : List (Value × Value)} (h : MapIs w b .string m) (hk : P.underlying k = some .string) (hs : ∀ x ∈ m, (keyB x.1).length ≤ maxLen) (hl : m.length ≤ maxLen) :
    ∃ D0 : DataW Unit, w.ownsMap P k noR b m.length D0 ∧ (strKeys D0).Perm (m.map fun x => keyB x.1) ∧ Maps.size D0 = m.length := by
  obtain ⟨es, clock, hb, hst, rfl, hks⟩ := h
  have hrd : ∀ x ∈ es.toList, WideElems.rd P k noR x = some (.string (keyB x.key), .nil) := fun x hx => by
    have h1 := hks x hx
    have h2 := hs (x.key, x.val) (List.mem_map.2 ⟨x, hx, rfl⟩)
    unfold WideElems.rd
    cases hkx : x.key with
    | string s =>
      rw [hkx] at h2
      simp only [keyB] at h2
      unfold keyOf mapKey
      rw [hk]
      have h3 : s.size ≤ maxLen := by simpa using h2
      simp [h3, keyB, noR]
    | _ => rw [hkx] at h1; simp [IsKey] at h1
  refine ⟨.map ((es.toList.map (WideElems.rg P k noR)).foldr DataW.insert []), ⟨es, clock, hb, ⟨by simpa using hl, hst, fun x hx => ⟨_, hrd x hx⟩⟩, by simp, rfl⟩, ?_, ?_⟩
  · have hp := (Go.WideShapes.sorted_perm (es.toList.map (WideElems.rg P k noR))).map (fun p => strOf p.1)
    refine hp.trans (List.Perm.of_eq ?_)
    rw [List.map_map, List.map_map]
    apply List.map_congr_left
    intro x hx
    simp only [Function.comp, WideElems.rg_of (hrd x hx), strOf]
  · have hp := (Go.WideShapes.sorted_perm (es.toList.map (WideElems.rg P k noR))).length_eq
    show (List.foldr DataW.insert [] _).length = _
    rw [hp]; simp
end Go.Proofs.YtafdfmdcnniccaaGreat

/- Layer 4: List. -/
namespace Go.Proofs.YtafdfmdcnniccaaGreat.dk
open Go.ChangeShapes Go.WideShapes Go.ChangeAt Go.RowKit Go.Sort Go.Shelf

/-- The names that begin with something, sorted, as lists of bytes. -/
def DiskS.namesL (D : DiskS) (head : List UInt8) : List (List UInt8) := ((D.files.map fun f => f.name.data.toList).mergeSort (fun x y => decide (x ≤ y))).filter fun x => Lib.hasPrefix x head
def DiskS.names (D : DiskS) (head : ByteArray) : List ByteArray := (D.namesL head.data.toList).map fun l => ⟨l.toArray⟩

theorem sorts46 (m : Nat) : AnyZ.SortsIn Tryz.prog Tryz.gSorted_ren Fence.wide m :=
  ⟨fun blk off cap ss W hH hblk hsz => callsIn_wide.2 (AnyM.slices_Sort_string Tryz.gSort blk off cap ss W hH hblk hsz),
   fun p cap W => callsIn_wide.2 (AnyM.slices_Sort_string_none Tryz.gSort p cap W)⟩
abbrev KF : Nat := 77
abbrev KI : Nat := 99
theorem keys_any (mb : Option Nat) (W : World) : Calls Tryz.prog KF #[.map mb] W fun e w' => e = .returned (.func (.func KI) #[] #[.pointer (some ⟨W.heap.size, 0, none⟩)]) ∧ w' = W.alloc (.cells #[.map mb] 51) :=
  callsIn_wide.1 (AnyZ.keys_in Tryz.gKeys Fence.wide 5 trivial rfl mb W)

set_option maxHeartbeats 1000000 in
theorem sortedKeys_any {m : List (Value × Value)} (b : Nat) (w : World) (h : MapIs w b .string m) (hs : ∀ x ∈ m, (keyB x.1).length ≤ maxLen) (hl : m.length ≤ 1000000) :
    Calls Tryz.prog 76 #[.func (.func KI) #[] #[.pointer (some ⟨w.heap.size, 0, none⟩)]] (w.alloc (.cells #[.map (some b)] 51)) fun e w' => ∃ (v : Value) (ss : List (List UInt8)), e = .returned v ∧ ss.Perm (m.map fun x => keyB x.1) ∧
      w'.ownsRow (w.heap.size + 1) 9 1 v ss.length ((ss.mergeSort (fun x y => decide (x ≤ y))).map encStr) ∧ (v = .slice none 0 0 ↔ ss = []) ∧ Calm w w' := by
  obtain ⟨D0, hown, hperm, hsize⟩ := h.owns (P := Tryz.prog) Tryz.underlying9 hs (by unfold maxLen; omega)
  have hbl := hown.lt
  have hseq : SeqGives Fence.wide 2 Tryz.prog KI #[.pointer (some ⟨w.heap.size, 0, none⟩)] encStr (fun ss => ss.Perm (strKeys D0)) (Maps.size D0) (w.alloc (.cells #[.map (some b)] 51)) :=
    AnyZ.keys_gives (ρ := Tryz.gKeys_ren) { Tryz.gKeys with } Fence.wide _ trivial rfl (by omega) w.heap.size b m.length D0 _ (by simp) (by simp) (by
      obtain ⟨es, clock, hb, Ft, hs, hD⟩ := hown
      exact ⟨es, clock, (Below.heap_alloc _ _ b hbl).trans hb, Ft, hs, hD⟩)
  refine (callsIn_wide.1 (AnyZ.sorted_in Tryz.gSorted Fence.wide 5 trivial trivial trivial trivial rfl (by omega) (sorts46 _) (enters_of Tryz.func98 (by kernel_rfl) rfl) KI #[.pointer (some ⟨w.heap.size, 0, none⟩)] trivial (enters_of Tryz.func99 (by kernel_rfl) rfl) _ _ (by rw [hsize]; unfold maxLen; omega) (by rw [hsize]; omega) _ hseq)).mono ?_
  rintro e w' ⟨v, ss, rfl, hp, hrow, hnil, hb⟩
  refine ⟨v, ss, rfl, hp.trans hperm, ?_, hnil, ?_⟩
  · have h2 := hrow
    simp only [World.size_alloc] at h2
    exact h2
  · exact ((Calm.refl w).alloc _).trans hb

theorem list1_any (x head : List UInt8) (B : Nat) (W : World) (hc : W.cell? ⟨B, 0, none⟩ = some (.string ⟨head.toArray⟩)) :
    FnGives Tryz.prog 79 #[.pointer (some ⟨B, 0, none⟩)] #[encStr x] (.bool (!Lib.hasPrefix x head)) W := by
  show Calls Tryz.prog 79 #[encStr x, .pointer (some ⟨B, 0, none⟩)] W _
  have hp := box (Tryz.strings_HasPrefix ⟨x.toArray⟩ ⟨head.toArray⟩ W)
  go_enter Tryz.func79, Tryz.ntmps79
  go_wp2_with fail
  refine hp.out.mono ?_
  rintro e w' ⟨rfl, rfl⟩
  go_wp2_with fail
  go_ret
  exact ⟨by simp, 0, rfl⟩
theorem IndexFuncStrNil_any (a : Option Addr) (c : Nat) (fv : Value) (w : World) : Calls Tryz.prog 100 #[.slice a 0 c, fv] w fun e w' => e = .returned (.int .i64 (-1)) ∧ w = w' := by
  go_enter Tryz.func100, Tryz.ntmps100
  go_wp2
  go_loop [8] (fun i => i = .int .i64 0) (fun _ => 0)
  case atStart => rfl
  case round =>
    obtain rfl := hrel
    go_wp2
    go_ret
    exact ⟨rfl, rfl⟩
theorem DeleteFuncStrNil_any (a : Option Addr) (c : Nat) (fv : Value) (w : World) : Calls Tryz.prog 78 #[.slice a 0 c, fv] w fun e w' => e = .returned (.slice a 0 c) ∧ w = w' := by
  go_enter Tryz.func78, Tryz.ntmps78
  go_wp2_with fail
  refine (IndexFuncStrNil_any a c fv w).mono ?_
  rintro e w' ⟨rfl, rfl⟩
  go_wp2_with fail
  go_ret
  exact ⟨rfl, rfl⟩
theorem calm_put {α : Type} [Inhabited α] {enc : α → Value} {w w1 : World} (h : Calm w w1) {q g off : Nat} {d : Array α} (hg : w.heap.size ≤ g) : Calm w (putRow enc (Sort.ahead w1 q) g off d) := by
  refine ⟨h.os, h.tape, h.output, ?_, fun k hk => ?_⟩
  · simpa [putRow, mapBlock, Sort.ahead] using h.size
  · have : (putRow enc (Sort.ahead w1 q) g off d).heap[k]? = w1.heap[k]? := by
      simp only [putRow, mapBlock, Sort.ahead, Array.getElem?_modify]
      rw [if_neg (by omega)]
    rw [this]; exact h.block k hk

/-- What 'List' leaves. -/
def ListDone (D : DiskS) (head : ByteArray) (w : World) (e : Ending) (w' : World) : Prop :=
  ∃ v, e = .returned v ∧ StrsAt w' v (D.names head) ∧ Calm w w' ∧ ∀ a n c, v = .slice (some a) n c → w.heap.size ≤ a.block
theorem zeroStr (w : World) : (zeroValue 9).run Tryz.prog w = .ok (encStr []) w := by kernel_rfl
set_option maxRecDepth 100000 in
set_option maxHeartbeats 4000000 in
theorem List_any {p : Nat} {D : DiskS} {F : Nat → Prop} (head : ByteArray) (w : World) (h : DiskAt w p D F) (hn : ∀ f ∈ D.files, f.name.size ≤ maxLen) (hl : D.files.length ≤ 1000000) :
    Calls Tryz.prog 52 #[ptrTo p, .string head] w (ListDone D head w) := by
  obtain ⟨mb, wv, h, rfl⟩ := h
  have hcalm : Calm w (w.alloc (.cells #[.string head] 9)) := (Calm.refl w).alloc _
  have h1 := h.calm hcalm
  obtain ⟨c0, c1, c2, c3, c4⟩ := h1.cells
  have hk0 := sortedKeys_any mb _ h1.map (fun x hx => by obtain ⟨f, hf, rfl⟩ := List.mem_map.1 hx; simpa [encF, keyB] using hn f hf) (by simpa using hl)
  simp only [World.size_alloc] at hk0
  have hk := box hk0
  clear hk0
  have hkeys : D.files.map (fun f => f.name.data.toList) = (D.files.map encF).map fun x => keyB x.1 := by rw [List.map_map]; apply List.map_congr_left; intro f _; simp [encF, keyB]
  have Hkeys := box hkeys
  have Hl := box hl
  have Hcalm := box hcalm
  clear h h1 hn hl hkeys hcalm
  go_enter Tryz.func52, Tryz.ntmps52
  go_wp2_with fail
  refine (keys_any _ _).mono ?_
  rintro e w1 ⟨rfl, rfl⟩
  go_wp2_with fail
  refine hk.out.mono ?_
  rintro e w2 ⟨v, ss, rfl, hperm, hrow, hnil, hc2⟩
  have hsort : ss.mergeSort (fun x y => decide (x ≤ y)) = (D.files.map fun f => f.name.data.toList).mergeSort (fun x y => decide (x ≤ y)) := by rw [Hkeys.out]; exact mergeSort_of_perm hperm
  rw [hsort] at hrow
  have hlen : ss.length = ((D.files.map fun f => f.name.data.toList).mergeSort (fun x y => decide (x ≤ y))).length := by rw [← hsort]; simp
  have hll := box (show ss.length ≤ 1000000 by rw [hlen]; simpa using Hl.out)
  have HN := box (show D.names head = ((((D.files.map fun f => f.name.data.toList).mergeSort (fun x y => decide (x ≤ y))).filter fun x => Lib.hasPrefix x head.data.toList)).map (fun l => (⟨l.toArray⟩ : ByteArray)) from rfl)
  obtain ⟨L, hL⟩ : ∃ L, (D.files.map fun f => f.name.data.toList).mergeSort (fun x y => decide (x ≤ y)) = L := ⟨_, rfl⟩
  rw [hL] at hrow hlen HN
  rw [hlen] at hrow hll
  have Hc2 := box (Hcalm.out.trans hc2)
  have hhead : w2.cell? ⟨w.heap.size, 0, none⟩ = some (.string ⟨head.data.toList.toArray⟩) := by
    rw [hc2.cell (p := ⟨w.heap.size, 0, none⟩) (by simp)]
    have := cell_of (heap_new w (.cells #[.string head] 9)) 0
    rw [this]; rfl
  have Hhead := box hhead
  have hsz2 := box hc2.size
  clear hsort hL hhead hperm hc2
  rcases hrow.2 with ⟨rfl, h0⟩ | ⟨g, cap, cur, rfl, hg, hgc, r2, r3, r4, r5⟩
  · have hLn : L = [] := List.eq_nil_of_length_eq_zero h0
    subst hLn
    clear hrow hnil hlen h0
    go_wp2_with fail
    refine (DeleteFuncStrNil_any _ _ _ _).mono ?_
    rintro e w3 ⟨rfl, rfl⟩
    go_wp2_with fail
    go_ret
    exact ⟨_, rfl, by rw [HN.out]; exact .inl ⟨rfl, _, _, rfl⟩, Hc2.out, fun a n c e => by cases e⟩
  · have hH : Holds encStr w2 g 0 L.toArray := fun j hj => by
      simp only [List.size_toArray] at hj
      have hcj : cur[j]? = some (encStr L[j]) := by
        have h5 := congrArg (fun l => l[j]?) r5
        simp only [List.getElem?_map] at h5
        rw [List.getElem?_take_of_lt (by omega), Array.getElem?_toList, List.getElem?_eq_getElem hj] at h5
        exact h5
      rw [Nat.zero_add, cell_of hgc, hcj]
      exact ⟨by simp [hj], free_of hgc j⟩
    have hne : w.heap.size ≠ g := by omega
    have hgw : w.heap.size ≤ g := by omega
    have hcon := AnyE.slices_DeleteFunc Tryz.gDelStr encStr (fun _ => rfl) (fun x => !Lib.hasPrefix x head.data.toList) 79 #[.pointer (some ⟨w.heap.size, 0, none⟩)] (enters_of Tryz.func79 (by kernel_rfl) rfl) [] zeroStr g 0 cap L.toArray w2
      (fun W x hb => list1_any x _ _ W (by rw [hb.cell (p := ⟨w.heap.size, 0, none⟩) (by have := hsz2.out; simp at this; simp; omega)]; exact Hhead.out))
      (fun n os dk x _ => list1_any x _ _ _ (by
        unfold sortWorld
        rw [cell?_grow _ _ _ (by show w.heap.size < (putRow _ _ _ _ _).heap.size; rw [size_putRow]; have := hsz2.out; simp at this; show w.heap.size < w2.heap.size; omega), cell?_putRow_other _ _ g 0 _ _ (Or.inl hne)]
        exact Hhead.out)) hH (by simp; have := hll.out; omega) (by simp; omega)
    simp only [List.size_toArray, Bool.not_not] at hcon
    obtain ⟨K, hK⟩ : ∃ K, L.filter (fun x => Lib.hasPrefix x head.data.toList) = K := ⟨_, rfl⟩
    have hKL : K.length ≤ L.length := by rw [← hK]; exact List.length_filter_le _ _
    rw [hK] at hcon HN
    change Calls Tryz.prog 78 _ _ _ at hcon
    have Hcon := box hcon
    have HH := box hH
    clear hcon hH hnil hrow hlen r2 r3 r4 r5 hg hgc hK
    go_wp2_with fail
    refine Hcon.out.mono ?_
    rintro e w3 ⟨rfl, q, rfl⟩
    go_wp2_with fail
    go_ret
    refine ⟨_, rfl, ?_, calm_put Hc2.out hgw, fun a n c e => by cases e; exact hgw⟩
    rw [HN.out]
    refine .inr ⟨g, 0, cap, by rw [List.length_map]; rfl, fun k hk => ?_⟩
    rw [List.length_map] at hk
    have hHa : Holds encStr (Sort.ahead w2 q) g 0 L.toArray := HH.out
    rw [cell?_putRow encStr _ g 0 L.toArray _ hHa (by simp; omega) k (by simp; omega)]
    simp [List.getD_eq_getElem?_getD, hk, encStr, List.getElem?_append_left]
end Go.Proofs.YtafdfmdcnniccaaGreat.dk

/- Plain: check sums, bit by bit, by bytes and by four bytes at once. -/
namespace Go.Proofs.YtafdfmdcnniccaaGreat.cr
open Go.RowKit

def poly : Nat := 3988292384
/-- One bit. -/
def step1 (x : Nat) : Nat := x / 2 ^^^ (if x % 2 = 1 then poly else 0)
def steps : Nat → Nat → Nat
  | 0, x => x
  | n + 1, x => steps n (step1 x)
theorem step1_xor (a b : Nat) : step1 (a ^^^ b) = step1 a ^^^ step1 b := by
  unfold step1
  rw [Nat.xor_div_two]
  have h := @Nat.xor_mod_two_eq_one a b
  by_cases ha : a % 2 = 1 <;> by_cases hb : b % 2 = 1
  · rw [if_neg (by rw [h]; simp [ha, hb]), if_pos ha, if_pos hb, Nat.xor_zero]
    rw [Nat.xor_assoc (a / 2), ← Nat.xor_assoc poly, Nat.xor_comm poly (b / 2), Nat.xor_assoc (b / 2), Nat.xor_self, Nat.xor_zero]
  · rw [if_pos (by rw [h]; simp [ha, hb]), if_pos ha, if_neg hb, Nat.xor_zero, Nat.xor_assoc, Nat.xor_comm (b / 2), ← Nat.xor_assoc]
  · rw [if_pos (by rw [h]; simp [ha, hb]), if_neg ha, if_pos hb, Nat.xor_zero, Nat.xor_assoc]
  · rw [if_neg (by rw [h]; simp [ha, hb]), if_neg ha, if_neg hb, Nat.xor_zero, Nat.xor_zero, Nat.xor_zero]
theorem steps_xor : ∀ (n a b : Nat), steps n (a ^^^ b) = steps n a ^^^ steps n b
  | 0, _, _ => rfl
  | n + 1, a, b => by unfold steps; rw [step1_xor, steps_xor n]
theorem steps_add : ∀ (m n x : Nat), steps (m + n) x = steps n (steps m x)
  | 0, n, x => by rw [Nat.zero_add]; rfl
  | m + 1, n, x => by rw [Nat.succ_add]; show steps (m + n) (step1 x) = _; rw [steps_add m n]; rfl
theorem step1_lt {x : Nat} (h : x < 4294967296) : step1 x < 4294967296 := by
  unfold step1
  refine Nat.xor_lt_two_pow (n := 32) (by omega) ?_
  split <;> decide
theorem steps_lt : ∀ (n : Nat) {x : Nat}, x < 4294967296 → steps n x < 4294967296
  | 0, _, h => h
  | n + 1, _, h => steps_lt n (step1_lt h)
theorem step1_even (y : Nat) : step1 (2 * y) = y := by
  unfold step1
  rw [if_neg (by omega), Nat.xor_zero]; omega
theorem steps_pow : ∀ (n y : Nat), steps n (2 ^ n * y) = y
  | 0, y => by simp [steps]
  | n + 1, y => by
    unfold steps
    rw [show 2 ^ (n + 1) * y = 2 * (2 ^ n * y) by rw [Nat.pow_succ, Nat.mul_comm (2 ^ n) 2, Nat.mul_assoc], step1_even, steps_pow n]
theorem xor_split (n x : Nat) : (x % 2 ^ n) ^^^ (2 ^ n * (x / 2 ^ n)) = x := by
  apply Nat.eq_of_testBit_eq
  intro i
  rw [Nat.testBit_xor, Nat.testBit_mod_two_pow, Nat.testBit_two_pow_mul]
  by_cases h : i < n
  · rw [decide_eq_true h, decide_eq_false (by omega)]; simp
  · rw [decide_eq_false h, decide_eq_true (by omega), Nat.testBit_div_two_pow]
    simp only [Bool.false_and, Bool.true_and, Bool.false_xor]
    rw [show i - n + n = i by omega]
/-- A byte's worth of bits, by the first table. -/
theorem steps8 (x : Nat) : steps 8 x = steps 8 (x % 256) ^^^ x / 256 := by
  conv => lhs; rw [← xor_split 8 x]
  rw [steps_xor, steps_pow]
theorem tab_next (k b : Nat) : steps (8 * (k + 1 + 1)) b = steps 8 (steps (8 * (k + 1)) b % 256) ^^^ steps (8 * (k + 1)) b / 256 := by
  rw [← steps8, ← steps_add]; congr 1
/-- A byte. -/
def crcB (x : Nat) (b : UInt8) : Nat := steps 8 (x ^^^ b.toNat)
theorem crcB_lt {x : Nat} (h : x < 4294967296) (b : UInt8) : crcB x b < 4294967296 := steps_lt 8 (Nat.xor_lt_two_pow (n := 32) (by omega) (by have := b.toNat_lt; omega))
theorem xor_mod (x b : Nat) (hb : b < 256) : (x ^^^ b) % 256 = (x % 256) ^^^ b := by
  have := @Nat.xor_mod_two_pow x b 8
  rw [show (2 : Nat) ^ 8 = 256 from rfl, Nat.mod_eq_of_lt hb] at this
  exact this
theorem xor_div (x b : Nat) (hb : b < 256) : (x ^^^ b) / 256 = x / 256 := by
  have := @Nat.xor_div_two_pow x b 8
  rw [show (2 : Nat) ^ 8 = 256 from rfl, Nat.div_eq_of_lt hb, Nat.xor_zero] at this
  exact this
theorem crcB_tab (x : Nat) (b : UInt8) : crcB x b = steps 8 ((x % 256) ^^^ b.toNat) ^^^ x / 256 := by
  unfold crcB
  rw [steps8, xor_mod _ _ b.toNat_lt, xor_div _ _ b.toNat_lt]
theorem steps_shift (m n y : Nat) : steps (m + n) (2 ^ m * y) = steps n y := by rw [steps_add, steps_pow]
/-- Four bytes at once. -/
theorem four_steps (x a b c d : Nat) : steps 8 (steps 8 (steps 8 (steps 8 (x ^^^ a) ^^^ b) ^^^ c) ^^^ d) = steps 32 (x ^^^ (a ^^^ (256 * b) ^^^ (65536 * c) ^^^ (16777216 * d))) := by
  have hb := steps_shift 8 24 b
  have hc := steps_shift 16 16 c
  have hd := steps_shift 24 8 d
  simp only [show (8 : Nat) + 24 = 32 from rfl, show (16 : Nat) + 16 = 32 from rfl, show (24 : Nat) + 8 = 32 from rfl, show (2 : Nat) ^ 8 = 256 from rfl, show (2 : Nat) ^ 16 = 65536 from rfl, show (2 : Nat) ^ 24 = 16777216 from rfl] at hb hc hd
  simp only [steps_xor, hb, hc, hd, ← steps_add]
  simp only [show (8 : Nat) + (8 + (8 + 8)) = 32 from rfl, show (8 : Nat) + (8 + 8) = 24 from rfl, show (8 : Nat) + 8 = 16 from rfl, Nat.xor_assoc]
theorem mul_xor (n a b : Nat) : (a ^^^ b) * 2 ^ n = (a * 2 ^ n) ^^^ (b * 2 ^ n) := by
  have := @Nat.shiftLeft_xor_distrib n a b
  rwa [Nat.shiftLeft_eq, Nat.shiftLeft_eq, Nat.shiftLeft_eq] at this
theorem mul_a (z : Nat) : 256 * z * 256 = 65536 * z := by omega
theorem mul_b (z : Nat) : 256 * z * 65536 = 16777216 * z := by omega
theorem steps32 (y : Nat) (h : y < 4294967296) : steps 32 y = steps 32 (y % 256) ^^^ steps 24 (y / 256 % 256) ^^^ steps 16 (y / 65536 % 256) ^^^ steps 8 (y / 16777216) := by
  have e : y = (y % 256) ^^^ ((256 * (y / 256 % 256)) ^^^ ((65536 * (y / 65536 % 256)) ^^^ (16777216 * (y / 16777216)))) := by
    have h1 := xor_split 8 y
    have h2 := xor_split 8 (y / 256)
    have h3 := xor_split 8 (y / 65536)
    simp only [show (2 : Nat) ^ 8 = 256 from rfl] at h1 h2 h3
    have d2 : y / 256 / 256 = y / 65536 := by rw [Nat.div_div_eq_div_mul]
    have d3 : y / 65536 / 256 = y / 16777216 := by rw [Nat.div_div_eq_div_mul]
    rw [d2] at h2
    rw [d3] at h3
    have m1 : 256 * (y / 256) = (256 * (y / 256 % 256)) ^^^ (65536 * (y / 65536)) := by
      conv => lhs; rw [← h2]
      have e := mul_xor 8 (y / 256 % 256) (256 * (y / 65536))
      rw [show (2 : Nat) ^ 8 = 256 from rfl] at e
      rw [Nat.mul_comm 256 (y / 256 % 256 ^^^ _), e, Nat.mul_comm (y / 256 % 256) 256, mul_a]
    have m2 : 65536 * (y / 65536) = (65536 * (y / 65536 % 256)) ^^^ (16777216 * (y / 16777216)) := by
      conv => lhs; rw [← h3]
      have e := mul_xor 16 (y / 65536 % 256) (256 * (y / 16777216))
      rw [show (2 : Nat) ^ 16 = 65536 from rfl] at e
      rw [Nat.mul_comm 65536 (y / 65536 % 256 ^^^ _), e, Nat.mul_comm (y / 65536 % 256) 65536, mul_b]
    rw [← m2, ← m1, h1]
  have hb := steps_shift 8 24 (y / 256 % 256)
  have hc := steps_shift 16 16 (y / 65536 % 256)
  have hd := steps_shift 24 8 (y / 16777216)
  simp only [show (8 : Nat) + 24 = 32 from rfl, show (16 : Nat) + 16 = 32 from rfl, show (24 : Nat) + 8 = 32 from rfl, show (2 : Nat) ^ 8 = 256 from rfl, show (2 : Nat) ^ 16 = 65536 from rfl, show (2 : Nat) ^ 24 = 16777216 from rfl] at hb hc hd
  conv => lhs; rw [e]
  simp only [steps_xor, hb, hc, hd, Nat.xor_assoc]
/-- A text's sum. -/
def crcN (l : List UInt8) : Nat := 4294967295 ^^^ l.foldl crcB 4294967295
theorem fold_lt : ∀ (l : List UInt8) {x : Nat}, x < 4294967296 → l.foldl crcB x < 4294967296
  | [], _, h => h
  | b :: l, _, h => fold_lt l (crcB_lt h b)
theorem crcN_lt (l : List UInt8) : crcN l < 4294967296 := Nat.xor_lt_two_pow (n := 32) (by decide) (fold_lt l (by decide))
end Go.Proofs.YtafdfmdcnniccaaGreat.cr
