/-
  DERIVED: THE SHELF's CONTRACTS AT THIS DUMP, IN PLAIN WORDS (tools/lay-plain.mjs out of 'TryIter.lean', which tools/lay-shelf.mjs wrote): THE SAME DECLARATIONS UNDER THE SAME NAMES: 'import', 'namespace', 'open', 'def', 'theorem' AND NOTHING ELSE: no command of the shelf's: FOR A HAND-IN. Each laying: the table of numbers ('.._ren') and one theorem, a field a fact of the dump's own or the kernel's comparison; each contract: ONE APPLICATION.
-/
import Derived.Test.YtjfiglkclpddaaaRows
import Derived.WalkKit
import Derived.ProofKit
import Derived.OpenShut
import Derived.Handy
import Derived.Deep.LoopGhost
import Derived.Lib.Hide
import Derived.Lib.Strings
import Derived.SizedLaws
import Derived.Maps.Own
import Derived.Maps.OwnOps
import Derived.Maps.OwnSet
import Derived.Maps.RangeWalk
import Derived.Deep.QuietTactic
import Derived.BigQuiet
import Derived.Deep.RegionHeld3
import Derived.Lib.ConvBytes
import Derived.Lib.AppendZeros
import Derived.Lib.AppendZerosOnto
import Derived.Lib.LazyBuf
import Derived.Shelf.Abstract
import Derived.LaidEql
import Derived.Lib.SliceRun
import Derived.StillTailTactics
import Derived.Deep.Slices
import Derived.Laws.MakeOwn
import Derived.Shelf.Strings.Builder1
import Derived.Shelf.Small.Bits
import Derived.Shelf.Small.Wraps
import Derived.Shelf.Strings.BuilderF
import Derived.Shelf.Strings.BuilderK
import Derived.Shelf.Strconv.Itoa0
import Derived.Shelf.Sort.Plain
import Derived.Shelf.GgClosure.StringsIndexFunc
import Derived.Ground.GgwProg
import Derived.Shelf.GgClosure.StringsIndexFuncTop
import Derived.Shelf.GgClosure.StringsRunes
import Derived.Shelf.Strings.Prefix
import Derived.Shelf.Strings.BuilderCap
import Derived.Shelf.Slices.In.SortNone
import Derived.Ground.SlgfProg
import Derived.Shelf.SlicesE.IndexFunc
import Derived.Shelf.SlicesE.DeleteFunc
import Derived.Test.YtjfiglkclpddaaaProg
import Derived.Lib.Builder
import Derived.Lib.AppendStr
import Derived.Shelf.SlIter.Nil
import Derived.Ground.GgzProg
import Derived.Shelf.SortM.Plain
import Derived.Shelf.SortM.SortNone
import Derived.Ground.SlgmProg
import Derived.Test.YtjfiglkclpddaaaPk14
namespace Go.Proofs
open Go.Shelf
def Try.gKeys_ren : Go.Shelf.Ren := ⟨fun | 7 => 50 | 10 => 81 | n => n, fun | 23 => 75 | 26 => 9 | 3 => 104 | 28 => 102 | 0 => 0 | 27 => 101 | 33 => 41 | 4 => 4 | n => n, fun | n => n⟩
theorem Try.gKeys : Go.Proofs.SlLaysZ.n7 Try.prog Try.gKeys_ren := {
  mixed := by kernel_rfl
  f7 := ⟨Try.f50.name, by decide, Try.func50.trans (congrArg some (by kernel_rfl))⟩
  f10 := ⟨Try.f81.name, by decide, Try.func81.trans (congrArg some (by kernel_rfl))⟩
  t0 := Try.underlying0
  a0 := Try.isAgg0
  z0 := Try.sizeOf0
  v0 := Try.zeroValue0
  t4 := Try.underlying4
  a4 := Try.isAgg4
  z4 := Try.sizeOf4
  v4 := Try.zeroValue4
  t23 := Try.underlying75
  a23 := Try.isAgg75
  z23 := Try.sizeOf75
  v23 := Try.zeroValue75
  t26 := Try.underlying9
  a26 := Try.isAgg9
  z26 := Try.sizeOf9
  v26 := Try.zeroValue9
  t27 := Try.underlying101
  a27 := Try.isAgg101
  z27 := Try.sizeOf101
  v27 := Try.zeroValue101
  t28 := Try.underlying102
  a28 := Try.isAgg102
  z28 := Try.sizeOf102
  v28 := Try.zeroValue102
  t33 := Try.underlying41
  a33 := Try.isAgg41
  z33 := Try.sizeOf41
  v33 := Try.zeroValue41 }
def Try.gSorted_ren : Go.Shelf.Ren := ⟨fun | 6 => 49 | 8 => 79 | 9 => 80 | 11 => 101 | 13 => 103 | 12 => 102 | 23 => 118 | 24 => 119 | 14 => 109 | 15 => 110 | 16 => 111 | 17 => 112 | 18 => 113 | 19 => 114 | 20 => 115 | 21 => 116 | 22 => 117 | 25 => 121 | 26 => 122 | 27 => 123 | 28 => 124 | 29 => 125 | 30 => 126 | 31 => 127 | n => n, fun | 26 => 9 | 28 => 102 | 24 => 31 | 0 => 0 | 3 => 3 | 37 => 154 | 48 => 148 | 50 => 180 | 4 => 4 | 40 => 173 | 39 => 172 | 45 => 96 | 5 => 5 | 9 => 9 | 51 => 181 | 55 => 185 | 57 => 187 | 58 => 188 | 33 => 41 | n => n, fun | n => n⟩
theorem Try.gSorted : Go.Proofs.SlLaysZ.n6 Try.prog Try.gSorted_ren := {
  mixed := by kernel_rfl
  f6 := ⟨Try.f49.name, by decide, Try.func49.trans (congrArg some (by kernel_rfl))⟩
  f8 := ⟨Try.f79.name, by decide, Try.func79.trans (congrArg some (by kernel_rfl))⟩
  f11 := ⟨Try.f101.name, by decide, Try.func101.trans (congrArg some (by kernel_rfl))⟩
  t0 := Try.underlying0
  a0 := Try.isAgg0
  z0 := Try.sizeOf0
  v0 := Try.zeroValue0
  t24 := Try.underlying31
  a24 := Try.isAgg31
  z24 := Try.sizeOf31
  v24 := Try.zeroValue31
  t26 := Try.underlying9
  a26 := Try.isAgg9
  z26 := Try.sizeOf9
  v26 := Try.zeroValue9
  t28 := Try.underlying102
  a28 := Try.isAgg102
  z28 := Try.sizeOf102
  v28 := Try.zeroValue102
  i26 := by kernel_rfl }
def Try.gSort_ren : Go.Shelf.Ren := ⟨fun | 6 => 80 | 8 => 103 | 9 => 102 | 19 => 118 | 20 => 119 | 21 => 109 | 22 => 110 | 23 => 111 | 24 => 112 | 25 => 113 | 26 => 114 | 27 => 115 | 28 => 116 | 29 => 117 | 36 => 121 | 31 => 122 | 32 => 123 | 37 => 124 | 38 => 125 | 39 => 126 | 41 => 127 | n => n, fun | 27 => 31 | 29 => 9 | 3 => 3 | 32 => 154 | 26 => 31 | 0 => 0 | 44 => 148 | 46 => 180 | 4 => 4 | 36 => 173 | 35 => 172 | 41 => 96 | 5 => 5 | 9 => 9 | 53 => 181 | 57 => 185 | 63 => 187 | 64 => 188 | n => n, fun | n => n⟩
theorem Try.gSort : Go.Proofs.SlLaysM.n6 Try.prog Try.gSort_ren := {
  mixed := by kernel_rfl
  f6 := ⟨Try.f80.name, by decide, Try.func80.trans (congrArg some (by kernel_rfl))⟩
  f8 := Try.func103.trans (congrArg some (by kernel_rfl))
  f9 := ⟨Try.f102.name, by decide, Try.func102.trans (congrArg some (by kernel_rfl))⟩
  f19 := Try.func118.trans (congrArg some (by kernel_rfl))
  f20 := Try.func119.trans (congrArg some (by kernel_rfl))
  f21 := ⟨Try.f109.name, by decide, Try.func109.trans (congrArg some (by kernel_rfl))⟩
  f22 := ⟨Try.f110.name, by decide, Try.func110.trans (congrArg some (by kernel_rfl))⟩
  f23 := ⟨Try.f111.name, by decide, Try.func111.trans (congrArg some (by kernel_rfl))⟩
  f24 := ⟨Try.f112.name, by decide, Try.func112.trans (congrArg some (by kernel_rfl))⟩
  f25 := ⟨Try.f113.name, by decide, Try.func113.trans (congrArg some (by kernel_rfl))⟩
  f26 := ⟨Try.f114.name, by decide, Try.func114.trans (congrArg some (by kernel_rfl))⟩
  f27 := ⟨Try.f115.name, by decide, Try.func115.trans (congrArg some (by kernel_rfl))⟩
  f28 := ⟨Try.f116.name, by decide, Try.func116.trans (congrArg some (by kernel_rfl))⟩
  f29 := ⟨Try.f117.name, by decide, Try.func117.trans (congrArg some (by kernel_rfl))⟩
  f31 := Try.func122.trans (congrArg some (by kernel_rfl))
  f32 := Try.func123.trans (congrArg some (by kernel_rfl))
  f36 := ⟨Try.f121.name, by decide, Try.func121.trans (congrArg some (by kernel_rfl))⟩
  f37 := ⟨Try.f124.name, by decide, Try.func124.trans (congrArg some (by kernel_rfl))⟩
  f38 := ⟨Try.f125.name, by decide, Try.func125.trans (congrArg some (by kernel_rfl))⟩
  f39 := ⟨Try.f126.name, by decide, Try.func126.trans (congrArg some (by kernel_rfl))⟩
  f41 := ⟨Try.f127.name, by decide, Try.func127.trans (congrArg some (by kernel_rfl))⟩
  t0 := Try.underlying0
  a0 := Try.isAgg0
  z0 := Try.sizeOf0
  v0 := Try.zeroValue0
  t3 := Try.underlying3
  a3 := Try.isAgg3
  z3 := Try.sizeOf3
  v3 := Try.zeroValue3
  t4 := Try.underlying4
  a4 := Try.isAgg4
  z4 := Try.sizeOf4
  v4 := Try.zeroValue4
  t5 := Try.underlying5
  a5 := Try.isAgg5
  z5 := Try.sizeOf5
  v5 := Try.zeroValue5
  t9 := Try.underlying9
  a9 := Try.isAgg9
  z9 := Try.sizeOf9
  v9 := Try.zeroValue9
  t26 := Try.underlying31
  a26 := Try.isAgg31
  z26 := Try.sizeOf31
  v26 := Try.zeroValue31
  t27 := Try.underlying31
  a27 := Try.isAgg31
  z27 := Try.sizeOf31
  v27 := Try.zeroValue31
  t29 := Try.underlying9
  a29 := Try.isAgg9
  z29 := Try.sizeOf9
  v29 := Try.zeroValue9
  t32 := Try.underlying154
  a32 := Try.isAgg154
  z32 := Try.sizeOf154
  v32 := Try.zeroValue154
  t35 := Try.underlying172
  a35 := Try.isAgg172
  z35 := Try.sizeOf172
  v35 := Try.zeroValue172
  t36 := Try.underlying173
  a36 := Try.isAgg173
  z36 := Try.sizeOf173
  v36 := Try.zeroValue173
  t41 := Try.underlying96
  a41 := Try.isAgg96
  z41 := Try.sizeOf96
  v41 := Try.zeroValue96
  t44 := Try.underlying148
  a44 := Try.isAgg148
  z44 := Try.sizeOf148
  v44 := Try.zeroValue148
  t46 := Try.underlying180
  a46 := Try.isAgg180
  z46 := Try.sizeOf180
  v46 := Try.zeroValue180
  t53 := Try.underlying181
  a53 := Try.isAgg181
  z53 := Try.sizeOf181
  v53 := Try.zeroValue181
  t57 := Try.underlying185
  a57 := Try.isAgg185
  z57 := Try.sizeOf185
  v57 := Try.zeroValue185
  t63 := Try.underlying187
  a63 := Try.isAgg187
  z63 := Try.sizeOf187
  v63 := Try.zeroValue187
  t64 := Try.underlying188
  a64 := Try.isAgg188
  z64 := Try.sizeOf188
  v64 := Try.zeroValue188 }
def Try.gDelStr_ren : Go.Shelf.Ren := ⟨fun | 10 => 51 | 6 => 82 | n => n, fun | 22 => 31 | 23 => 9 | 25 => 41 | 3 => 3 | 4 => 4 | 0 => 0 | n => n, fun | n => n⟩
theorem Try.gDelStr : Go.Proofs.SlLaysH.n10 Try.prog Try.gDelStr_ren := {
  mixed := by kernel_rfl
  f6 := ⟨Try.f82.name, by decide, Try.func82.trans (congrArg some (by kernel_rfl))⟩
  f10 := ⟨Try.f51.name, by decide, Try.func51.trans (congrArg some (by kernel_rfl))⟩
  t0 := Try.underlying0
  a0 := Try.isAgg0
  z0 := Try.sizeOf0
  v0 := Try.zeroValue0
  t3 := Try.underlying3
  a3 := Try.isAgg3
  z3 := Try.sizeOf3
  v3 := Try.zeroValue3
  t4 := Try.underlying4
  a4 := Try.isAgg4
  z4 := Try.sizeOf4
  v4 := Try.zeroValue4
  t22 := Try.underlying31
  a22 := Try.isAgg31
  z22 := Try.sizeOf31
  v22 := Try.zeroValue31
  a23 := Try.isAgg9
  z23 := Try.sizeOf9
  t25 := Try.underlying41
  a25 := Try.isAgg41
  z25 := Try.sizeOf41
  v25 := Try.zeroValue41 }
end Go.Proofs

/- A map's keys, sorted: what the library's contracts want of a map, out of MapIs. -/
namespace Go.Proofs.Ytjfiglkclpddaaa
open Go.RowKit Go.Maps Go.Sort Go.Shelf Go.MapKept Go.WideElems

def keyB : Value → List UInt8
  | .string s => s.data.toList
  | _ => []
abbrev noR : Value → Option (DataW Unit × List MemPlace) := fun _ => some (.nil, [])
/-- A map whose keys are texts, as the library's contracts want it. -/
theorem MapIs.owns {P : Program} {w : World} {b : Nat} {k : TypeId} {m : List (Value × Value)} (h : MapIs w b .string m) (hk : P.underlying k = some .string) (hs : ∀ x ∈ m, (keyB x.1).length ≤ maxLen) (hl : m.length ≤ maxLen) :
    ∃ D0 : DataW Unit, w.ownsMap P k noR b m.length D0 ∧ (strKeys D0).Perm (m.map fun x => keyB x.1) ∧ Maps.size D0 = m.length := by
  obtain ⟨es, clock, hb, hst, rfl, hks⟩ := h
  have hrd : ∀ x ∈ es.toList, WideElems.rd P k noR x = some (.string (keyB x.key), .nil) := fun x hx => by
    have h1 := hks x hx
    have h2 := hs (x.key, x.val) (List.mem_map.2 ⟨x, hx, rfl⟩)
    unfold WideElems.rd
    cases hkx : x.key with
    | string s =>
      rw [hkx] at h2
      simp only [keyB] at h2
      unfold keyOf mapKey
      rw [hk]
      have h3 : s.size ≤ maxLen := by simpa using h2
      simp [h3, keyB, noR]
    | _ => rw [hkx] at h1; simp [IsKey] at h1
  refine ⟨.map ((es.toList.map (WideElems.rg P k noR)).foldr DataW.insert []), ⟨es, clock, hb, ⟨by simpa using hl, hst, fun x hx => ⟨_, hrd x hx⟩⟩, by simp, rfl⟩, ?_, ?_⟩
  · have hp := (Go.WideShapes.sorted_perm (es.toList.map (WideElems.rg P k noR))).map (fun p => strOf p.1)
    refine hp.trans (List.Perm.of_eq ?_)
    rw [List.map_map, List.map_map]
    apply List.map_congr_left
    intro x hx
    simp only [Function.comp, WideElems.rg_of (hrd x hx), strOf]
  · have hp := (Go.WideShapes.sorted_perm (es.toList.map (WideElems.rg P k noR))).length_eq
    show (List.foldr DataW.insert [] _).length = _
    rw [hp]; simp
end Go.Proofs.Ytjfiglkclpddaaa

/- Layer 4: List. -/
namespace Go.Proofs.Ytjfiglkclpddaaa.dk
open Go.ChangeShapes Go.WideShapes Go.ChangeAt Go.RowKit Go.Sort Go.Shelf

/-- The names that begin with something, sorted, as lists of bytes. -/
def DiskS.namesL (D : DiskS) (head : List UInt8) : List (List UInt8) := ((D.files.map fun f => f.name.data.toList).mergeSort (fun x y => decide (x ≤ y))).filter fun x => Lib.hasPrefix x head
def DiskS.names (D : DiskS) (head : ByteArray) : List ByteArray := (D.namesL head.data.toList).map fun l => ⟨l.toArray⟩

theorem sorts46 (m : Nat) : AnyZ.SortsIn Try.prog Try.gSorted_ren Fence.wide m :=
  ⟨fun blk off cap ss W hH hblk hsz => callsIn_wide.2 (AnyM.slices_Sort_string Try.gSort blk off cap ss W hH hblk hsz),
   fun p cap W => callsIn_wide.2 (AnyM.slices_Sort_string_none Try.gSort p cap W)⟩
abbrev KF : Nat := 50
abbrev KI : Nat := 81
theorem keys_any (mb : Option Nat) (W : World) : Calls Try.prog KF #[.map mb] W fun e w' => e = .returned (.func (.func KI) #[] #[.pointer (some ⟨W.heap.size, 0, none⟩)]) ∧ w' = W.alloc (.cells #[.map mb] 75) :=
  callsIn_wide.1 (AnyZ.keys_in Try.gKeys Fence.wide 5 trivial rfl mb W)

set_option maxHeartbeats 1000000 in
theorem sortedKeys_any {m : List (Value × Value)} (b : Nat) (w : World) (h : MapIs w b .string m) (hs : ∀ x ∈ m, (keyB x.1).length ≤ maxLen) (hl : m.length ≤ 1000000) :
    Calls Try.prog 49 #[.func (.func KI) #[] #[.pointer (some ⟨w.heap.size, 0, none⟩)]] (w.alloc (.cells #[.map (some b)] 75)) fun e w' => ∃ (v : Value) (ss : List (List UInt8)), e = .returned v ∧ ss.Perm (m.map fun x => keyB x.1) ∧
      w'.ownsRow (w.heap.size + 1) 9 1 v ss.length ((ss.mergeSort (fun x y => decide (x ≤ y))).map encStr) ∧ (v = .slice none 0 0 ↔ ss = []) ∧ Calm w w' := by
  obtain ⟨D0, hown, hperm, hsize⟩ := h.owns (P := Try.prog) Try.underlying9 hs (by unfold maxLen; omega)
  have hbl := hown.lt
  have hseq : SeqGives Fence.wide 2 Try.prog KI #[.pointer (some ⟨w.heap.size, 0, none⟩)] encStr (fun ss => ss.Perm (strKeys D0)) (Maps.size D0) (w.alloc (.cells #[.map (some b)] 75)) :=
    AnyZ.keys_gives (ρ := Try.gKeys_ren) { Try.gKeys with } Fence.wide _ trivial rfl (by omega) w.heap.size b m.length D0 _ (by simp) (by simp) (by
      obtain ⟨es, clock, hb, Ft, hs, hD⟩ := hown
      exact ⟨es, clock, (Below.heap_alloc _ _ b hbl).trans hb, Ft, hs, hD⟩)
  refine (callsIn_wide.1 (AnyZ.sorted_in Try.gSorted Fence.wide 5 trivial trivial trivial trivial rfl (by omega) (sorts46 _) (enters_of Try.func80 (by kernel_rfl) rfl) KI #[.pointer (some ⟨w.heap.size, 0, none⟩)] trivial (enters_of Try.func81 (by kernel_rfl) rfl) _ _ (by rw [hsize]; unfold maxLen; omega) (by rw [hsize]; omega) _ hseq)).mono ?_
  rintro e w' ⟨v, ss, rfl, hp, hrow, hnil, hb⟩
  refine ⟨v, ss, rfl, hp.trans hperm, ?_, hnil, ?_⟩
  · have h2 := hrow
    simp only [World.size_alloc] at h2
    exact h2
  · exact ((Calm.refl w).alloc _).trans hb

theorem list1_any (x head : List UInt8) (B : Nat) (W : World) (hc : W.cell? ⟨B, 0, none⟩ = some (.string ⟨head.toArray⟩)) :
    FnGives Try.prog 52 #[.pointer (some ⟨B, 0, none⟩)] #[encStr x] (.bool (!Lib.hasPrefix x head)) W := by
  show Calls Try.prog 52 #[encStr x, .pointer (some ⟨B, 0, none⟩)] W _
  have hp := box (Try.strings_HasPrefix ⟨x.toArray⟩ ⟨head.toArray⟩ W)
  go_enter Try.func52, Try.ntmps52
  go_wp2_with fail
  refine hp.out.mono ?_
  rintro e w' ⟨rfl, rfl⟩
  go_wp2_with fail
  go_ret
  exact ⟨by simp, 0, rfl⟩
theorem IndexFuncStrNil_any (a : Option Addr) (c : Nat) (fv : Value) (w : World) : Calls Try.prog 82 #[.slice a 0 c, fv] w fun e w' => e = .returned (.int .i64 (-1)) ∧ w = w' := by
  go_enter Try.func82, Try.ntmps82
  go_wp2
  go_loop [8] (fun i => i = .int .i64 0) (fun _ => 0)
  case atStart => rfl
  case round =>
    obtain rfl := hrel
    go_wp2
    go_ret
    exact ⟨rfl, rfl⟩
theorem DeleteFuncStrNil_any (a : Option Addr) (c : Nat) (fv : Value) (w : World) : Calls Try.prog 51 #[.slice a 0 c, fv] w fun e w' => e = .returned (.slice a 0 c) ∧ w = w' := by
  go_enter Try.func51, Try.ntmps51
  go_wp2_with fail
  refine (IndexFuncStrNil_any a c fv w).mono ?_
  rintro e w' ⟨rfl, rfl⟩
  go_wp2_with fail
  go_ret
  exact ⟨rfl, rfl⟩
theorem calm_put {α : Type} [Inhabited α] {enc : α → Value} {w w1 : World} (h : Calm w w1) {q g off : Nat} {d : Array α} (hg : w.heap.size ≤ g) : Calm w (putRow enc (Sort.ahead w1 q) g off d) := by
  refine ⟨h.os, h.tape, h.output, ?_, fun k hk => ?_⟩
  · simpa [putRow, mapBlock, Sort.ahead] using h.size
  · have : (putRow enc (Sort.ahead w1 q) g off d).heap[k]? = w1.heap[k]? := by
      simp only [putRow, mapBlock, Sort.ahead, Array.getElem?_modify]
      rw [if_neg (by omega)]
    rw [this]; exact h.block k hk

/-- What 'List' leaves. -/
def ListDone (D : DiskS) (head : ByteArray) (w : World) (e : Ending) (w' : World) : Prop :=
  ∃ v, e = .returned v ∧ StrsAt w' v (D.names head) ∧ Calm w w' ∧ ∀ a n c, v = .slice (some a) n c → w.heap.size ≤ a.block
theorem zeroStr (w : World) : (zeroValue 9).run Try.prog w = .ok (encStr []) w := by kernel_rfl
set_option maxRecDepth 100000 in
set_option maxHeartbeats 4000000 in
theorem List_any {p : Nat} {D : DiskS} {F : Nat → Prop} (head : ByteArray) (w : World) (h : DiskAt w p D F) (hn : ∀ f ∈ D.files, f.name.size ≤ maxLen) (hl : D.files.length ≤ 1000000) :
    Calls Try.prog 27 #[ptrTo p, .string head] w (ListDone D head w) := by
  obtain ⟨mb, wv, h, rfl⟩ := h
  have hcalm : Calm w (w.alloc (.cells #[.string head] 9)) := (Calm.refl w).alloc _
  have h1 := h.calm hcalm
  obtain ⟨c0, c1, c2, c3, c4⟩ := h1.cells
  have hk0 := sortedKeys_any mb _ h1.map (fun x hx => by obtain ⟨f, hf, rfl⟩ := List.mem_map.1 hx; simpa [encF, keyB] using hn f hf) (by simpa using hl)
  simp only [World.size_alloc] at hk0
  have hk := box hk0
  clear hk0
  have hkeys : D.files.map (fun f => f.name.data.toList) = (D.files.map encF).map fun x => keyB x.1 := by rw [List.map_map]; apply List.map_congr_left; intro f _; simp [encF, keyB]
  have Hkeys := box hkeys
  have Hl := box hl
  have Hcalm := box hcalm
  clear h h1 hn hl hkeys hcalm
  go_enter Try.func27, Try.ntmps27
  go_wp2_with fail
  refine (keys_any _ _).mono ?_
  rintro e w1 ⟨rfl, rfl⟩
  go_wp2_with fail
  refine hk.out.mono ?_
  rintro e w2 ⟨v, ss, rfl, hperm, hrow, hnil, hc2⟩
  have hsort : ss.mergeSort (fun x y => decide (x ≤ y)) = (D.files.map fun f => f.name.data.toList).mergeSort (fun x y => decide (x ≤ y)) := by rw [Hkeys.out]; exact mergeSort_of_perm hperm
  rw [hsort] at hrow
  have hlen : ss.length = ((D.files.map fun f => f.name.data.toList).mergeSort (fun x y => decide (x ≤ y))).length := by rw [← hsort]; simp
  have hll := box (show ss.length ≤ 1000000 by rw [hlen]; simpa using Hl.out)
  have HN := box (show D.names head = ((((D.files.map fun f => f.name.data.toList).mergeSort (fun x y => decide (x ≤ y))).filter fun x => Lib.hasPrefix x head.data.toList)).map (fun l => (⟨l.toArray⟩ : ByteArray)) from rfl)
  obtain ⟨L, hL⟩ : ∃ L, (D.files.map fun f => f.name.data.toList).mergeSort (fun x y => decide (x ≤ y)) = L := ⟨_, rfl⟩
  rw [hL] at hrow hlen HN
  rw [hlen] at hrow hll
  have Hc2 := box (Hcalm.out.trans hc2)
  have hhead : w2.cell? ⟨w.heap.size, 0, none⟩ = some (.string ⟨head.data.toList.toArray⟩) := by
    rw [hc2.cell (p := ⟨w.heap.size, 0, none⟩) (by simp)]
    have := cell_of (heap_new w (.cells #[.string head] 9)) 0
    rw [this]; rfl
  have Hhead := box hhead
  have hsz2 := box hc2.size
  clear hsort hL hhead hperm hc2
  rcases hrow.2 with ⟨rfl, h0⟩ | ⟨g, cap, cur, rfl, hg, hgc, r2, r3, r4, r5⟩
  · have hLn : L = [] := List.eq_nil_of_length_eq_zero h0
    subst hLn
    clear hrow hnil hlen h0
    go_wp2_with fail
    refine (DeleteFuncStrNil_any _ _ _ _).mono ?_
    rintro e w3 ⟨rfl, rfl⟩
    go_wp2_with fail
    go_ret
    exact ⟨_, rfl, by rw [HN.out]; exact .inl ⟨rfl, _, _, rfl⟩, Hc2.out, fun a n c e => by cases e⟩
  · have hH : Holds encStr w2 g 0 L.toArray := fun j hj => by
      simp only [List.size_toArray] at hj
      have hcj : cur[j]? = some (encStr L[j]) := by
        have h5 := congrArg (fun l => l[j]?) r5
        simp only [List.getElem?_map] at h5
        rw [List.getElem?_take_of_lt (by omega), Array.getElem?_toList, List.getElem?_eq_getElem hj] at h5
        exact h5
      rw [Nat.zero_add, cell_of hgc, hcj]
      exact ⟨by simp [hj], free_of hgc j⟩
    have hne : w.heap.size ≠ g := by omega
    have hgw : w.heap.size ≤ g := by omega
    have hcon := AnyE.slices_DeleteFunc Try.gDelStr encStr (fun _ => rfl) (fun x => !Lib.hasPrefix x head.data.toList) 52 #[.pointer (some ⟨w.heap.size, 0, none⟩)] (enters_of Try.func52 (by kernel_rfl) rfl) [] zeroStr g 0 cap L.toArray w2
      (fun W x hb => list1_any x _ _ W (by rw [hb.cell (p := ⟨w.heap.size, 0, none⟩) (by have := hsz2.out; simp at this; simp; omega)]; exact Hhead.out))
      (fun n os dk x _ => list1_any x _ _ _ (by
        unfold sortWorld
        rw [cell?_grow _ _ _ (by show w.heap.size < (putRow _ _ _ _ _).heap.size; rw [size_putRow]; have := hsz2.out; simp at this; show w.heap.size < w2.heap.size; omega), cell?_putRow_other _ _ g 0 _ _ (Or.inl hne)]
        exact Hhead.out)) hH (by simp; have := hll.out; omega) (by simp; omega)
    simp only [List.size_toArray, Bool.not_not] at hcon
    obtain ⟨K, hK⟩ : ∃ K, L.filter (fun x => Lib.hasPrefix x head.data.toList) = K := ⟨_, rfl⟩
    have hKL : K.length ≤ L.length := by rw [← hK]; exact List.length_filter_le _ _
    rw [hK] at hcon HN
    change Calls Try.prog 51 _ _ _ at hcon
    have Hcon := box hcon
    have HH := box hH
    clear hcon hH hnil hrow hlen r2 r3 r4 r5 hg hgc hK
    go_wp2_with fail
    refine Hcon.out.mono ?_
    rintro e w3 ⟨rfl, q, rfl⟩
    go_wp2_with fail
    go_ret
    refine ⟨_, rfl, ?_, calm_put Hc2.out hgw, fun a n c e => by cases e; exact hgw⟩
    rw [HN.out]
    refine .inr ⟨g, 0, cap, by rw [List.length_map]; rfl, fun k hk => ?_⟩
    rw [List.length_map] at hk
    have hHa : Holds encStr (Sort.ahead w2 q) g 0 L.toArray := HH.out
    rw [cell?_putRow encStr _ g 0 L.toArray _ hHa (by simp; omega) k (by simp; omega)]
    simp [List.getD_eq_getElem?_getD, hk, encStr, List.getElem?_append_left]
end Go.Proofs.Ytjfiglkclpddaaa.dk

/- Layer 15: a wheel. -/
namespace Go.Proofs.Ytjfiglkclpddaaa.wh
open Go.ChangeShapes Go.WideShapes Go.ChangeAt Go.RowKit
open Go.Proofs.Ytjfiglkclpddaaa.dk Go.Proofs.Ytjfiglkclpddaaa.oc

theorem err_cases (r : Int) : r = 0 ∨ ((r == 0) = false ∧ (r != 0) = true ∧ Box (r ≠ 0)) := by
  by_cases h : r = 0
  · exact .inl h
  · exact .inr ⟨beq_eq_false_iff_ne.2 h, bne_iff_ne.2 h, box h⟩

abbrev wslots : ByteArray := ⟨#[119, 45, 115, 108, 111, 116, 115]⟩
abbrev whead : ByteArray := ⟨#[119, 45]⟩
def noughts (n : Nat) : ByteArray := ⟨(List.replicate n (0 : UInt8)).toArray⟩
/-- All files of a head go. -/
def cleared (D : DiskS) (hd : ByteArray) : Int × DiskS := if D.names hd = [] then (0, D) else D.delete (D.names hd)
def wnew (D : DiskS) (b : Nat) : Int × DiskS :=
  if (cleared D whead).1 ≠ 0 then cleared D whead else
  if ((cleared D whead).2.create wslots b).1 ≠ 0 then (cleared D whead).2.create wslots b else
  ((cleared D whead).2.create wslots b).2.write wslots 0 (noughts 96)

/-- A wheel lies at q, over the disk at p; its hand. -/
def WheelAt (w : World) (q p : Nat) (t : Int) : Prop := w.heap[q]? = some (.cells #[ptrTo p, .int .i64 t] 137 (0, 0))
theorem WheelAt.calm {w w' : World} {q p : Nat} {t : Int} (h : WheelAt w q p t) (hc : Calm w w') : WheelAt w' q p t := heap_calm hc h
theorem WheelAt.keep {w w' : World} {q p : Nat} {t : Int} {F : Nat → Prop} (h : WheelAt w q p t) (k : Keeps F w w') (hq : ¬ F q) : WheelAt w' q p t := (k.block q (heap_lt h) hq).trans h
theorem WheelAt.cells {w : World} {q p : Nat} {t : Int} (h : WheelAt w q p t) : w.cell? ⟨q, 0, none⟩ = some (ptrTo p) ∧ w.cell? ⟨q, 1, none⟩ = some (.int .i64 t) ∧ w.frozen? ⟨q, 0, none⟩ = false ∧ w.frozen? ⟨q, 1, none⟩ = false ∧ q < w.heap.size :=
  ⟨cell_of h 0, cell_of h 1, free_of h 0, free_of h 1, heap_lt h⟩

def WNew (D : DiskS) (p : Nat) (F : Nat → Prop) (n : Nat) (t : Int) (w : World) (e : Ending) (w' : World) : Prop :=
  ∃ b v F', w.heap.size ≤ b ∧ e = .returned (.tuple #[v, .int .i64 (wnew D b).1]) ∧ DiskOk w' p (wnew D b).2 F' (n + 1) ∧ Step F w F' w' ∧
    (((wnew D b).1 = 0 ∧ ∃ q, v = ptrTo q ∧ WheelAt w' q p t ∧ w.heap.size ≤ q ∧ ¬ F' q) ∨ ((wnew D b).1 ≠ 0 ∧ v = .pointer none))

theorem NewBad_any (v : Value) (t : Int) (w : World) (h : v = .pointer none ∨ (∃ p, v = ptrTo p ∧ (t < 0 ∨ 1099511627776 < t))) :
    Calls Try.prog 43 #[v, .int .i64 t] w fun e w' => e = .returned (.tuple #[.pointer none, .int .i64 1]) ∧ w = w' := by
  rcases h with rfl | ⟨p, rfl, h⟩
  · go_enter Try.func43, Try.ntmps43
    go_wp2
    go_ret2
    exact ⟨rfl, rfl⟩
  · have h' : t < 0 ∨ (0 ≤ t ∧ 1099511627776 < t) := by omega
    clear h
    rcases h' with h | ⟨h1, h2⟩
    all_goals
      go_enter Try.func43, Try.ntmps43
      go_wp2
      go_ret2
      exact ⟨rfl, rfl⟩

theorem infoByte : (Try.prog.info? 5).map (fun i => (i.zero, i.size, i.bytes)) = some (some (.int .u8 0), 1, 1) := by kernel_rfl
/-- string(make([]byte, n)), the two runs. -/
theorem made_string (w : World) (n : Nat) (z : Int) (hz : z = n) (hn : n ≤ 1000000) : (Instr.makeSlice 22 (.int .i64 z) (.int .i64 z)).run Try.prog w = .ok (.slice (some ⟨w.heap.size, 0, none⟩) n n) (w.alloc (.cells (madeCells #[Value.int .u8 0] n) 5)) ∧
    (convert 22 9 (.slice (some ⟨w.heap.size, 0, none⟩) n n)).run Try.prog (w.alloc (.cells (madeCells #[Value.int .u8 0] n) 5)) = .ok (.string (noughts n)) (w.alloc (.cells (madeCells #[Value.int .u8 0] n) 5)) := by
  subst hz
  obtain ⟨i0, hi, hz0, hz1, hz2⟩ := info_parts infoByte
  have hmk := run_make (P := Try.prog) w 22 5 i0 _ Try.underlying22 hi hz0 .i64 .i64 n n (by omega) (Int.le_refl _) (by rw [hz2]; omega) (by omega)
  simp only [hz1, Int.toNat_natCast, Nat.mul_one] at hmk
  have hback := conv_string (P := Try.prog) _ 22 9 5 Try.underlying22 Try.underlying5 Try.underlying9 (made_bytes w n) n
  rw [List.length_replicate] at hback
  exact ⟨hmk, hback⟩

set_option maxRecDepth 100000 in
set_option maxHeartbeats 8000000 in
theorem New_any {p n : Nat} {D : DiskS} {F : Nat → Prop} (t : Int) (w : World) (h : DiskOk w p D F n) (hn : n ≤ 999999) (ht : 0 ≤ t ∧ t ≤ 1099511627776) (hs : ∀ f ∈ D.files, f.name.size ≤ maxLen) (hl : D.files.length ≤ 1000000) :
    Calls Try.prog 43 #[ptrTo p, .int .i64 t] w (WNew D p F n t w) := by
  obtain ⟨ht0, ht1⟩ := ht
  have H := box h
  have hlist := box (List_any whead w h.lies hs hl)
  have hnl : (D.names whead).length ≤ 1000000 := by
    unfold DiskS.names DiskS.namesL
    rw [List.length_map]
    refine Nat.le_trans (List.length_filter_le _ _) ?_
    simpa using hl
  have Hnl := box hnl
  clear h hs hl hnl
  obtain ⟨l, hl⟩ : ∃ l, D.names whead = l := ⟨_, rfl⟩
  have hclr := box (show cleared D whead = if l = [] then (0, D) else D.delete l by unfold cleared; rw [hl])
  unfold ListDone at hlist
  rw [hl] at hlist Hnl
  clear hl
  cases l with
  | nil =>
    have hcl := box (show cleared D whead = (0, D) by rw [hclr.out, if_pos rfl])
    go_enter Try.func43, Try.ntmps43
    go_wp2_with fail
    refine hlist.out.mono ?_
    rintro e w1 ⟨v, rfl, hv, hc1, _⟩
    obtain ⟨la, lcap, rfl, _⟩ := hv.uni
    have H1 := box (H.out.calm hc1)
    have S1 := box (Step.of_calm (F := F) hc1)
    clear hv hc1
    obtain ⟨E1, hE1⟩ : ∃ E, D = E := ⟨_, rfl⟩
    rw [hE1] at H1
    have hcl := box (show cleared D whead = (0, E1) by rw [hcl.out, hE1])
    clear hE1
    obtain ⟨F1, hF1⟩ : ∃ G, F = G := ⟨_, rfl⟩
    rw [hF1] at H1
    have S1 : Box (Step F w F1 w1) := by rw [hF1] at S1 ⊢; exact S1
    clear hF1
    go_wp2_with fail
    refine (Create_ok wslots w1 H1.out).mono ?_
    rintro e w2 ⟨b, hb, h2⟩
    obtain ⟨⟨r2, E2⟩, hr2⟩ : ∃ r, E1.create wslots b = r := ⟨_, rfl⟩
    obtain ⟨rfl, F2, h2, hs2⟩ := h2.at hr2
    have H2 := box h2
    have S2 := box (S1.out.trans hs2)
    have Hr2 := box hr2
    have Hb := box (show w.heap.size ≤ b from Nat.le_trans S1.out.keeps.size hb)
    clear h2 hs2 hb hr2
    rcases err_cases r2 with rfl | ⟨x1, x2, x3⟩
    · obtain ⟨hmk, hcv⟩ := made_string w2 96 96 rfl (by decide)
      have hcm := box ((Calm.refl w2).alloc (.cells (madeCells #[Value.int .u8 0] 96) 5))
      go_wp2_with fail
      refine (Write_ok wslots (noughts 96) 0 _ (H2.out.calm hcm.out) (by omega) (by decide)).mono ?_
      intro e w3 h3
      obtain ⟨⟨r3, E3⟩, hr3⟩ : ∃ r, E2.write wslots 0 (noughts 96) = r := ⟨_, rfl⟩
      obtain ⟨rfl, F3, h3, hs3⟩ := h3.at hr3
      have H3 := box h3
      have S3 := box ((S2.out.calm hcm.out).trans hs3)
      have hw := box (show wnew D b = (r3, E3) by unfold wnew; rw [hcl.out]; simp only [ne_eq, not_true, if_false]; rw [Hr2.out]; simp only [not_true, if_false]; exact hr3)
      clear h3 hs3 hr3 hmk hcv
      rcases err_cases r3 with rfl | ⟨x1, x2, x3⟩
      · have hnew := box (heap_new w3 (.cells #[ptrTo p, .int .i64 t] 137))
        go_wp2_with fail
        go_ret2
        refine ⟨b, _, F3, Hb.out, ret_tup2 rfl (by rw [hw.out]; rfl), by rw [hw.out]; exact H3.out.calm ((Calm.refl w3).alloc _), S3.out.calm ((Calm.refl w3).alloc _), .inl ⟨by rw [hw.out], w3.heap.size, rfl, hnew.out, S3.out.keeps.size, fun hf => ?_⟩⟩
        have := H3.out.foot_lt _ hf
        omega
      · go_wp2_with fail
        go_ret2
        exact ⟨b, _, F3, Hb.out, ret_tup2 rfl (by rw [hw.out]; rfl), by rw [hw.out]; exact H3.out, S3.out, .inr ⟨by rw [hw.out]; exact x3.out, rfl⟩⟩
    · have hw := box (show wnew D b = (r2, E2) by unfold wnew; rw [hcl.out]; simp only [ne_eq, not_true, if_false]; rw [Hr2.out]; simp only [x3.out, not_false_eq_true, if_true])
      go_wp2_with fail
      go_ret2
      exact ⟨b, _, F2, Hb.out, ret_tup2 rfl (by rw [hw.out]; rfl), by rw [hw.out]; exact H2.out.mono (by omega), S2.out, .inr ⟨by rw [hw.out]; exact x3.out, rfl⟩⟩
  | cons x l =>
    have hcl0 := box (show cleared D whead = D.delete (x :: l) by rw [hclr.out, if_neg (by simp)])
    have hlen : (x :: l).length = l.length + 1 := rfl
    go_enter Try.func43, Try.ntmps43
    go_wp2_with fail
    refine hlist.out.mono ?_
    rintro e w0 ⟨v, rfl, hv, hc1, hfr⟩
    obtain ⟨la, lcap, rfl, _⟩ := hv.uni
    have Hv := box hv
    have H0 := box (H.out.calm hc1)
    have S0 := box (Step.of_calm (F := F) hc1)
    have hap := box (show Apart (.slice la (x :: l).length lcap) F from fun a n' c' e _ hf => by
      have := hfr a n' c' e
      have := H.out.foot_lt _ hf
      omega)
    clear hv hc1 hfr
    rw [hlen]
    go_wp2_with fail
    refine (Delete_ok (.slice la (l.length + 1) lcap) (x :: l) w0 H0.out (by omega) Hv.out hap.out (by have := Hnl.out; omega)).mono ?_
    intro e w1 h1
    obtain ⟨⟨r1, E1⟩, hr1⟩ : ∃ r, D.delete (x :: l) = r := ⟨_, rfl⟩
    obtain ⟨rfl, F1, h1, hs1⟩ := h1.at hr1
    have H1 := box h1
    have S1 := box (S0.out.trans hs1)
    have hcl1 := box (hcl0.out.trans hr1)
    clear h1 hs1 hr1
    rcases err_cases r1 with rfl | ⟨y1, y2, y3⟩
    · have hcl := hcl1
      go_wp2_with fail
      refine (Create_ok wslots w1 H1.out).mono ?_
      rintro e w2 ⟨b, hb, h2⟩
      obtain ⟨⟨r2, E2⟩, hr2⟩ : ∃ r, E1.create wslots b = r := ⟨_, rfl⟩
      obtain ⟨rfl, F2, h2, hs2⟩ := h2.at hr2
      have H2 := box h2
      have S2 := box (S1.out.trans hs2)
      have Hr2 := box hr2
      have Hb := box (show w.heap.size ≤ b from Nat.le_trans S1.out.keeps.size hb)
      clear h2 hs2 hb hr2
      rcases err_cases r2 with rfl | ⟨x1, x2, x3⟩
      · obtain ⟨hmk, hcv⟩ := made_string w2 96 96 rfl (by decide)
        have hcm := box ((Calm.refl w2).alloc (.cells (madeCells #[Value.int .u8 0] 96) 5))
        go_wp2_with fail
        refine (Write_ok wslots (noughts 96) 0 _ (H2.out.calm hcm.out) (by omega) (by decide)).mono ?_
        intro e w3 h3
        obtain ⟨⟨r3, E3⟩, hr3⟩ : ∃ r, E2.write wslots 0 (noughts 96) = r := ⟨_, rfl⟩
        obtain ⟨rfl, F3, h3, hs3⟩ := h3.at hr3
        have H3 := box h3
        have S3 := box ((S2.out.calm hcm.out).trans hs3)
        have hw := box (show wnew D b = (r3, E3) by unfold wnew; rw [hcl.out]; simp only [ne_eq, not_true, if_false]; rw [Hr2.out]; simp only [not_true, if_false]; exact hr3)
        clear h3 hs3 hr3 hmk hcv
        rcases err_cases r3 with rfl | ⟨x1, x2, x3⟩
        · have hnew := box (heap_new w3 (.cells #[ptrTo p, .int .i64 t] 137))
          go_wp2_with fail
          go_ret2
          refine ⟨b, _, F3, Hb.out, ret_tup2 rfl (by rw [hw.out]; rfl), by rw [hw.out]; exact H3.out.calm ((Calm.refl w3).alloc _), S3.out.calm ((Calm.refl w3).alloc _), .inl ⟨by rw [hw.out], w3.heap.size, rfl, hnew.out, S3.out.keeps.size, fun hf => ?_⟩⟩
          have := H3.out.foot_lt _ hf
          omega
        · go_wp2_with fail
          go_ret2
          exact ⟨b, _, F3, Hb.out, ret_tup2 rfl (by rw [hw.out]; rfl), by rw [hw.out]; exact H3.out, S3.out, .inr ⟨by rw [hw.out]; exact x3.out, rfl⟩⟩
      · have hw := box (show wnew D b = (r2, E2) by unfold wnew; rw [hcl.out]; simp only [ne_eq, not_true, if_false]; rw [Hr2.out]; simp only [x3.out, not_false_eq_true, if_true])
        go_wp2_with fail
        go_ret2
        exact ⟨b, _, F2, Hb.out, ret_tup2 rfl (by rw [hw.out]; rfl), by rw [hw.out]; exact H2.out.mono (by omega), S2.out, .inr ⟨by rw [hw.out]; exact x3.out, rfl⟩⟩
    · have hw := box (show ∀ b, wnew D b = (r1, E1) by intro b; unfold wnew; rw [hcl1.out]; simp only [ne_eq, y3.out, not_false_eq_true, if_true])
      go_wp2_with fail
      go_ret2
      exact ⟨w.heap.size, _, F1, Nat.le_refl _, ret_tup2 rfl (by rw [hw.out]; rfl), by rw [hw.out]; exact H1.out.mono (by omega), S1.out, .inr ⟨by rw [hw.out]; exact y3.out, rfl⟩⟩
end Go.Proofs.Ytjfiglkclpddaaa.wh

/- Layer 15: a wheel's slots and its hand. -/
namespace Go.Proofs.Ytjfiglkclpddaaa.wh
open Go.ChangeShapes Go.WideShapes Go.ChangeAt Go.RowKit
open Go.Proofs.Ytjfiglkclpddaaa.dk Go.Proofs.Ytjfiglkclpddaaa.oc

theorem _root_.Go.Proofs.Ytjfiglkclpddaaa.Step.apart {F F' : Nat → Prop} {w w' : World} (s : Step F w F' w') {q : Nat} (hq : ¬ F q) (lt : q < w.heap.size) : ¬ F' q := fun h => by
  rcases s.foot q h with h | h
  · exact hq h
  · omega

def slotBad (s : Int) : Bool := decide (s < 0) || decide (16 ≤ s)
theorem bars_any (q p : Nat) (t s : Int) (w : World) (h : WheelAt w q p t) : Calls Try.prog 99 #[ptrTo q, .int .i64 s] w fun e w' => e = .returned (.int .i64 (if slotBad s then 2 else 0)) ∧ w = w' := by
  clear h
  by_cases h1 : s < 0
  · have hb : slotBad s = true := by unfold slotBad; rw [decide_eq_true h1]; rfl
    rw [hb]
    clear hb
    go_enter Try.func99, Try.ntmps99
    go_wp2
    go_ret
    exact ⟨rfl, rfl⟩
  · by_cases h2 : 16 ≤ s
    · have hb : slotBad s = true := by unfold slotBad; rw [decide_eq_true h2]; simp
      rw [hb]
      clear hb
      go_enter Try.func99, Try.ntmps99
      go_wp2
      go_ret
      exact ⟨rfl, rfl⟩
    · have hb : slotBad s = false := by unfold slotBad; rw [decide_eq_false h1, decide_eq_false h2]; rfl
      rw [hb]
      clear hb
      go_enter Try.func99, Try.ntmps99
      go_wp2
      go_ret
      exact ⟨rfl, rfl⟩
theorem barsNil_any (s : Int) (w : World) : Calls Try.prog 99 #[.pointer none, .int .i64 s] w fun e w' => e = .returned (.int .i64 1) ∧ w = w' := by
  go_enter Try.func99, Try.ntmps99
  go_wp2
  go_ret
  exact ⟨rfl, rfl⟩

/-- A slot's last mark, and the error's number. -/
def whd (D : DiskS) (s : Int) : Int × Int :=
  if slotBad s then (0, 2) else if (D.read wslots (6 * s) 6).2 ≠ 0 then (0, (D.read wslots (6 * s) 6).2) else (((⟨(D.read wslots (6 * s) 6).1, 0⟩ : Rdr).num 6).1, 0)
theorem read_size {D : DiskS} (hg : dk.Good D) (s : ByteArray) (k m : Int) : (D.read s k m).1.size ≤ 16777216 := by
  have := all_le hg s
  unfold DiskS.read
  split; exact Nat.zero_le _
  split; exact Nat.zero_le _
  simp only [ByteArray.size_extract]
  omega
set_option maxRecDepth 100000 in
set_option maxHeartbeats 2000000 in
theorem Head_any {p n : Nat} {D : DiskS} {F : Nat → Prop} (q : Nat) (t s : Int) (w : World) (h : DiskOk w p D F n) (hq : WheelAt w q p t) :
    Calls Try.prog 73 #[ptrTo q, .int .i64 s] w fun e w' => e = .returned (.tuple #[.int .i64 (whd D s).1, .int .i64 (whd D s).2]) ∧ Calm w w' := by
  have hb := box (bars_any q p t s w hq)
  obtain ⟨c0, c1, f0, f1, hlt⟩ := hq.cells
  cases hsb : slotBad s
  · have hs : 0 ≤ s ∧ s < 16 := by unfold slotBad at hsb; simp at hsb; omega
    obtain ⟨hs0, hs1⟩ := hs
    have hr := box (show whd D s = if (D.read wslots (6 * s) 6).2 ≠ 0 then (0, (D.read wslots (6 * s) 6).2) else (((⟨(D.read wslots (6 * s) 6).1, 0⟩ : Rdr).num 6).1, 0) by unfold whd; rw [hsb]; simp)
    rw [hsb] at hb
    have hrd := box (Read_ok wslots (6 * s) 6 w h)
    have hsz := box (read_size h.good wslots (6 * s) 6)
    obtain ⟨⟨x, y⟩, hxy⟩ : ∃ r, D.read wslots (6 * s) 6 = r := ⟨_, rfl⟩
    rw [hxy] at hr hrd hsz
    clear h hq hsb hxy
    rcases err_cases y with rfl | ⟨x1, x2, x3⟩
    · have hr := box (show whd D s = (((⟨x, 0⟩ : Rdr).num 6).1, 0) by rw [hr.out]; simp)
      rw [hr.out]
      go_enter Try.func73, Try.ntmps73
      go_wp2_with fail
      refine hb.out.mono ?_
      rintro e w1 ⟨rfl, rfl⟩
      go_wp2_with fail
      refine hrd.out.mono ?_
      rintro e w1 ⟨rfl, hc1⟩
      have Hc1 := box hc1
      clear hc1
      go_wp2_with fail
      refine (oc.New_any x w1).mono ?_
      rintro e w2 ⟨b, hb2, rfl, hR, hc2⟩
      have HR := box hR
      have Hc2 := box hc2
      have Hb2 := box hb2
      clear hR hc2 hb2
      go_wp2_with fail
      refine (RNum_any b ⟨x, 0⟩ 6 w2 HR.out (by have := hsz.out; simp only at this ⊢; omega)).mono ?_
      rintro e w3 ⟨rfl, _, hk⟩
      have Hk := box hk
      clear hk
      go_wp2_with fail
      go_ret2
      exact ⟨rfl, Below.trans (Hc1.out.trans Hc2.out) (Hk.out.below (Hc1.out.trans Hc2.out).size (fun x e => by have := Hb2.out; have := Hc1.out.size; omega))⟩
    · have hr := box (show whd D s = (0, y) by rw [hr.out]; simp only [ne_eq, x3.out, not_false_eq_true, if_true])
      rw [hr.out]
      go_enter Try.func73, Try.ntmps73
      go_wp2_with fail
      refine hb.out.mono ?_
      rintro e w1 ⟨rfl, rfl⟩
      go_wp2_with fail
      refine hrd.out.mono ?_
      rintro e w1 ⟨rfl, hc1⟩
      have Hc1 := box hc1
      clear hc1
      go_wp2_with fail
      go_ret2
      exact ⟨rfl, Hc1.out⟩
  · have hr := box (show whd D s = (0, 2) by unfold whd; rw [hsb]; rfl)
    rw [hr.out]
    rw [hsb] at hb
    clear h hq hsb
    go_enter Try.func73, Try.ntmps73
    go_wp2_with fail
    refine hb.out.mono ?_
    rintro e w1 ⟨rfl, rfl⟩
    go_wp2_with fail
    go_ret2
    exact ⟨rfl, .refl _⟩

/-- A slot's mark is set. -/
def wset (D : DiskS) (s n : Int) : Int × DiskS := if slotBad s then (2, D) else if fitsN 6 n then D.write wslots (6 * s) ⟨(low 6 n.toNat).toArray⟩ else (1, D)
theorem num6 (n : Int) : numB 6 [n] = if fitsN 6 n then (⟨(low 6 n.toNat).toArray⟩, 0) else (⟨#[]⟩, 2) := by
  unfold numB
  rw [if_neg (by decide)]
  simp [lowN]
set_option maxRecDepth 100000 in
set_option maxHeartbeats 4000000 in
theorem Set_any {p n : Nat} {D : DiskS} {F : Nat → Prop} (q : Nat) (t s m : Int) (w : World) (h : DiskOk w p D F n) (hn : n ≤ 999999) (hq : WheelAt w q p t) (hF : ¬ F q) (hm : -9223372036854775808 ≤ m ∧ m ≤ 9223372036854775807) :
    Calls Try.prog 75 #[ptrTo q, .int .i64 s, .int .i64 m] w (OkDone (wset D s m) p F (n + 1) w) := by
  have hb := box (bars_any q p t s w hq)
  obtain ⟨c0, c1, f0, f1, hlt⟩ := hq.cells
  have H := box h
  cases hsb : slotBad s
  · have hs : 0 ≤ s ∧ s < 16 := by unfold slotBad at hsb; simp at hsb; omega
    obtain ⟨hs0, hs1⟩ := hs
    have hr := box (show wset D s m = if fitsN 6 m then D.write wslots (6 * s) ⟨(low 6 m.toNat).toArray⟩ else (1, D) by unfold wset; rw [hsb]; rfl)
    have hcalm := box ((Calm.refl w).alloc (.cells #[.int .i64 m] 3))
    have hnum := box (Num_any 6 (some ⟨w.heap.size, 0, none⟩) 1 [m] (w.alloc (.cells #[.int .i64 m] 3)) (fun k hk => ⟨w.heap.size, 0, rfl, by simp, by
      have : k = 0 := by simpa using hk
      subst this
      exact cell_of (heap_new w _) 0⟩) (by simp) (fun x hx => by rw [List.mem_singleton] at hx; subst hx; exact hm))
    rw [num6] at hnum
    rw [hsb] at hb
    clear h hq hsb
    cases hf : fitsN 6 m
    · have hr := box (show wset D s m = (1, D) by rw [hr.out, hf]; rfl)
      rw [hf] at hnum
      clear hf
      go_enter Try.func75, Try.ntmps75
      go_wp2_with fail
      refine hb.out.mono ?_
      rintro e w1 ⟨rfl, rfl⟩
      go_wp2_with fail
      refine hnum.out.mono ?_
      rintro e w2 ⟨rfl, hc2⟩
      have Hc2 := box (hcalm.out.trans hc2)
      clear hc2
      go_wp2_with fail
      go_ret
      exact ⟨ret_int (by rw [hr.out]), F, by rw [hr.out]; exact (H.out.calm Hc2.out).mono (by omega), Step.of_calm Hc2.out⟩
    · have hr := box (show wset D s m = D.write wslots (6 * s) ⟨(low 6 m.toNat).toArray⟩ by rw [hr.out, hf]; rfl)
      rw [hf] at hnum
      clear hf
      go_enter Try.func75, Try.ntmps75
      go_wp2_with fail
      refine hb.out.mono ?_
      rintro e w1 ⟨rfl, rfl⟩
      go_wp2_with fail
      refine hnum.out.mono ?_
      rintro e w2 ⟨rfl, hc2⟩
      have e0 := (hc2.cell (p := ⟨q, 0, none⟩) (by simp; omega)).trans ((hcalm.out.cell (p := ⟨q, 0, none⟩) hlt).trans c0)
      have hlt2 := Nat.lt_of_lt_of_le hlt (Nat.le_trans hcalm.out.size hc2.size)
      have Hc2 := box (hcalm.out.trans hc2)
      clear hc2
      go_wp2_with fail
      refine (Write_ok wslots ⟨(low 6 m.toNat).toArray⟩ (6 * s) w2 (H.out.calm Hc2.out) (by omega) (by rw [low_size]; decide)).mono ?_
      rintro e w3 ⟨rfl, F3, h3, hs3⟩
      have H3 := box h3
      have Hs3 := box hs3
      clear h3 hs3
      go_wp2_with fail
      go_ret
      exact ⟨ret_int (by rw [hr.out]), F3, by rw [hr.out]; exact H3.out, Step.calm_left Hc2.out Hs3.out⟩
  · have hr := box (show wset D s m = (2, D) by unfold wset; rw [hsb]; rfl)
    rw [hsb] at hb
    clear h hq hsb
    go_enter Try.func75, Try.ntmps75
    go_wp2_with fail
    refine hb.out.mono ?_
    rintro e w1 ⟨rfl, rfl⟩
    go_wp2_with fail
    go_ret
    exact ⟨ret_int (by rw [hr.out]), F, by rw [hr.out]; exact H.out.mono (by omega), .refl _ _⟩

/-- The hand goes on. -/
def turned (t now : Int) : Int × Bool × Int := if now ≤ t then (0, false, t) else (t + 1, true, t + 1)
theorem handTurn_any (q p : Nat) (t now : Int) (w : World) (h : WheelAt w q p t) (ht : 0 ≤ t ∧ t ≤ 9000000000000000000) :
    Calls Try.prog 76 #[.pointer (some ⟨q, 1, none⟩), .int .i64 now] w fun e w' => e = .returned (.tuple #[.int .i64 (turned t now).1, .bool (turned t now).2.1]) ∧ WheelAt w' q p (turned t now).2.2 ∧ Keeps (· = q) w w' := by
  obtain ⟨c0, c1, f0, f1, hlt⟩ := h.cells
  have H := box h
  clear h
  obtain ⟨ht0, ht1⟩ := ht
  by_cases hn : now ≤ t
  · have hr : turned t now = (0, false, t) := by unfold turned; rw [if_pos hn]
    rw [hr]
    clear hr
    go_enter Try.func76, Try.ntmps76
    go_wp2
    go_ret2
    exact ⟨rfl, H.out, .refl _ _⟩
  · have hr : turned t now = (t + 1, true, t + 1) := by unfold turned; rw [if_neg hn]
    rw [hr]
    clear hr
    go_enter Try.func76, Try.ntmps76
    go_wp2
    go_ret2
    refine ⟨rfl, ?_, (Keeps.refl (fun x => x = q) w).setCell (p := ⟨q, 1, none⟩) (.inl rfl) _⟩
    have := heap_set H.out 1 (.int .i64 (t + 1))
    exact this
theorem Turn_any (q p : Nat) (t now : Int) (w : World) (h : WheelAt w q p t) (ht : 0 ≤ t ∧ t ≤ 9000000000000000000) :
    Calls Try.prog 45 #[ptrTo q, .int .i64 now] w fun e w' => e = .returned (.tuple #[.int .i64 (turned t now).1, .bool (turned t now).2.1]) ∧ WheelAt w' q p (turned t now).2.2 ∧ Keeps (· = q) w w' := by
  have hh := box (handTurn_any q p t now w h ht)
  clear h
  go_enter Try.func45, Try.ntmps45
  go_wp2_with fail
  refine hh.out.mono ?_
  rintro e w1 ⟨rfl, h1, hk⟩
  have H1 := box h1
  have Hk := box hk
  clear h1 hk
  go_wp2_with fail
  go_ret2
  exact ⟨rfl, H1.out, Hk.out⟩
theorem Hand_any (q p : Nat) (t : Int) (w : World) (h : WheelAt w q p t) : Calls Try.prog 48 #[ptrTo q] w fun e w' => e = .returned (.int .i64 t) ∧ w = w' := by
  obtain ⟨c0, c1, f0, f1, hlt⟩ := h.cells
  clear h
  go_enter Try.func48, Try.ntmps48
  go_wp2
  go_ret
  exact ⟨rfl, rfl⟩
end Go.Proofs.Ytjfiglkclpddaaa.wh

/- The contracts of package name and of reveilleref03. Strings are of at most 2^62 bytes where a bound is wanted. -/
namespace Go.Proofs.Ytjfiglkclpddaaa.nm
open Go.ChangeShapes Go.WideShapes Go.ChangeAt Go.RowKit

def signN (c : Nat) : Bool := (decide (97 ≤ c) && decide (c ≤ 122)) || (decide (48 ≤ c) && decide (c ≤ 57)) || decide (c = 45)
def signB (c : UInt8) : Bool := signN c.toNat
def plainL (l : List UInt8) : Bool := decide (1 ≤ l.length) && decide (l.length ≤ 16) && l.all signB
def plainB (s : ByteArray) : Bool := plainL s.data.toList
def groupL (l : List UInt8) : Bool := plainL l && decide (l.length ≤ 8)
def groupB (s : ByteArray) : Bool := groupL s.data.toList

theorem sign_true {c : Nat} (h : (97 ≤ c ∧ c ≤ 122) ∨ (48 ≤ c ∧ c ≤ 57) ∨ c = 45) : signN c = true := by
  simp [signN]; omega
theorem sign_false {c : Nat} (h : ¬ ((97 ≤ c ∧ c ≤ 122) ∨ (48 ≤ c ∧ c ≤ 57) ∨ c = 45)) : signN c = false := by
  simp [signN]; omega

set_option maxHeartbeats 1000000 in
theorem sign_any (r : Nat) (w : World) :
    Calls Try.prog 92 #[.int .i32 (r : Int)] w fun e w' => e = .returned (.bool (signN r)) ∧ w = w' := by
  go_enter Try.func92, Try.ntmps92
  go_wp2
  all_goals
    go_ret
    refine ⟨ret_bool ?_, rfl⟩
    by_cases hz : (r : Int) = 45 <;> first
      | (rw [sign_true (by omega)]; done)
      | (rw [sign_false (by omega)]; done)
      | (rw [sign_true (by omega)]; simp [hz]; done)
      | (rw [sign_false (by omega)]; simp [hz]; done)
      | (rw [sign_true (by omega)]; simp [hz]; omega)
      | (rw [sign_false (by omega)]; simp [hz]; omega)

theorem notsign_any (r : Nat) (w : World) :
    Calls Try.prog 91 #[.int .i32 (r : Int)] w fun e w' => e = .returned (.bool (!signN r)) ∧ w = w' := by
  go_enter Try.func91, Try.ntmps91
  go_wp2_with (go_at_call 92; refine (sign_any _ _).mono ?_; rintro e w' ⟨rfl, rfl⟩)
  go_ret
  exact ⟨rfl, rfl⟩

theorem notsign_at (w : World) : PredAt Try.prog 91 #[] encR (fun r => !signN r) w := by
  intro W r _
  exact (notsign_any r W).mono fun e w' ⟨he, hw⟩ => ⟨he, 0, hw ▸ rfl⟩

/-! ### A text has no rune that is no sign just if it has no byte that is none -/
theorem decode_high (s : ByteArray) (i : Nat) (h : 128 ≤ (s.get! i).toNat) : 128 ≤ (Utf8.decode s i).1 := by
  rw [Lib.decode_at]
  unfold Lib.decodeN
  repeat' split
  all_goals first | omega | (simp only []; omega)
theorem get!_eq (s : ByteArray) (i : Nat) (h : i < s.size) : s.get! i = s[i] := by
  show s.data[i]! = _
  rw [getElem!_pos s.data i h]; rfl
theorem idx_sign (s : ByteArray) : ∀ (f pos : Nat), s.size ≤ pos + f → decide (Lib.idxFuncFrom (fun r => !signN r) true s f pos < 0) = (s.data.toList.drop pos).all signB
  | 0, pos, h => by
    have e : s.data.toList.drop pos = [] := List.drop_eq_nil_of_le (by simpa using h)
    simp [Lib.idxFuncFrom, e]
  | f + 1, pos, h => by
    unfold Lib.idxFuncFrom
    by_cases hp : pos < s.size
    · rw [if_pos hp]
      have hd : s.data.toList.drop pos = s[pos] :: s.data.toList.drop (pos + 1) := by
        rw [List.drop_eq_getElem_cons (by simpa using hp)]; rfl
      rw [hd, List.all_cons]
      by_cases hb : (s[pos]).toNat < 128
      · rw [decode_ascii s pos hp hb]
        by_cases hs : signB s[pos] = true
        · have hs' : signN s[pos].toNat = true := hs
          simp only [hs', hs, Bool.true_and]
          simpa using idx_sign s f (pos + 1) (by omega)
        · have hs1 : signB s[pos] = false := by simpa using hs
          have hs' : signN s[pos].toNat = false := hs1
          simp only [hs', hs1]
          simp
      · have h1 := decode_high s pos (by rw [get!_eq s pos hp]; omega)
        have h2 : signN (Utf8.decode s pos).1 = false := sign_false (by omega)
        have h3 : signB s[pos] = false := sign_false (by omega)
        simp only [h2, h3]
        simp
    · rw [if_neg hp]
      have e : s.data.toList.drop pos = [] := List.drop_eq_nil_of_le (by simp; omega)
      simp [e]
theorem idx_all (s : ByteArray) : decide (Lib.idxFunc (fun r => !signN r) true s < 0) = s.data.toList.all signB := by
  have := idx_sign s s.size 0 (by omega)
  rw [List.drop_zero] at this
  exact this

theorem plain_empty (s : ByteArray) (h : s.size = 0) : plainB s = false := by simp [plainB, plainL, h]
theorem plain_long (s : ByteArray) (h : 16 < s.size) : plainB s = false := by simp [plainB, plainL]; omega
theorem plain_mid (s : ByteArray) (h : 1 ≤ s.size) (h2 : s.size ≤ 16) : plainB s = s.data.toList.all signB := by
  simp [plainB, plainL, h2]; omega

theorem Plain_any (s : ByteArray) (w : World) :
    Calls Try.prog 60 #[.string s] w fun e w' => e = .returned (.bool (plainB s)) ∧ Calm w w' := by
  have hc : ∀ W, Calls Try.prog 90 #[.string s, .func (.func 91) #[] #[]] W fun e w' => e = .returned (.int .i64 (Lib.idxFunc (fun r => !signN r) true s)) ∧ Below W.heap.size W w' :=
    fun W => Try.strings_IndexFunc 91 #[] (enters_of Try.func91 (by kernel_rfl) rfl) _ s W (notsign_at W)
  have hi := idx_all s
  obtain ⟨I, hI⟩ : ∃ I, Lib.idxFunc (fun r => !signN r) true s = I := ⟨_, rfl⟩
  rw [hI] at hi
  simp only [hI] at hc
  have Hc := box hc
  clear hc
  by_cases h0 : s.size = 0
  · have : s.toList = [] := by rw [Lib.toList_data]; exact List.eq_nil_of_length_eq_zero (by simpa using h0)
    rw [plain_empty s h0]
    go_enter Try.func60, Try.ntmps60
    go_wp2
    go_ret
    exact ⟨ret_bool (by simp), Calm.refl _⟩
  · have h1 : (s.toList).isEmpty = false := by
      rw [Lib.toList_data, List.isEmpty_eq_false_iff]; intro h; apply h0; simpa using congrArg List.length h
    by_cases h2 : s.size ≤ 16
    · rw [plain_mid s (by omega) h2, ← hi]
      clear hI hi
      go_enter Try.func60, Try.ntmps60
      go_wp2_with (go_at_call 90; refine (Hc.out _).mono ?_; rintro e w' ⟨rfl, hb⟩)
      go_ret
      exact ⟨ret_bool (by simp), by assumption⟩
    · rw [plain_long s (by omega)]
      clear hI hi
      go_enter Try.func60, Try.ntmps60
      go_wp2_with (go_at_call 90; refine (Hc.out _).mono ?_; rintro e w' ⟨rfl, hb⟩)
      go_ret
      exact ⟨ret_bool (by simp), Calm.refl _⟩

theorem Group_any (s : ByteArray) (w : World) :
    Calls Try.prog 89 #[.string s] w fun e w' => e = .returned (.bool (groupB s)) ∧ Calm w w' := by
  cases hp : plainB s
  · have hg : groupB s = false := by unfold groupB groupL; rw [show plainL s.data.toList = false from hp]; rfl
    rw [hg]
    clear hg
    go_enter Try.func89, Try.ntmps89
    go_wp2_with (go_at_call 60; refine (Plain_any _ _).mono ?_; rintro e w' ⟨rfl, hb⟩)
    go_ret
    exact ⟨rfl, by assumption⟩
  · have hg : groupB s = decide ((s.size : Int) ≤ 8) := by
      unfold groupB groupL; rw [show plainL s.data.toList = true from hp]; simp; omega
    rw [hg]
    clear hg
    go_enter Try.func89, Try.ntmps89
    go_wp2_with (go_at_call 60; refine (Plain_any _ _).mono ?_; rintro e w' ⟨rfl, hb⟩)
    go_ret
    exact ⟨rfl, by assumption⟩

def ownS (h g : ByteArray) : ByteArray := if groupB g then h ++ g else ⟨#[]⟩
abbrev retryC : ByteArray := ⟨#[37, 114, 101, 116, 114, 121, 37]⟩
abbrev deadC : ByteArray := ⟨#[37, 100, 101, 97, 100, 37]⟩

def hasS (s h : ByteArray) : Bool := Lib.hasPrefix s.data.toList h.data.toList
def cutS (s h : ByteArray) : ByteArray := ⟨(Lib.trimPrefix s.data.toList h.data.toList).toArray⟩
def hitS (s h : ByteArray) : Bool := hasS s h && groupB (cutS s h)
def ofG (s : ByteArray) : ByteArray := if hitS s retryC then cutS s retryC else if hitS s deadC then cutS s deadC else ⟨#[]⟩
def ofOk (s : ByteArray) : Bool := hitS s retryC || hitS s deadC
theorem three (s h : ByteArray) : (hitS s h = false ∧ hasS s h = false) ∨ (hitS s h = false ∧ hasS s h = true ∧ groupB (cutS s h) = false) ∨ (hitS s h = true ∧ hasS s h = true ∧ groupB (cutS s h) = true) := by
  unfold hitS
  cases hasS s h <;> cases groupB (cutS s h) <;> simp
theorem Cut_any (s h : ByteArray) (w : World) :
    Calls Try.prog 88 #[.string s, .string h] w fun e w' => e = .returned (.tuple #[.string (cutS s h), .bool (hasS s h)]) ∧ w = w' :=
  (Try.strings_CutPrefix s h w).mono fun e w' ⟨he, hw⟩ => ⟨he, hw.symm⟩



set_option maxHeartbeats 1000000 in
theorem Of_any (s : ByteArray) (w : World) :
    Calls Try.prog 59 #[.string s] w fun e w' => e = .returned (.tuple #[.string (ofG s), .bool (ofOk s)]) ∧ Calm w w' := by
  rcases three s retryC with ⟨h0, h1⟩ | ⟨h0, h1, h2⟩ | ⟨h0, h1, h2⟩
  · rcases three s deadC with ⟨g0, g1⟩ | ⟨g0, g1, g2⟩ | ⟨g0, g1, g2⟩
    all_goals
      have e1 : ofG s = if hitS s deadC then cutS s deadC else ⟨#[]⟩ := by unfold ofG; rw [h0]; rfl
      have e2 : ofOk s = hitS s deadC := by unfold ofOk; rw [h0]; rfl
      rw [e1, e2, g0]
      clear e1 e2 h0 g0
      go_enter Try.func59, Try.ntmps59
      go_wp2
      refine wp_loop_rounds 3 ?_
      rw [rounds_succ]
      go_wp2_with (first | (go_at_call 88; refine (Cut_any _ retryC _).mono ?_; rintro e w' ⟨rfl, rfl⟩))
      rw [rounds_succ]
      go_wp2_with (first | (go_at_call 88; refine (Cut_any _ deadC _).mono ?_; rintro e w' ⟨rfl, rfl⟩) | (go_at_call 89; refine (Group_any _ _).mono ?_; rintro e w' ⟨rfl, hb⟩))
      try (rw [rounds_succ]; go_wp2)
      go_ret2
      refine ⟨rfl, ?_⟩
      (repeat' (first | (with_reducible exact Calm.refl _) | (with_reducible assumption) | (with_reducible refine Calm.drew ?_) | (with_reducible refine Calm.alloc ?_ _) | (with_reducible refine Calm.trans ?_ (by assumption))))
  · rcases three s deadC with ⟨g0, g1⟩ | ⟨g0, g1, g2⟩ | ⟨g0, g1, g2⟩
    all_goals
      have e1 : ofG s = if hitS s deadC then cutS s deadC else ⟨#[]⟩ := by unfold ofG; rw [h0]; rfl
      have e2 : ofOk s = hitS s deadC := by unfold ofOk; rw [h0]; rfl
      rw [e1, e2, g0]
      clear e1 e2 h0 g0
      go_enter Try.func59, Try.ntmps59
      go_wp2
      refine wp_loop_rounds 3 ?_
      rw [rounds_succ]
      go_wp2_with (first | (go_at_call 88; refine (Cut_any _ retryC _).mono ?_; rintro e w' ⟨rfl, rfl⟩) | (go_at_call 89; refine (Group_any _ _).mono ?_; rintro e w' ⟨rfl, hb⟩; obtain ⟨hbc, hbf⟩ := bcell hb))
      rw [rounds_succ]
      go_wp2_with (first | (go_at_call 88; refine (Cut_any _ deadC _).mono ?_; rintro e w' ⟨rfl, rfl⟩) | (go_at_call 89; refine (Group_any _ _).mono ?_; rintro e w' ⟨rfl, hb⟩))
      try (rw [rounds_succ]; go_wp2)
      go_ret2
      refine ⟨rfl, ?_⟩
      (repeat' (first | (with_reducible exact Calm.refl _) | (with_reducible assumption) | (with_reducible refine Calm.drew ?_) | (with_reducible refine Calm.alloc ?_ _) | (with_reducible refine Calm.trans ?_ (by assumption))))
  · have e1 : ofG s = cutS s retryC := by unfold ofG; rw [h0]; rfl
    have e2 : ofOk s = true := by unfold ofOk; rw [h0]; rfl
    rw [e1, e2]
    clear e1 e2 h0
    go_enter Try.func59, Try.ntmps59
    go_wp2
    refine wp_loop_rounds 3 ?_
    rw [rounds_succ]
    go_wp2_with (first | (go_at_call 88; refine (Cut_any _ retryC _).mono ?_; rintro e w' ⟨rfl, rfl⟩) | (go_at_call 89; refine (Group_any _ _).mono ?_; rintro e w' ⟨rfl, hb⟩))
    go_ret2
    refine ⟨rfl, ?_⟩
    (repeat' (first | (with_reducible exact Calm.refl _) | (with_reducible assumption) | (with_reducible refine Calm.drew ?_) | (with_reducible refine Calm.alloc ?_ _) | (with_reducible refine Calm.trans ?_ (by assumption))))



end Go.Proofs.Ytjfiglkclpddaaa.nm

/- The contracts of package name and of reveilleref03, continued: hashes, keys, tags, topics. -/
namespace Go.Proofs.Ytjfiglkclpddaaa.nm
open Go.ChangeShapes Go.WideShapes Go.ChangeAt Go.RowKit

def hashFrom (h : Nat) (l : List UInt8) : Nat := l.foldl (fun h c => (31 * h + c.toNat) % 4294967296) h
def hashL (l : List UInt8) : Nat := hashFrom 0 l
def flatS (l : List ByteArray) : List UInt8 := (l.map (·.data.toList)).flatten
theorem hashFrom_lt (h : Nat) (hh : h < 4294967296) (l : List UInt8) : hashFrom h l < 4294967296 := by
  induction l generalizing h with
  | nil => exact hh
  | cons c l ih => exact ih _ (Nat.mod_lt _ (by omega))
theorem hashFrom_append (h : Nat) (a b : List UInt8) : hashFrom h (a ++ b) = hashFrom (hashFrom h a) b := by simp [hashFrom]
theorem hashFrom_snoc (h : Nat) (s : ByteArray) (k : Nat) (hk : k < s.size) : hashFrom h (s.data.toList.take (k + 1)) = (31 * hashFrom h (s.data.toList.take k) + (s[k]).toNat) % 4294967296 := by
  rw [List.take_succ_eq_append_getElem (by simpa using hk), hashFrom_append]; rfl
theorem flatS_snoc (l : List ByteArray) (k : Nat) (hk : k < l.length) : flatS (l.take (k + 1)) = flatS (l.take k) ++ (l.getD k ByteArray.empty).data.toList := by
  rw [List.take_succ_eq_append_getElem hk]; unfold flatS; rw [List.map_append, List.flatten_append]; simp [List.getD_eq_getElem?_getD, List.getElem?_eq_getElem hk]

set_option maxHeartbeats 1000000 in
theorem Hash_any (v : Value) (l : List ByteArray) (w : World) (hv : StrsAt w v l) (hl : l.length ≤ 4294967296) (hs : ∀ s ∈ l, s.size ≤ maxLen) :
    Calls Try.prog 61 #[v] w fun e w' => e = .returned (.int .i64 (hashL (flatS l))) ∧ w = w' := by
  unfold maxLen at hs
  rcases hv with ⟨rfl, a, cap, rfl⟩ | ⟨b, off, cap, rfl, hc⟩
  · clear hs hl
    go_enter Try.func61, Try.ntmps61
    go_wp2
    refine wp_loop_rounds 1 ?_
    rw [rounds_succ]
    go_wp2
    go_ret
    exact ⟨rfl, rfl⟩
  · have Hs := box hs
    have Hc := box hc
    clear hs hc
    go_enter Try.func61, Try.ntmps61
    go_wp2
    go_loop [9, 3] (fun i h => ∃ k : Nat, k ≤ l.length ∧ i = .int .i64 k ∧ h = .int .u32 (hashL (flatS (l.take k)))) (fun i _ => l.length - (intOf i).toNat)
    case atStart => exact ⟨0, Nat.zero_le _, rfl, rfl⟩
    case round =>
      obtain ⟨k, hk, rfl, rfl⟩ := hrel
      have hb := hashFrom_lt 0 (by omega) (flatS (l.take k))
      by_cases hlt : k < l.length
      · have hcell := Hc.out k hlt
        have hsz : (l.getD k ByteArray.empty).size ≤ 9223372036854775807 := Hs.out _ (by rw [List.getD_eq_getElem?_getD, List.getElem?_eq_getElem hlt]; exact List.getElem_mem _)
        obtain ⟨s, hs⟩ : ∃ s, l.getD k ByteArray.empty = s := ⟨_, rfl⟩
        have hfl := flatS_snoc l k hlt
        rw [hs] at hcell hsz hfl
        have Hfl := box hfl
        clear hfl hs
        obtain ⟨h0, hh⟩ : ∃ h0, hashL (flatS (l.take k)) = h0 := ⟨_, rfl⟩
        have hb' : h0 < 4294967296 := hh ▸ hb
        rw [hh]
        have Hh := box hh
        clear hh hb
        go_wp2
        go_loop [15, 3] (fun i h => ∃ j : Nat, j ≤ s.size ∧ i = .int .i64 j ∧ h = .int .u32 (hashFrom h0 (s.data.toList.take j))) (fun i _ => s.size - (intOf i).toNat)
        case atStart => exact ⟨0, Nat.zero_le _, rfl, rfl⟩
        case round =>
          obtain ⟨j, hj, rfl, rfl⟩ := hrel
          have hb2 := hashFrom_lt h0 hb' (s.data.toList.take j)
          by_cases hjl : j < s.size
          · have hsn := box (hashFrom_snoc h0 s j hjl)
            obtain ⟨h1, hh1⟩ : ∃ h1, hashFrom h0 (s.data.toList.take j) = h1 := ⟨_, rfl⟩
            rw [hh1] at hb2 hsn ⊢
            have Hh1 := box hh1
            clear hh1
            go_wp2
            go_round
            case rel => 
              refine ⟨j + 1, by omega, by go_num, ?_⟩
              rw [hsn.out]
              exact val_int (by omega)
            case measure => simp [intOf]; omega
          · obtain rfl : j = s.size := by omega
            rw [List.take_of_length_le (by simp)] at hb2 ⊢
            go_wp2
            go_round
            case rel =>
              refine ⟨k + 1, by omega, by go_num, ?_⟩
              rw [Hfl.out]; unfold hashL; rw [hashFrom_append, ← Hh.out]; rfl
            case measure => simp [intOf]; omega
      · obtain rfl : k = l.length := by omega
        rw [List.take_length] at hb ⊢
        have hb3 : hashL (flatS l) < 4294967296 := hb
        go_wp2
        go_ret
        exact ⟨ret_int (by omega), rfl⟩

end Go.Proofs.Ytjfiglkclpddaaa.nm

/- The contracts of package name and of reveilleref03, continued. -/
namespace Go.Proofs.Ytjfiglkclpddaaa.nm
open Go.ChangeShapes Go.WideShapes Go.ChangeAt Go.RowKit

def topicB (s : ByteArray) : Bool := ofOk s || plainB s
def tagB (s : ByteArray) : Bool := decide (s.size = 0) || plainB s
def keyN (c : Nat) : Bool := decide (33 ≤ c) && decide (c ≤ 126)
def keyL (l : List UInt8) : Bool := decide (1 ≤ l.length) && decide (l.length ≤ 16) && l.all (fun c => keyN c.toNat)
def keyB (s : ByteArray) : Bool := keyL s.data.toList

theorem isEmpty_iff (s : ByteArray) : s.toList.isEmpty = decide (s.size = 0) := by
  rw [Lib.toList_data, Bool.eq_iff_iff, List.isEmpty_iff, decide_eq_true_iff, ← size_toList, List.length_eq_zero_iff]

set_option maxHeartbeats 1000000 in
theorem Topic_any (s : ByteArray) (w : World) :
    Calls Try.prog 31 #[.string s] w fun e w' => e = .returned (.bool (topicB s)) ∧ Calm w w' := by
  cases hp : ofOk s
  · have hg : topicB s = plainB s := by unfold topicB; rw [hp]; rfl
    rw [hg]
    clear hg
    go_enter Try.func31, Try.ntmps31
    go_wp2_with (first | (go_at_call 59; refine (Of_any _ _).mono ?_; rintro e w' ⟨rfl, hb⟩) | (go_at_call 60; refine (Plain_any _ _).mono ?_; rintro e w' ⟨rfl, hb⟩))
    go_ret
    refine ⟨ret_bool (by simp), ?_⟩
    (repeat' (first | (with_reducible exact Calm.refl _) | (with_reducible assumption) | (with_reducible refine Calm.drew ?_) | (with_reducible refine Calm.alloc ?_ _) | (with_reducible refine Calm.trans ?_ (by assumption))))
  · have hg : topicB s = true := by unfold topicB; rw [hp]; rfl
    rw [hg]
    clear hg
    go_enter Try.func31, Try.ntmps31
    go_wp2_with (first | (go_at_call 59; refine (Of_any _ _).mono ?_; rintro e w' ⟨rfl, hb⟩) | (go_at_call 60; refine (Plain_any _ _).mono ?_; rintro e w' ⟨rfl, hb⟩))
    go_ret
    refine ⟨ret_bool (by simp), ?_⟩
    (repeat' (first | (with_reducible exact Calm.refl _) | (with_reducible assumption) | (with_reducible refine Calm.drew ?_) | (with_reducible refine Calm.alloc ?_ _) | (with_reducible refine Calm.trans ?_ (by assumption))))

set_option maxHeartbeats 1000000 in
theorem Key_any (s : ByteArray) (w : World) (hs : s.size ≤ maxLen) :
    Calls Try.prog 32 #[.string s] w fun e w' => e = .returned (.bool (keyB s)) ∧ w = w' := by
  unfold maxLen at hs
  have hi := isEmpty_iff s
  by_cases h0 : s.size = 0
  · have hg : keyB s = false := by unfold keyB keyL; simp [h0]
    have h1 : s.toList = [] := by rw [Lib.toList_data]; exact List.eq_nil_of_length_eq_zero (by simpa using h0)
    rw [hg]
    clear hg hi h0
    go_enter Try.func32, Try.ntmps32
    go_wp2
    go_ret
    exact ⟨rfl, rfl⟩
  · have h1 : s.toList.isEmpty = false := by rw [hi]; simp [h0]
    clear hi
    by_cases h2 : 16 < s.size
    · have hg : keyB s = false := by unfold keyB keyL; simp; omega
      rw [hg]
      clear hg
      go_enter Try.func32, Try.ntmps32
      go_wp2
      go_ret
      exact ⟨rfl, rfl⟩
    · have hg := box (show keyB s = s.data.toList.all (fun c => keyN c.toNat) by unfold keyB keyL; simp; omega)
      go_enter Try.func32, Try.ntmps32
      go_wp2
      go_loop [13] (fun i => ∃ k : Nat, k ≤ s.size ∧ i = .int .i64 k ∧ (s.data.toList.take k).all (fun c => keyN c.toNat) = true) (fun i => s.size - (intOf i).toNat)
      case atStart => exact ⟨0, Nat.zero_le _, rfl, rfl⟩
      case round =>
        obtain ⟨k, hk, rfl, hall⟩ := hrel
        have Hall := box hall
        clear hall
        by_cases hlt : k < s.size
        · by_cases hb : 33 ≤ (s[k].toNat : Int) ∧ (s[k].toNat : Int) ≤ 126
          · have hn : keyN s[k].toNat = true := by simp [keyN]; omega
            have hs := box (all_snoc s k hlt (fun c => keyN c.toNat))
            obtain ⟨hb1, hb2⟩ := hb
            have Hn := box hn
            clear hn
            go_wp2
            go_round
            case rel => exact ⟨k + 1, by omega, by go_num, by rw [hs.out, Hall.out, Bool.true_and]; exact Hn.out⟩
            case measure => simp [intOf]; omega
          · have hn := box (all_no s k hlt (fun c => keyN c.toNat) (by simp [keyN]; omega))
            by_cases hb1 : (s[k].toNat : Int) < 33
            · go_wp2
              go_ret
              exact ⟨ret_bool (by rw [hg.out, hn.out]), rfl⟩
            · have hb2 : 126 < (s[k].toNat : Int) := by omega
              go_wp2
              go_ret
              exact ⟨ret_bool (by rw [hg.out, hn.out]), rfl⟩
        · have hn := box (all_take s k (by omega) (fun c => keyN c.toNat))
          go_wp2
          go_ret
          exact ⟨ret_bool (by rw [hg.out, ← hn.out, Hall.out]), rfl⟩

/-! ### package reveilleref03 -/
theorem rSign (c : UInt8) (h : (97 ≤ (c.toNat : Int) ∧ (c.toNat : Int) ≤ 122) ∨ (48 ≤ (c.toNat : Int) ∧ (c.toNat : Int) ≤ 57) ∨ (c.toNat : Int) = 45) : signB c = true := sign_true (by omega)
theorem rSign' (c : UInt8) (h : ¬ ((97 ≤ (c.toNat : Int) ∧ (c.toNat : Int) ≤ 122) ∨ (48 ≤ (c.toNat : Int) ∧ (c.toNat : Int) ≤ 57) ∨ (c.toNat : Int) = 45)) : signB c = false := sign_false (by omega)

set_option maxHeartbeats 1000000 in
theorem rPlain_any (s : ByteArray) (w : World) (hs : s.size ≤ maxLen) :
    Calls Try.prog 39 #[.string s] w fun e w' => e = .returned (.bool (plainB s)) ∧ w = w' := by
  unfold maxLen at hs
  go_enter Try.func39, Try.ntmps39
  go_wp2
  go_loop [3] (fun i => ∃ k : Nat, k ≤ s.size ∧ i = .int .i64 k ∧ (s.data.toList.take k).all signB = true) (fun i => s.size - (intOf i).toNat)
  case atStart => exact ⟨0, Nat.zero_le _, rfl, rfl⟩
  case round =>
    obtain ⟨k, hk, rfl, hall⟩ := hrel
    have Hall := box hall
    clear hall
    by_cases hlt : k < s.size
    · by_cases hc : (97 ≤ (s[k].toNat : Int) ∧ (s[k].toNat : Int) ≤ 122) ∨ (48 ≤ (s[k].toNat : Int) ∧ (s[k].toNat : Int) ≤ 57) ∨ (s[k].toNat : Int) = 45
      · have fin := box (show (s.data.toList.take (k + 1)).all signB = true by rw [all_snoc s k hlt signB, Hall.out, Bool.true_and]; exact rSign _ hc)
        rcases hc with ⟨c1, c2⟩ | ⟨c1, c2⟩ | c1
        · go_wp2
          go_round
          case rel => exact ⟨k + 1, by omega, by go_num, fin.out⟩
          case measure => simp [intOf]; omega
        · go_wp2
          go_round
          case rel => exact ⟨k + 1, by omega, by go_num, fin.out⟩
          case measure => simp [intOf]; omega
        · have c2 : ((s[k].toNat : Int) != 45) = false := by simp [c1]
          have C1 := box c1
          have c3 : (s[k].toNat : Int) ≤ 45 := by omega
          have c4 : 45 ≤ (s[k].toNat : Int) := by omega
          clear c1
          go_wp2
          go_round
          case rel => exact ⟨k + 1, by omega, by go_num, fin.out⟩
          case measure => simp [intOf]; omega
      · have fin := box (show plainB s = false by unfold plainB plainL; rw [all_no s k hlt signB (rSign' _ hc)]; simp)
        have c2 : ((s[k].toNat : Int) != 45) = true := by rw [bne_iff_ne]; omega
        go_wp2
        all_goals
          first
            | (go_ret; exact ⟨ret_bool (by rw [fin.out]), rfl⟩)
            | (exfalso; simp at *; omega)
    · have hn := box (all_take s k (by omega) signB)
      by_cases h1 : 1 ≤ (s.size : Int)
      · have hp := box (show plainB s = decide ((s.size : Int) ≤ 16) by unfold plainB plainL; rw [← hn.out, Hall.out, size_toList, Bool.and_true, decide_eq_true (by omega : 1 ≤ s.size), Bool.true_and]; exact decide_eq_decide.2 (by omega))
        go_wp2
        go_ret
        exact ⟨ret_bool (by rw [hp.out]), rfl⟩
      · have hp := box (plain_empty s (by omega))
        go_wp2
        go_ret
        exact ⟨ret_bool (by rw [hp.out]), rfl⟩

end Go.Proofs.Ytjfiglkclpddaaa.nm

/- The contracts of package name and of reveilleref03, continued. -/
namespace Go.Proofs.Ytjfiglkclpddaaa.nm
open Go.ChangeShapes Go.WideShapes Go.ChangeAt Go.RowKit

theorem rGroup_any (s : ByteArray) (w : World) (hs : s.size ≤ maxLen) :
    Calls Try.prog 71 #[.string s] w fun e w' => e = .returned (.bool (groupB s)) ∧ w = w' := by
  cases hp : plainB s
  · have hg : groupB s = false := by unfold groupB groupL; rw [show plainL s.data.toList = false from hp]; rfl
    rw [hg]
    clear hg
    go_enter Try.func71, Try.ntmps71
    go_wp2_with (go_at_call 39; refine (rPlain_any _ _ hs).mono ?_; rintro e w' ⟨rfl, rfl⟩)
    go_ret
    exact ⟨rfl, rfl⟩
  · have hg : groupB s = decide ((s.size : Int) ≤ 8) := by
      unfold groupB groupL; rw [show plainL s.data.toList = true from hp]; simp; omega
    rw [hg]
    clear hg
    go_enter Try.func71, Try.ntmps71
    go_wp2_with (go_at_call 39; refine (rPlain_any _ _ hs).mono ?_; rintro e w' ⟨rfl, rfl⟩)
    go_ret
    exact ⟨rfl, rfl⟩

theorem rKey_any (s : ByteArray) (w : World) (hs : s.size ≤ maxLen) :
    Calls Try.prog 16 #[.string s] w fun e w' => e = .returned (.bool (keyB s)) ∧ w = w' := by
  unfold maxLen at hs
  go_enter Try.func16, Try.ntmps16
  go_wp2
  go_loop [3] (fun i => ∃ k : Nat, k ≤ s.size ∧ i = .int .i64 k ∧ (s.data.toList.take k).all (fun c => keyN c.toNat) = true) (fun i => s.size - (intOf i).toNat)
  case atStart => exact ⟨0, Nat.zero_le _, rfl, rfl⟩
  case round =>
    obtain ⟨k, hk, rfl, hall⟩ := hrel
    have Hall := box hall
    clear hall
    by_cases hlt : k < s.size
    · by_cases hb : 33 ≤ (s[k].toNat : Int) ∧ (s[k].toNat : Int) ≤ 126
      · have hn : keyN s[k].toNat = true := by simp [keyN]; omega
        have hs := box (all_snoc s k hlt (fun c => keyN c.toNat))
        obtain ⟨hb1, hb2⟩ := hb
        have Hn := box hn
        clear hn
        go_wp2
        go_round
        case rel => exact ⟨k + 1, by omega, by go_num, by rw [hs.out, Hall.out, Bool.true_and]; exact Hn.out⟩
        case measure => simp [intOf]; omega
      · have hn := box (show keyB s = false by unfold keyB keyL; rw [all_no s k hlt (fun c => keyN c.toNat) (by simp [keyN]; omega)]; simp)
        by_cases hb1 : (s[k].toNat : Int) < 33
        · go_wp2
          go_ret
          exact ⟨ret_bool (by rw [hn.out]), rfl⟩
        · have hb2 : 126 < (s[k].toNat : Int) := by omega
          go_wp2
          go_ret
          exact ⟨ret_bool (by rw [hn.out]), rfl⟩
    · have hn := box (all_take s k (by omega) (fun c => keyN c.toNat))
      by_cases h1 : 1 ≤ (s.size : Int)
      · have hp := box (show keyB s = decide ((s.size : Int) ≤ 16) by unfold keyB keyL; rw [← hn.out, Hall.out, size_toList, Bool.and_true, decide_eq_true (by omega : 1 ≤ s.size), Bool.true_and]; exact decide_eq_decide.2 (by omega))
        go_wp2
        go_ret
        exact ⟨ret_bool (by rw [hp.out]), rfl⟩
      · have hp := box (show keyB s = false by unfold keyB keyL; rw [size_toList, decide_eq_false (by omega : ¬ 1 ≤ s.size)]; rfl)
        go_wp2
        go_ret
        exact ⟨ret_bool (by rw [hp.out]), rfl⟩

theorem rHash_any (s : ByteArray) (w : World) (hs : s.size ≤ maxLen) :
    Calls Try.prog 41 #[.string s] w fun e w' => e = .returned (.int .i64 (hashL s.data.toList)) ∧ w = w' := by
  unfold maxLen at hs
  go_enter Try.func41, Try.ntmps41
  go_wp2
  go_loop [3, 4] (fun h i => ∃ k : Nat, k ≤ s.size ∧ i = .int .i64 k ∧ h = .int .i64 (hashL (s.data.toList.take k))) (fun _ i => s.size - (intOf i).toNat)
  case atStart => exact ⟨0, Nat.zero_le _, rfl, rfl⟩
  case round =>
    obtain ⟨k, hk, rfl, rfl⟩ := hrel
    have hb : hashL (s.data.toList.take k) < 4294967296 := hashFrom_lt 0 (by omega) (s.data.toList.take k)
    by_cases hlt : k < s.size
    · have hsn := box (show hashL (s.data.toList.take (k + 1)) = _ from hashFrom_snoc 0 s k hlt)
      obtain ⟨h1, hh1⟩ : ∃ h1, hashL (s.data.toList.take k) = h1 := ⟨_, rfl⟩
      have hsn' := box (show hashL (s.data.toList.take (k + 1)) = (31 * h1 + (s[k]).toNat) % 4294967296 by rw [hsn.out, ← hh1]; rfl)
      rw [hh1] at hb ⊢
      clear hh1 hsn
      have hby : (s[k].toNat : Int) < 256 := by have := UInt8.toNat_lt s[k]; omega
      have hb' : (h1 : Int) < 4294967296 := by omega
      go_wp2
      go_round
      case rel => exact ⟨k + 1, by omega, by go_num, by rw [hsn'.out]; exact val_int (by omega)⟩
      case measure => simp [intOf]; omega
    · obtain rfl : k = s.size := by omega
      have he := box (show hashL (s.data.toList.take s.size) = hashL s.data.toList by rw [List.take_of_length_le (by simp)])
      go_wp2
      go_ret
      exact ⟨ret_int (by rw [he.out]), rfl⟩

theorem rHas_any (s h : ByteArray) (w : World) (hs : s.size ≤ maxLen) (hh : h.size ≤ 100) :
    Calls Try.prog 70 #[.string s, .string h] w fun e w' => e = .returned (.bool (hasS s h)) ∧ w = w' := by
  unfold maxLen at hs
  have hr := Lib.hasPrefix_raw s h
  by_cases h1 : h.size ≤ s.size
  · have hp := box (show hasS s h = ((s.extract 0 h.size).toList == h.toList) by unfold hasS; rw [← hr]; simp [h1])
    clear hr
    go_enter Try.func70, Try.ntmps70
    go_wp2
    go_ret
    exact ⟨ret_bool (by rw [hp.out]), rfl⟩
  · have hp := box (show hasS s h = false by unfold hasS; rw [← hr]; simp [h1])
    clear hr
    go_enter Try.func70, Try.ntmps70
    go_wp2
    go_ret
    exact ⟨ret_bool (by rw [hp.out]), rfl⟩

end Go.Proofs.Ytjfiglkclpddaaa.nm

/- The contracts of package name and of reveilleref03, continued. -/
namespace Go.Proofs.Ytjfiglkclpddaaa.nm
open Go.ChangeShapes Go.WideShapes Go.ChangeAt Go.RowKit

theorem hasS_raw (s h : ByteArray) : hasS s h = (decide (h.size ≤ s.size) && ((s.extract 0 h.size).toList == h.toList)) := by
  unfold hasS; rw [Lib.hasPrefix_raw]
theorem hasS_size {s h : ByteArray} (g : hasS s h = true) : h.size ≤ s.size := by
  rw [hasS_raw] at g; simp at g; exact g.1
theorem cutS_hit {s h : ByteArray} (g : hasS s h = true) : cutS s h = s.extract h.size s.size := by
  rw [hasS_raw, Bool.and_eq_true] at g
  exact Lib.trimPrefix_hit s h (by simpa using g.1) g.2

set_option maxHeartbeats 1000000 in
theorem rOf_any (s : ByteArray) (w : World) (hs : s.size ≤ maxLen) :
    Calls Try.prog 40 #[.string s] w fun e w' => e = .returned (.string (ofG s)) ∧ w = w' := by
  have h7 : (s.extract 7 s.size).size ≤ maxLen := by simp; omega
  have h6 : (s.extract 6 s.size).size ≤ maxLen := by simp; omega
  have s7 : hasS s retryC = true → 7 ≤ (s.size : Int) := fun h => by have := hasS_size h; simp [retryC] at this; have e : (ByteArray.mk #[37, 114, 101, 116, 114, 121, 37]).size = 7 := rfl; omega
  have s6 : hasS s deadC = true → 6 ≤ (s.size : Int) := fun h => by have := hasS_size h; simp [deadC] at this; have e : (ByteArray.mk #[37, 100, 101, 97, 100, 37]).size = 6 := rfl; omega
  have c7 : hasS s retryC = true → cutS s retryC = s.extract 7 s.size := fun h => cutS_hit h
  have c6 : hasS s deadC = true → cutS s deadC = s.extract 6 s.size := fun h => cutS_hit h
  rcases three s retryC with ⟨h0, h1⟩ | ⟨h0, h1, h2⟩ | ⟨h0, h1, h2⟩
  · rcases three s deadC with ⟨g0, g1⟩ | ⟨g0, g1, g2⟩ | ⟨g0, g1, g2⟩
    · have e1 := box (show ofG s = ⟨#[]⟩ by unfold ofG; rw [h0, g0]; rfl)
      clear h7 h6 s7 s6 c7 c6 h0 g0
      go_enter Try.func40, Try.ntmps40
      go_wp2_with (first | (go_at_call 70; refine (rHas_any _ _ _ hs (by decide)).mono ?_; rintro e w' ⟨rfl, rfl⟩) | (go_at_call 71; refine (rGroup_any _ _ (by assumption)).mono ?_; rintro e w' ⟨rfl, rfl⟩))
      go_ret
      exact ⟨ret_str (by rw [e1.out]), rfl⟩
    · have e1 := box (show ofG s = ⟨#[]⟩ by unfold ofG; rw [h0, g0]; rfl)
      have z6 := s6 g1
      rw [c6 g1] at g2
      clear s7 s6 c7 c6 h0 g0
      go_enter Try.func40, Try.ntmps40
      go_wp2_with (first | (go_at_call 70; refine (rHas_any _ _ _ hs (by decide)).mono ?_; rintro e w' ⟨rfl, rfl⟩) | (go_at_call 71; refine (rGroup_any _ _ (by assumption)).mono ?_; rintro e w' ⟨rfl, rfl⟩))
      go_ret
      exact ⟨ret_str (by rw [e1.out]), rfl⟩
    · have e1 := box (show ofG s = s.extract 6 s.size by unfold ofG; rw [h0, g0, c6 g1]; rfl)
      have z6 := s6 g1
      rw [c6 g1] at g2
      clear s7 s6 c7 c6 h0 g0
      go_enter Try.func40, Try.ntmps40
      go_wp2_with (first | (go_at_call 70; refine (rHas_any _ _ _ hs (by decide)).mono ?_; rintro e w' ⟨rfl, rfl⟩) | (go_at_call 71; refine (rGroup_any _ _ (by assumption)).mono ?_; rintro e w' ⟨rfl, rfl⟩))
      go_ret
      exact ⟨ret_str (by rw [e1.out]), rfl⟩
  · have z7 := s7 h1
    rw [c7 h1] at h2
    rcases three s deadC with ⟨g0, g1⟩ | ⟨g0, g1, g2⟩ | ⟨g0, g1, g2⟩
    · have e1 := box (show ofG s = ⟨#[]⟩ by unfold ofG; rw [h0, g0]; rfl)
      clear s7 s6 c7 c6 h0 g0
      go_enter Try.func40, Try.ntmps40
      go_wp2_with (first | (go_at_call 70; refine (rHas_any _ _ _ hs (by decide)).mono ?_; rintro e w' ⟨rfl, rfl⟩) | (go_at_call 71; refine (rGroup_any _ _ (by assumption)).mono ?_; rintro e w' ⟨rfl, rfl⟩))
      go_ret
      exact ⟨ret_str (by rw [e1.out]), rfl⟩
    · have e1 := box (show ofG s = ⟨#[]⟩ by unfold ofG; rw [h0, g0]; rfl)
      have z6 := s6 g1
      rw [c6 g1] at g2
      clear s7 s6 c7 c6 h0 g0
      go_enter Try.func40, Try.ntmps40
      go_wp2_with (first | (go_at_call 70; refine (rHas_any _ _ _ hs (by decide)).mono ?_; rintro e w' ⟨rfl, rfl⟩) | (go_at_call 71; refine (rGroup_any _ _ (by assumption)).mono ?_; rintro e w' ⟨rfl, rfl⟩))
      go_ret
      exact ⟨ret_str (by rw [e1.out]), rfl⟩
    · have e1 := box (show ofG s = s.extract 6 s.size by unfold ofG; rw [h0, g0, c6 g1]; rfl)
      have z6 := s6 g1
      rw [c6 g1] at g2
      clear s7 s6 c7 c6 h0 g0
      go_enter Try.func40, Try.ntmps40
      go_wp2_with (first | (go_at_call 70; refine (rHas_any _ _ _ hs (by decide)).mono ?_; rintro e w' ⟨rfl, rfl⟩) | (go_at_call 71; refine (rGroup_any _ _ (by assumption)).mono ?_; rintro e w' ⟨rfl, rfl⟩))
      go_ret
      exact ⟨ret_str (by rw [e1.out]), rfl⟩
  · have z7 := s7 h1
    have e1 := box (show ofG s = s.extract 7 s.size by unfold ofG; rw [h0, c7 h1]; rfl)
    rw [c7 h1] at h2
    clear s7 s6 c7 c6 h0
    go_enter Try.func40, Try.ntmps40
    go_wp2_with (first | (go_at_call 70; refine (rHas_any _ _ _ hs (by decide)).mono ?_; rintro e w' ⟨rfl, rfl⟩) | (go_at_call 71; refine (rGroup_any _ _ (by assumption)).mono ?_; rintro e w' ⟨rfl, rfl⟩))
    go_ret
    exact ⟨ret_str (by rw [e1.out]), rfl⟩

theorem ofOk_iff (s : ByteArray) : ofOk s = !decide ((ofG s).size = 0) := by
  have hg : ∀ x : ByteArray, groupB x = true → x.size ≠ 0 := by
    intro x h hz
    unfold groupB groupL plainL at h
    simp [hz] at h
  unfold ofOk ofG
  cases h1 : hitS s retryC
  · cases h2 : hitS s deadC
    · rfl
    · have : groupB (cutS s deadC) = true := by unfold hitS at h2; simp at h2; exact h2.2
      simp [hg _ this]
  · have : groupB (cutS s retryC) = true := by unfold hitS at h1; simp at h1; exact h1.2
    simp [hg _ this]

set_option maxHeartbeats 1000000 in
theorem rTopic_any (s : ByteArray) (w : World) (hs : s.size ≤ maxLen) :
    Calls Try.prog 15 #[.string s] w fun e w' => e = .returned (.bool (topicB s)) ∧ w = w' := by
  have hi := isEmpty_iff (ofG s)
  have ho := ofOk_iff s
  cases hp : plainB s
  · have hg := box (show topicB s = !(ofG s).toList.isEmpty by unfold topicB; rw [hp, hi, Bool.or_false, ho])
    clear hi ho
    obtain ⟨g, hgg⟩ : ∃ g, ofG s = g := ⟨_, rfl⟩
    have hc := fun W => rOf_any s W hs
    rw [hgg] at hg
    simp only [hgg] at hc
    have Hc := box hc
    clear hc hgg
    go_enter Try.func15, Try.ntmps15
    go_wp2_with (first | (go_at_call 39; refine (rPlain_any _ _ hs).mono ?_; rintro e w' ⟨rfl, rfl⟩) | (go_at_call 40; refine (Hc.out _).mono ?_; rintro e w' ⟨rfl, rfl⟩))
    go_ret
    exact ⟨ret_bool (by rw [hg.out]), rfl⟩
  · have hg := box (show topicB s = true by unfold topicB; rw [hp]; simp)
    clear hi ho
    go_enter Try.func15, Try.ntmps15
    go_wp2_with (first | (go_at_call 39; refine (rPlain_any _ _ hs).mono ?_; rintro e w' ⟨rfl, rfl⟩) )
    go_ret
    exact ⟨ret_bool (by rw [hg.out]), rfl⟩

/-! ### All -/
theorem allP_snoc (l : List ByteArray) (k : Nat) (hk : k < l.length) (p : ByteArray → Bool) : (l.take (k + 1)).all p = ((l.take k).all p && p (l.getD k ByteArray.empty)) := by
  rw [List.take_succ_eq_append_getElem hk, List.all_append]; simp [List.getD_eq_getElem?_getD, List.getElem?_eq_getElem hk]
theorem allP_no (l : List ByteArray) (k : Nat) (hk : k < l.length) (p : ByteArray → Bool) (h : p (l.getD k ByteArray.empty) = false) : l.all p = false := by
  rw [List.all_eq_false]
  exact ⟨l[k], List.getElem_mem _, by simpa [List.getD_eq_getElem?_getD, List.getElem?_eq_getElem hk] using h⟩

end Go.Proofs.Ytjfiglkclpddaaa.nm

/- Layer 11: an index, over a disk that has room: what it holds; last, link. -/
namespace Go.Proofs.Ytjfiglkclpddaaa.kx
open Go.ChangeShapes Go.WideShapes Go.ChangeAt Go.RowKit
open Go.Proofs.Ytjfiglkclpddaaa.dk Go.Proofs.Ytjfiglkclpddaaa.oc Go.Proofs.Ytjfiglkclpddaaa.en Go.Proofs.Ytjfiglkclpddaaa.wh

/-- An entry. -/
structure Ln where
  h : Nat
  pos : Nat
  born : Nat
  ahead : Nat
def lnL (e : Ln) : List (Nat × Int) := [(5, (e.h : Int)), (6, (e.pos : Int)), (6, (e.born : Int)), (3, (e.ahead : Int))]
def lnB (e : Ln) : List UInt8 := entL (lnL e)
def LnOk (e : Ln) : Prop := e.h < 4294967296 ∧ e.pos ≤ 1099511627776 ∧ e.born ≤ 1099511627776 ∧ e.ahead < 16777216
theorem lnB_length (e : Ln) : (lnB e).length = 20 := by unfold lnB entL lnL; simp [low_length]
theorem ln_ok {e : Ln} (h : LnOk e) : entOk (lnL e) = true := by
  obtain ⟨h1, h2, h3, h4⟩ := h
  have a1 : ((e.h : Nat) : Int) < 256 ^ 5 := by show _ < (1099511627776 : Int); omega
  have a2 : ((e.pos : Nat) : Int) < 256 ^ 6 := by show _ < (281474976710656 : Int); omega
  have a3 : ((e.born : Nat) : Int) < 256 ^ 6 := by show _ < (281474976710656 : Int); omega
  have a4 : ((e.ahead : Nat) : Int) < 256 ^ 3 := by show _ < (16777216 : Int); omega
  simp only [entOk, lnL, fitsN, List.all_cons, List.all_nil]
  rw [decide_eq_true a1, decide_eq_true a2, decide_eq_true a3, decide_eq_true a4, decide_eq_true (Int.natCast_nonneg _), decide_eq_true (Int.natCast_nonneg _), decide_eq_true (Int.natCast_nonneg _), decide_eq_true (Int.natCast_nonneg _)]
  rfl
abbrev klinks : ByteArray := ⟨#[120, 45, 108, 105, 110, 107, 115]⟩
abbrev kslots : ByteArray := ⟨#[120, 45, 115, 108, 111, 116, 115]⟩
/-- What the disk holds of an index. -/
structure KxD (D : DiskS) (E : List Ln) (H : List Nat) : Prop where
  alive : Alive D
  links : D.bytes klinks = some ⟨(E.flatMap lnB).toArray⟩
  slots : D.bytes kslots = some ⟨(H.flatMap (low 3)).toArray⟩
  len : H.length = 8
  size : D.size = 20 * E.length + 24
  heads : ∀ x ∈ H, x ≤ E.length
  ok : ∀ e ∈ E, LnOk e
  few : E.length ≤ 1000
def IdxAt (w : World) (x p : Nat) (many : Nat) : Prop := w.heap[x]? = some (.cells #[ptrTo p, .int .i64 many] 70 (0, 0))
theorem IdxAt.calm {w w' : World} {x p m : Nat} (h : IdxAt w x p m) (hc : Calm w w') : IdxAt w' x p m := heap_calm hc h
theorem IdxAt.keep {w w' : World} {x p m : Nat} {F : Nat → Prop} (h : IdxAt w x p m) (k : Keeps F w w') (hx : ¬ F x) : IdxAt w' x p m := (k.block x (heap_lt h) hx).trans h
theorem IdxAt.cells {w : World} {x p m : Nat} (h : IdxAt w x p m) : w.cell? ⟨x, 0, none⟩ = some (ptrTo p) ∧ w.cell? ⟨x, 1, none⟩ = some (.int .i64 m) ∧ w.frozen? ⟨x, 0, none⟩ = false ∧ w.frozen? ⟨x, 1, none⟩ = false ∧ x < w.heap.size :=
  ⟨cell_of h 0, cell_of h 1, free_of h 0, free_of h 1, heap_lt h⟩

theorem flat_length {α : Type} (f : α → List UInt8) (c : Nat) (hc : ∀ x, (f x).length = c) (l : List α) : (l.flatMap f).length = c * l.length := by
  induction l with
  | nil => simp
  | cons x l ih => rw [List.flatMap_cons, List.length_append, hc, ih, List.length_cons, Nat.mul_succ]; omega
theorem read_flat {α : Type} {D : DiskS} (ha : Alive D) (f : α → List UInt8) (c : Nat) (hc : ∀ x, (f x).length = c) (l : List α) (n : ByteArray) (hb : D.bytes n = some ⟨(l.flatMap f).toArray⟩) (i : Nat) (hi : i < l.length) :
    D.read n ((c * i : Nat) : Int) (c : Nat) = (⟨(f l[i]).toArray⟩, 0) := by
  rw [read_bytes ha hb (c * i) c (by rw [bytes_size, flat_length f c hc]; rw [← Nat.mul_succ]; exact Nat.mul_le_mul_left c hi)]
  congr 1
  rw [Go.ByteArray.extract_mk, Nat.add_sub_cancel_left, flat_take f c hc l i hi]

section
variable {p n : Nat} {D : DiskS} {F : Nat → Prop} {E : List Ln} {H : List Nat}
set_option maxRecDepth 100000 in
set_option maxHeartbeats 2000000 in
theorem last_any (x m b : Nat) (w : World) (h : DiskOk w p D F n) (hk : KxD D E H) (hx : IdxAt w x p m) (hb : b < 8) :
    Calls Try.prog 34 #[ptrTo x, .int .i64 (b : Int)] w fun e w' => e = .returned (.tuple #[.int .i64 ((H.getD b 0 : Nat) : Int), .int .i64 0]) ∧ Calm w w' := by
  obtain ⟨c0, c1, f0, f1, hlt⟩ := hx.cells
  have hbl : b < H.length := by rw [hk.len]; exact hb
  have hrd := box (Read_ok kslots (3 * (b : Int)) 3 w h)
  have hr := read_flat hk.alive (low 3) 3 (low_length 3) H kslots hk.slots b hbl
  simp only [Int.natCast_mul] at hr
  have hr' : D.read kslots (3 * (b : Int)) 3 = (⟨(low 3 H[b]).toArray⟩, 0) := hr
  rw [hr'] at hrd
  have hv : H[b] ≤ 1000 := Nat.le_trans (hk.heads _ (List.getElem_mem _)) hk.few
  have hg : H.getD b 0 = H[b] := by rw [List.getD_eq_getElem?_getD, List.getElem?_eq_getElem hbl]; rfl
  rw [hg]
  obtain ⟨v, hv'⟩ : ∃ v, H[b] = v := ⟨_, rfl⟩
  rw [hv'] at hrd hv
  rw [hv']
  have hnum := box (show (⟨⟨(low 3 v).toArray⟩, 0⟩ : Rdr).num 3 = ((v : Int), ⟨⟨#[]⟩, 0⟩) by have := num_low 3 v (by decide) (by decide) (by omega) []; rw [List.append_nil] at this; exact this)
  have hsz := box (low_size 3 v)
  clear h hk hx hr hr' hg hv' hv hbl
  go_enter Try.func34, Try.ntmps34
  go_wp2_with fail
  refine hrd.out.mono ?_
  rintro e w1 ⟨rfl, hc1⟩
  have Hc1 := box hc1
  clear hc1
  go_wp2_with fail
  refine (oc.New_any _ w1).mono ?_
  rintro e w2 ⟨rb, hb2, rfl, hR, hc2⟩
  have HR := box hR
  have Hc2 := box hc2
  have Hb2 := box hb2
  clear hR hc2 hb2
  go_wp2_with fail
  refine (RNum_any rb _ 3 w2 HR.out (by simp only; rw [hsz.out]; decide)).mono ?_
  rw [hnum.out]
  rintro e w3 ⟨rfl, _, hkk⟩
  have Hk := box hkk
  clear hkk
  go_wp2_with fail
  go_ret2
  exact ⟨rfl, Below.trans (Hc1.out.trans Hc2.out) (Hk.out.below (Hc1.out.trans Hc2.out).size (fun x e => by have := Hb2.out; have := Hc1.out.size; omega))⟩

theorem get4_ln {e : Ln} (h : LnOk e) : get4 ⟨(lnB e).toArray⟩ [5, 6, 6, 3] = (((e.h : Int), (e.pos : Int), (e.born : Int), (e.ahead : Int)), true) := by
  have := rdAll_ent (lnL e) [] (by intro x hx; simp only [lnL, List.mem_cons, List.not_mem_nil, or_false] at hx; rcases hx with rfl | rfl | rfl | rfl <;> simp) (ln_ok h)
  rw [List.append_nil] at this
  have h2 : rdAll ⟨⟨(lnB e).toArray⟩, 0⟩ [5, 6, 6, 3] = ([(e.h : Int), (e.pos : Int), (e.born : Int), (e.ahead : Int)], ⟨⟨#[]⟩, 0⟩) := this
  unfold get4
  rw [h2]
  rfl
set_option maxRecDepth 100000 in
set_option maxHeartbeats 2000000 in
theorem link_any (x m i : Nat) (w : World) (h : DiskOk w p D F n) (hk : KxD D E H) (hx : IdxAt w x p m) (hi : i < E.length) :
    Calls Try.prog 69 #[ptrTo x, .int .i64 ((i + 1 : Nat) : Int)] w fun e w' => e = .returned (.tuple #[.agg #[.int .i64 (E[i].h : Int), .int .i64 (E[i].pos : Int), .int .i64 (E[i].born : Int), .int .i64 (E[i].ahead : Int)], .int .i64 0]) ∧ Calm w w' := by
  obtain ⟨c0, c1, f0, f1, hlt⟩ := hx.cells
  have hcalm : Calm w (w.alloc (.cells #[.int .i64 0, .int .i64 0, .int .i64 0, .int .i64 0] 82)) := (Calm.refl w).alloc _
  have hrd := box (Read_ok klinks ((i : Int) * 20) 20 _ (h.calm hcalm))
  have hr := read_flat hk.alive lnB 20 lnB_length E klinks hk.links i hi
  simp only [Int.natCast_mul] at hr
  have hr' : D.read klinks ((i : Int) * 20) 20 = (⟨(lnB E[i]).toArray⟩, 0) := by rw [Int.mul_comm]; exact hr
  rw [hr'] at hrd
  have hg4 := box (get4_ln (hk.ok _ (List.getElem_mem hi)))
  have hsz := box (show (⟨(lnB E[i]).toArray⟩ : ByteArray).size = 20 by rw [bytes_size, lnB_length])
  obtain ⟨e, he⟩ : ∃ e, E[i] = e := ⟨_, rfl⟩
  rw [he] at hrd hg4 hsz
  rw [he]
  have hfew := hk.few
  have hi1 : IntKind.i64.wrap (((i + 1 : Nat) : Int) - 1) = i := by rw [IntWalk.i64_in _ (by omega)]; omega
  have hi2 : ((i + 1 : Nat) : Int) - 1 = i := by omega
  have hi3 : IntKind.i64.wrap ((i : Int) * 20) = i * 20 := IntWalk.i64_in _ (by omega)
  have Hcalm := box hcalm
  have hn0 := box (heap_new w (.cells #[.int .i64 0, .int .i64 0, .int .i64 0, .int .i64 0] 82))
  clear h hk hx hr hr' he hcalm
  go_enter Try.func69, Try.ntmps69
  go_wp2_with fail
  refine hrd.out.mono ?_
  rintro e1 w1 ⟨rfl, hc1⟩
  have Hc1 := box hc1
  clear hc1
  go_wp2_with fail
  refine (en.Link_get ⟨(lnB e).toArray⟩ w1 (by rw [hsz.out]; decide)).mono ?_
  rw [hg4.out]
  rintro e2 w2 ⟨rfl, hc2⟩
  have Hc2 := box hc2
  have j0 := (hc2.block _ (heap_lt ((Hc1.out.block _ (heap_lt hn0.out)).trans hn0.out))).trans ((Hc1.out.block _ (heap_lt hn0.out)).trans hn0.out)
  have r0 := cell_of j0 0
  have r1 := cell_of j0 1
  have r2 := cell_of j0 2
  have r3 := cell_of j0 3
  have q0 := free_of j0 0
  have q1 := free_of j0 1
  have q2 := free_of j0 2
  have q3 := free_of j0 3
  have jlt := heap_lt j0
  clear hc2 hn0
  go_wp2_with fail
  refine bodyPost_ret (v := .tuple #[.agg #[.int .i64 (e.h : Int), .int .i64 (e.pos : Int), .int .i64 (e.born : Int), .int .i64 (e.ahead : Int)], .int .i64 0]) (by simp [results, Try.results69, go_sem, r0, r1, r2, r3, jlt]) rfl ⟨rfl, ?_⟩
  have HC := (Hcalm.out.trans Hc1.out).trans Hc2.out
  exact ((((((Keeps.of_calm (F := fun b => w.heap.size ≤ b) HC).setCell (p := ⟨w.heap.size, 0, none⟩) (.inl (Nat.le_refl _)) _).setCell (p := ⟨w.heap.size, 1, none⟩) (.inl (Nat.le_refl _)) _).setCell (p := ⟨w.heap.size, 2, none⟩) (.inl (Nat.le_refl _)) _).setCell (p := ⟨w.heap.size, 3, none⟩) (.inl (Nat.le_refl _)) _).alloc _).below (Nat.le_refl _) (fun _ h => h)
end
end Go.Proofs.Ytjfiglkclpddaaa.kx
