/-
  DERIVED: THE SHELF's CONTRACTS AT THIS DUMP, IN PLAIN WORDS (tools/lay-plain.mjs out of 'TryIter2.lean', which tools/lay-shelf.mjs wrote): THE SAME DECLARATIONS UNDER THE SAME NAMES: 'import', 'namespace', 'open', 'def', 'theorem' AND NOTHING ELSE: no command of the shelf's: FOR A HAND-IN. Each laying: the table of numbers ('.._ren') and one theorem, a field a fact of the dump's own or the kernel's comparison; each contract: ONE APPLICATION.
-/
import Derived.Test.YtofffmnkoelifaaRows
import Derived.WalkKit
import Derived.ProofKit
import Derived.OpenShut
import Derived.Handy
import Derived.Deep.LoopGhost
import Derived.Lib.Hide
import Derived.Lib.Strings
import Derived.SizedLaws
import Derived.Maps.Own
import Derived.Maps.OwnOps
import Derived.Maps.OwnSet
import Derived.Maps.RangeWalk
import Derived.Deep.Slices
import Derived.Laws.StructEq
import Derived.Deep.RegionHeld3
import Derived.Shelf.Strings.Builder1
import Derived.Shelf.Strings.Builder2
import Derived.Shelf.Small.Bits
import Derived.Shelf.Small.Wraps
import Derived.Shelf.Strings.BuilderF
import Derived.Shelf.Strings.BuilderK
import Derived.Shelf.Strings.Builder2Cap
import Derived.Shelf.Strconv.Itoa0
import Derived.Shelf.Sort.Plain
import Derived.Shelf.GgClosure.StringsIndexFunc
import Derived.Ground.GgwProg
import Derived.Shelf.GgClosure.StringsIndexFuncTop
import Derived.Shelf.GgClosure.StringsRunes
import Derived.Shelf.Strings.Prefix
import Derived.Shelf.Bits.Mul64
import Derived.Shelf.Strings.Repeat
import Derived.Shelf.Strings.BuilderCap
import Derived.Shelf.Slices.Equal
import Derived.Ground.Names2Prog
import Derived.Shelf.Slices.Clone
import Derived.Shelf.Slices.CompactS
import Derived.Shelf.Slices.SearchI
import Derived.Shelf.Slices.Cells
import Derived.Shelf.Slices.In.SortNone
import Derived.Shelf.Slices.Empties2
import Derived.Ground.SlgnProg
import Derived.Shelf.SlicesE.Equal
import Derived.Shelf.SlicesE.Compact
import Derived.Ground.SlgfProg
import Derived.Shelf.SlicesE.IndexFunc
import Derived.Shelf.SlicesE.DeleteFunc
import Derived.Test.YtofffmnkoelifaaProg
import Derived.Sort.Statements
import Derived.Lib.ConvBytes
import Derived.Lib.AppendZeros
import Derived.Lib.AppendZerosOnto
import Derived.Lib.LazyBuf
import Derived.Lib.SliceRun
import Derived.Shelf.SlIterI.Collect
import Derived.Shelf.SlIterI.Nil
import Derived.Ground.GgzProg
import Derived.Test.YtofffmnkoelifaaPk10
namespace Go.Proofs
open Go.Shelf
def Try.gKeysP_ren : Go.Shelf.Ren := ⟨fun | 7 => 32 | 10 => 63 | n => n, fun | 23 => 64 | 26 => 3 | 3 => 69 | 28 => 73 | 0 => 0 | 27 => 72 | 33 => 43 | 4 => 4 | n => n, fun | n => n⟩
theorem Try.gKeysP : Go.Proofs.SlLaysZI.n7 Try.prog Try.gKeysP_ren := {
  mixed := by kernel_rfl
  f7 := ⟨Try.f32.name, by decide, Try.func32.trans (congrArg some (by kernel_rfl))⟩
  f10 := ⟨Try.f63.name, by decide, Try.func63.trans (congrArg some (by kernel_rfl))⟩
  t0 := Try.underlying0
  a0 := Try.isAgg0
  z0 := Try.sizeOf0
  v0 := Try.zeroValue0
  t4 := Try.underlying4
  a4 := Try.isAgg4
  z4 := Try.sizeOf4
  v4 := Try.zeroValue4
  t23 := Try.underlying64
  a23 := Try.isAgg64
  z23 := Try.sizeOf64
  v23 := Try.zeroValue64
  t26 := Try.underlying3
  a26 := Try.isAgg3
  z26 := Try.sizeOf3
  v26 := Try.zeroValue3
  t27 := Try.underlying72
  a27 := Try.isAgg72
  z27 := Try.sizeOf72
  v27 := Try.zeroValue72
  t28 := Try.underlying73
  a28 := Try.isAgg73
  z28 := Try.sizeOf73
  v28 := Try.zeroValue73
  t33 := Try.underlying43
  a33 := Try.isAgg43
  z33 := Try.sizeOf43
  v33 := Try.zeroValue43 }
def Try.gCollectI_ren : Go.Shelf.Ren := ⟨fun | 8 => 31 | 11 => 62 | n => n, fun | 26 => 3 | 28 => 73 | 24 => 34 | 0 => 0 | 33 => 43 | 4 => 4 | n => n, fun | n => n⟩
theorem Try.gCollectI : Go.Proofs.SlLaysZI.n8 Try.prog Try.gCollectI_ren := {
  mixed := by kernel_rfl
  f8 := ⟨Try.f31.name, by decide, Try.func31.trans (congrArg some (by kernel_rfl))⟩
  f11 := ⟨Try.f62.name, by decide, Try.func62.trans (congrArg some (by kernel_rfl))⟩
  t0 := Try.underlying0
  a0 := Try.isAgg0
  z0 := Try.sizeOf0
  v0 := Try.zeroValue0
  t24 := Try.underlying34
  a24 := Try.isAgg34
  z24 := Try.sizeOf34
  v24 := Try.zeroValue34
  t26 := Try.underlying3
  a26 := Try.isAgg3
  z26 := Try.sizeOf3
  v26 := Try.zeroValue3
  t28 := Try.underlying73
  a28 := Try.isAgg73
  z28 := Try.sizeOf73
  v28 := Try.zeroValue73
  i26 := by kernel_rfl }
end Go.Proofs

/- Layer 17: a map's keys, collected. -/
namespace Go.Proofs.Ytofffmnkoelifaa
open Go.RowKit Go.Maps Go.Sort Go.Shelf Go.MapKept Go.WideElems

def keyZ : Value → Int
  | .int _ z => z
  | _ => 0
abbrev noZ : Value → Option (DataW Unit × List MemPlace) := fun _ => some (.nil, [])
/-- A map whose keys are numbers, as the library's contracts want it. -/
theorem MapIs.ownsZ {P : Program} {w : World} {b : Nat} {k : TypeId} {m : List (Value × Value)} (h : MapIs w b (.int .i64) m) (hk : P.underlying k = some (.int .i64)) (hs : ∀ x ∈ m, (Lit.int .i64 (keyZ x.1)).wf = true) (hl : m.length ≤ maxLen) :
    ∃ D0 : DataW Unit, w.ownsMap P k noZ b m.length D0 ∧ (intKeys D0).Perm (m.map fun x => keyZ x.1) ∧ Maps.size D0 = m.length := by
  obtain ⟨es, clock, hb, hst, rfl, hks⟩ := h
  have hrd : ∀ x ∈ es.toList, WideElems.rd P k noZ x = some (.int .i64 (keyZ x.key), .nil) := fun x hx => by
    have h1 := hks x hx
    have h2 := hs (x.key, x.val) (List.mem_map.2 ⟨x, hx, rfl⟩)
    unfold WideElems.rd
    cases hkx : x.key with
    | int q s =>
      rw [hkx] at h2 h1
      simp only [IsKey] at h1
      subst h1
      rw [keyOf_int_mk hk (show (Lit.int .i64 s).wf = true from h2)]
      simp [keyZ, noZ]
    | _ => rw [hkx] at h1; simp [IsKey] at h1
  refine ⟨.map ((es.toList.map (WideElems.rg P k noZ)).foldr DataW.insert []), ⟨es, clock, hb, ⟨by simpa using hl, hst, fun x hx => ⟨_, hrd x hx⟩⟩, by simp, rfl⟩, ?_, ?_⟩
  · have hp := (Go.WideShapes.sorted_perm (es.toList.map (WideElems.rg P k noZ))).map (fun p => Go.intOf p.1)
    refine hp.trans (List.Perm.of_eq ?_)
    rw [List.map_map, List.map_map]
    apply List.map_congr_left
    intro x hx
    simp only [Function.comp, WideElems.rg_of (hrd x hx), Go.intOf]
  · have hp := (Go.WideShapes.sorted_perm (es.toList.map (WideElems.rg P k noZ))).length_eq
    show (List.foldr DataW.insert [] _).length = _
    rw [hp]; simp
end Go.Proofs.Ytofffmnkoelifaa
namespace Go.Proofs.Ytofffmnkoelifaa.pd
open Go.ChangeShapes Go.WideShapes Go.ChangeAt Go.RowKit Go.Sort Go.Shelf Go.MapKept Go.ChangeMaps

abbrev PKF : Nat := 32
abbrev PKI : Nat := 63
theorem keys_any (mb : Option Nat) (W : World) : Calls Try.prog PKF #[.map mb] W fun e w' => e = .returned (.func (.func PKI) #[] #[.pointer (some ⟨W.heap.size, 0, none⟩)]) ∧ w' = W.alloc (.cells #[.map mb] 64) :=
  callsIn_wide.1 (AnyZI.keys_in Try.gKeysP Fence.wide 5 trivial rfl mb W)
set_option maxHeartbeats 1000000 in
theorem collect_any {m : List (Value × Value)} (b : Nat) (w : World) (h : MapIs w b (.int .i64) m) (hs : ∀ x ∈ m, (Lit.int .i64 (keyZ x.1)).wf = true) (hl : m.length ≤ 1000000) :
    Calls Try.prog 31 #[.func (.func PKI) #[] #[.pointer (some ⟨w.heap.size, 0, none⟩)]] (w.alloc (.cells #[.map (some b)] 64)) fun e w' => ∃ (v : Value) (ss : List Int), e = .returned v ∧ ss.Perm (m.map fun x => keyZ x.1) ∧
      w'.ownsRow (w.heap.size + 1) 3 1 v ss.length (ss.map encZ) ∧ (v = .slice none 0 0 ↔ ss = []) ∧ Calm w w' := by
  obtain ⟨D0, hown, hperm, hsize⟩ := h.ownsZ (P := Try.prog) Try.underlying3 hs (by unfold maxLen; omega)
  have hbl := hown.lt
  have hseq : SeqGives Fence.wide 3 Try.prog PKI #[.pointer (some ⟨w.heap.size, 0, none⟩)] encZ (fun ss => ss.Perm (intKeys D0)) (Maps.size D0) (w.alloc (.cells #[.map (some b)] 64)) :=
    AnyZI.keys_gives (ρ := Try.gKeysP_ren) { Try.gKeysP with } Fence.wide _ trivial rfl (by omega) w.heap.size b m.length D0 _ (by simp) (by simp) (by
      obtain ⟨es, clock, hb, Ft, hs, hD⟩ := hown
      exact ⟨es, clock, (Below.heap_alloc _ _ b hbl).trans hb, Ft, hs, hD⟩)
  refine (callsIn_wide.1 (AnyZI.collect_in Try.gCollectI Fence.wide 5 trivial trivial rfl (by omega) PKI #[.pointer (some ⟨w.heap.size, 0, none⟩)] trivial (enters_of Try.func63 (by kernel_rfl) rfl) _ _ (by rw [hsize]; unfold maxLen; omega) (by rw [hsize]; omega) _ hseq)).mono ?_
  rintro e w' ⟨v, ss, rfl, hp, hrow, hnil, hb⟩
  refine ⟨v, ss, rfl, hp.trans hperm, ?_, hnil, ?_⟩
  · have h2 := hrow
    simp only [World.size_alloc] at h2
    exact h2
  · exact ((Calm.refl w).alloc _).trans hb
end Go.Proofs.Ytofffmnkoelifaa.pd
