/- A map's keys, sorted: what the library's contracts want of a map, out of MapIs. -/
import Derived.Test.YtbmhjojlbmbpkaaMap
import Derived.Test.YtbmhjojlbmbpkaaIter
import Derived.Test.YtbmhjojlbmbpkaaShelf
import Derived.Test.YtbmhjojlbmbpkaaRead
namespace Go.Proofs.Ytbmhjojlbmbpkaa
open Go.RowKit Go.Maps Go.Sort Go.Shelf Go.MapKept Go.WideElems

def keyB : Value → List UInt8
  | .string s => s.data.toList
  | _ => []
abbrev noR : Value → Option (DataW Unit × List MemPlace) := fun _ => some (.nil, [])
/-- A map whose keys are texts, as the library's contracts want it. -/
theorem MapIs.owns {P : Program} {w : World} {b : Nat} {k : TypeId} {m : List (Value × Value)} (h : MapIs w b .string m) (hk : P.underlying k = some .string) (hs : ∀ x ∈ m, (keyB x.1).length ≤ maxLen) (hl : m.length ≤ maxLen) :
    ∃ D0 : DataW Unit, w.ownsMap P k noR b m.length D0 ∧ (strKeys D0).Perm (m.map fun x => keyB x.1) ∧ Maps.size D0 = m.length := by
  obtain ⟨es, clock, hb, hst, rfl, hks⟩ := h
  have hrd : ∀ x ∈ es.toList, WideElems.rd P k noR x = some (.string (keyB x.key), .nil) := fun x hx => by
    have h1 := hks x hx
    have h2 := hs (x.key, x.val) (List.mem_map.2 ⟨x, hx, rfl⟩)
    unfold WideElems.rd
    cases hkx : x.key with
    | string s =>
      rw [hkx] at h2
      simp only [keyB] at h2
      unfold keyOf mapKey
      rw [hk]
      have h3 : s.size ≤ maxLen := by simpa using h2
      simp [h3, keyB, noR]
    | _ => rw [hkx] at h1; simp [IsKey] at h1
  refine ⟨.map ((es.toList.map (WideElems.rg P k noR)).foldr DataW.insert []), ⟨es, clock, hb, ⟨by simpa using hl, hst, fun x hx => ⟨_, hrd x hx⟩⟩, by simp, rfl⟩, ?_, ?_⟩
  · have hp := (Go.WideShapes.sorted_perm (es.toList.map (WideElems.rg P k noR))).map (fun p => strOf p.1)
    refine hp.trans (List.Perm.of_eq ?_)
    rw [List.map_map, List.map_map]
    apply List.map_congr_left
    intro x hx
    simp only [Function.comp, WideElems.rg_of (hrd x hx), strOf]
  · have hp := (Go.WideShapes.sorted_perm (es.toList.map (WideElems.rg P k noR))).length_eq
    show (List.foldr DataW.insert [] _).length = _
    rw [hp]; simp
end Go.Proofs.Ytbmhjojlbmbpkaa
