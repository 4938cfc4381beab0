/- Small lemmas that all texts of this seat share. No condition. -/
import Derived.Test.YtbmhjojlbmbpkaaRows
import Derived.WalkKit
import Derived.ProofKit
import Derived.OpenShut
import Derived.Handy
import Derived.Deep.LoopGhost
import Derived.Lib.Hide
import Derived.Lib.Strings
import Derived.SizedLaws
namespace Go.Proofs.Ytbmhjojlbmbpkaa
open Go.ChangeShapes Go.WideShapes Go.ChangeAt Go.RowKit

/-- A fact that is kept from the walk (a structure: nothing unfolds it). -/
structure Box (p : Prop) : Prop where
  out : p
theorem box {p : Prop} (h : p) : Box p := ⟨h⟩

theorem ret_bool {a b : Bool} (h : a = b) : Ending.returned (.bool a) = .returned (.bool b) := by rw [h]
theorem ret_int {k : IntKind} {a b : Int} (h : a = b) : Ending.returned (.int k a) = .returned (.int k b) := by rw [h]
theorem val_int {k : IntKind} {a b : Int} (h : a = b) : Value.int k a = .int k b := by rw [h]
theorem val_bool {a b : Bool} (h : a = b) : Value.bool a = .bool b := by rw [h]
theorem ret_str {a b : ByteArray} (h : a = b) : Ending.returned (.string a) = .returned (.string b) := by rw [h]
theorem ret_tup2 {a b c d : Value} (h : a = b) (g : c = d) : Ending.returned (.tuple #[a, c]) = .returned (.tuple #[b, d]) := by rw [h, g]

theorem all_snoc (s : ByteArray) (k : Nat) (h : k < s.size) (p : UInt8 → Bool) : (s.data.toList.take (k + 1)).all p = ((s.data.toList.take k).all p && p s[k]) := by
  rw [List.take_succ_eq_append_getElem (by simpa using h), List.all_append]; simp; rfl
theorem all_take (s : ByteArray) (k : Nat) (h : s.size ≤ k) (p : UInt8 → Bool) : (s.data.toList.take k).all p = s.data.toList.all p := by
  rw [List.take_of_length_le (by simpa using h)]
theorem all_no (s : ByteArray) (k : Nat) (h : k < s.size) (p : UInt8 → Bool) (hp : p s[k] = false) : s.data.toList.all p = false := by
  rw [List.all_eq_false]
  refine ⟨s[k], ?_, by simp [hp]⟩
  exact Array.getElem_mem_toList (xs := s.data) h
theorem size_toList (s : ByteArray) : s.data.toList.length = s.size := by simp
theorem ba_ext {a b : ByteArray} (h : a.data.toList = b.data.toList) : a = b := by
  cases a; cases b; simp at h; simp [Array.toList_inj.1 (by simpa using h)]
theorem ba_inj {a b : ByteArray} : a.data.toList = b.data.toList ↔ a = b := ⟨ba_ext, fun h => by rw [h]⟩
theorem append_toList (a b : ByteArray) : (a ++ b).data.toList = a.data.toList ++ b.data.toList := by simp

/-- What a call that only computes and lays blocks of its own leaves: nothing that was there has turned. -/
abbrev Calm (w w' : World) : Prop := Below w.heap.size w w'
theorem Calm.refl (w : World) : Calm w w := Below.refl _ w
theorem Calm.trans {a b c : World} (h : Calm a b) (k : Calm b c) : Calm a c := Below.trans h (k.mono h.size)
theorem Calm.alloc {a w : World} (h : Calm a w) (o : Obj) : Calm a (w.alloc o) := Below.alloc h h.size o
theorem Calm.drew {a w : World} (h : Calm a w) : Calm a w.drew := Below.drew h
theorem bcell {W w1 : World} (hb : Calm W w1) : (∀ b o, b < W.heap.size → w1.cell? ⟨b, o, none⟩ = W.cell? ⟨b, o, none⟩) ∧ (∀ b o, b < W.heap.size → w1.frozen? ⟨b, o, none⟩ = W.frozen? ⟨b, o, none⟩) :=
  ⟨fun b o h => hb.cell (p := ⟨b, o, none⟩) h, fun b o h => hb.frozen (p := ⟨b, o, none⟩) h⟩

/-- A slice value that reads as a list of texts. -/
def StrsAt (w : World) (v : Value) (l : List ByteArray) : Prop :=
  (l = [] ∧ ∃ a cap, v = .slice a 0 cap) ∨
  (∃ b off cap, v = .slice (some ⟨b, off, none⟩) l.length cap ∧ ∀ k, k < l.length → w.cell? ⟨b, off + k, none⟩ = some (.string (l.getD k ByteArray.empty)))
theorem StrsAt.two {w : World} {b : Nat} {cap : Nat} {x y : ByteArray} (h0 : w.cell? ⟨b, 0, none⟩ = some (.string x)) (h1 : w.cell? ⟨b, 1, none⟩ = some (.string y)) :
    StrsAt w (.slice (some ⟨b, 0, none⟩) 2 cap) [x, y] := by
  refine .inr ⟨b, 0, cap, rfl, fun k hk => ?_⟩
  match k, hk with
  | 0, _ => simpa using h0
  | 1, _ => simpa using h1
theorem StrsAt.one {w : World} {b : Nat} {cap : Nat} {x : ByteArray} (h0 : w.cell? ⟨b, 0, none⟩ = some (.string x)) :
    StrsAt w (.slice (some ⟨b, 0, none⟩) 1 cap) [x] := by
  refine .inr ⟨b, 0, cap, rfl, fun k hk => ?_⟩
  match k, hk with
  | 0, _ => simpa using h0
/-- It reads so in every later world in which its block stands. -/
theorem StrsAt.calm {w w' : World} {v : Value} {l : List ByteArray} (h : StrsAt w v l) (hb : Calm w w') : StrsAt w' v l := by
  rcases h with h | ⟨b, off, cap, hv, hc⟩
  · exact .inl h
  · refine .inr ⟨b, off, cap, hv, fun k hk => ?_⟩
    have h1 := hc k hk
    have hlt : b < w.heap.size := by
      unfold World.cell? at h1
      by_cases hb : b < w.heap.size
      · exact hb
      · simp [Array.getElem?_eq_none (Nat.le_of_not_lt hb)] at h1
    rw [hb.cell (p := ⟨b, off + k, none⟩) hlt]; exact h1

theorem StrsAt.uni {w : World} {v : Value} {l : List ByteArray} (h : StrsAt w v l) :
    ∃ a cap, v = .slice a l.length cap ∧ ∀ k, k < l.length → ∃ b off, a = some ⟨b, off, none⟩ ∧ b < w.heap.size ∧ w.cell? ⟨b, off + k, none⟩ = some (.string (l.getD k ByteArray.empty)) := by
  rcases h with ⟨rfl, a, cap, rfl⟩ | ⟨b, off, cap, rfl, hc⟩
  · exact ⟨a, cap, rfl, fun k hk => by simp at hk⟩
  · refine ⟨_, cap, rfl, fun k hk => ⟨b, off, rfl, ?_, hc k hk⟩⟩
    have h1 := hc k hk
    unfold World.cell? at h1
    by_cases hb : b < w.heap.size
    · exact hb
    · simp [Array.getElem?_eq_none (Nat.le_of_not_lt hb)] at h1

open Go.WideMaps Go.WideElems in
/-- An argument that is a slice of texts, as the walk takes it. -/
theorem strs_of_trod {H : Type} {enc : TypeId × Value → H} {P : Program} {W : World} {base : Nat} {t e : TypeId} {v : Value} {d : DataW H} {ps : List MemPlace}
    (ht : P.underlying t = some (.slice e)) (he : P.underlying e = some .string) (hc : P.cellsOf e = 1)
    (hv : Value.okWide P W .any base t v) (h : DataW.Trod enc P W 0 (fun _ => true) true t v d ps) (hw : ∀ n ∈ d.weights P t, n ≤ reachBytes) :
    ∃ l : List ByteArray, StrsAt W v l ∧ (∀ s ∈ l, s.size ≤ reachBytes) ∧ l.length ≤ maxLen := by
  obtain ⟨a0, len, cap, rfl⟩ := okWide_slice ht hv
  obtain ⟨fuel, hf⟩ := h
  rcases open_strings ht he hc hf with ⟨hcs, hx⟩ | ⟨a, len', cap', ss, hcs, _, hl, hm, hz, hx, hcell, hws⟩
  · simp [Value.cells] at hcs
    obtain ⟨rfl, rfl, rfl⟩ := hcs
    exact ⟨[], .inl ⟨rfl, _, _, rfl⟩, by simp, by simp⟩
  · simp [Value.cells] at hcs
    obtain ⟨rfl, rfl, rfl⟩ := hcs
    simp only [if_true] at hz
    simp only [Prod.mk.injEq] at hx
    have hwl : ∀ s ∈ ss.take len, s.size ≤ reachBytes := by
      intro s hs
      refine hw _ ?_
      rw [hx.1]
      simp only [DataW.weights, ht]
      refine List.mem_cons_of_mem _ (List.mem_append_left _ ?_)
      generalize ss.take len = l at hs
      induction l with
      | nil => cases hs
      | cons x l ih =>
        simp only [strs, List.map_cons, DataW.weightsAll, DataW.weights]
        rcases List.mem_cons.1 hs with rfl | h
        · exact List.mem_append_left _ (by simp)
        · exact List.mem_append_right _ (ih h)
    refine ⟨ss.take len, ?_, hwl, by simp; omega⟩
    have hlen : (ss.take len).length = len := by simp; omega
    by_cases h0 : len = 0
    · exact .inl ⟨by simp [h0], _, _, by rw [h0]⟩
    · obtain ⟨b, off, spot⟩ := a
      have hspot : spot = none := by simpa [Addr.add] using World.cell?_spot (hcell 0 (by omega))
      subst hspot
      refine .inr ⟨b, off, cap, by rw [hlen], fun k hk => ?_⟩
      have := hcell k (by omega)
      rw [add_plain] at this
      rw [List.getD_eq_getElem?_getD, List.getElem?_take_of_lt (by omega), ← List.getD_eq_getElem?_getD]
      exact this
end Go.Proofs.Ytbmhjojlbmbpkaa
