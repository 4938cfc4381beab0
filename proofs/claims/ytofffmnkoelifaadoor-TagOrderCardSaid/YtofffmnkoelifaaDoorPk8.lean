/- Layer 6: messages, scheduled ones and deliveries that may be; copies. -/
import Derived.Test.YtofffmnkoelifaaDoorRows
import Derived.WalkKit
import Derived.ProofKit
import Derived.OpenShut
import Derived.Handy
import Derived.Deep.LoopGhost
import Derived.Lib.Hide
import Derived.Lib.Strings
import Derived.SizedLaws
import Derived.Deep.Slices
import Derived.Shelf.SlIter.Nil
import Derived.Ground.GgzProg
import Derived.Shelf.SortM.Plain
import Derived.Shelf.SortM.SortNone
import Derived.Ground.SlgmProg
import Derived.Test.YtofffmnkoelifaaDoorProg
import Derived.Shelf.Strings.Builder1
import Derived.Shelf.Strings.Builder2
import Derived.Shelf.Strings.OnBuilder
import Derived.Shelf.Small.Bits
import Derived.Shelf.Strings.BuilderF
import Derived.Shelf.Strings.BuilderK
import Derived.Shelf.Utf8.RuneCount
import Derived.Shelf.Strings.Builder2Cap
import Derived.Shelf.Strconv.Itoa0
import Derived.Shelf.Strings.Search1
import Derived.Shelf.Strings.Search2
import Derived.Shelf.Strings.Search3
import Derived.Shelf.Strings.Count
import Derived.Shelf.LaysM
import Derived.Shelf.Strings.Shaped
import Derived.Shelf.Sort.Plain
import Derived.Shelf.GgClosure.StringsIndexFunc
import Derived.Ground.GgwProg
import Derived.Shelf.GgClosure.StringsIndexFuncTop
import Derived.Shelf.GgClosure.StringsRunes
import Derived.Shelf.Strings.Split
import Derived.Shelf.Strings.SplitShaped
import Derived.Shelf.Unicode.Decode
import Derived.Shelf.Strings.RuneCount
import Derived.Shelf.Strings.Explode
import Derived.Shelf.Unicode.DecodeSlow
import Derived.Shelf.Unicode.DecodeAny
import Derived.Shelf.Strings.BuilderCap
import Derived.Ground.Names2Prog
import Derived.Shelf.Slices.Clone
import Derived.Shelf.Slices.CompactS
import Derived.Shelf.Slices.Cells
import Derived.Shelf.Slices.In.SortNone
import Derived.Ground.SlgnProg
import Derived.Shelf.SlicesE.Compact
import Derived.Shelf.SlicesE.Clone
import Derived.Ground.SlgfProg
import Derived.Shelf.SlicesE.IndexFunc
import Derived.RangeFuncBox
import Derived.RangeFuncLeaves
import Derived.Shelf.Abstract
import Derived.OwnWalkIn
import Derived.TacticsInMore
import Derived.LoopNIn
import Derived.LoopIn
import Derived.Maps.AppendAt
import Derived.Lib.SlicesCompact
import Derived.Deep.QuietTactic
import Derived.BigQuiet
import Derived.Laws.ResultCell
import Derived.Laws.Rows
import Derived.Test.YtofffmnkoelifaaDoorPk7
namespace Go.Proofs.YtofffmnkoelifaaDoor.rc
open Go.ChangeShapes Go.WideShapes Go.ChangeAt Go.RowKit Go.Shelf
open Go.Proofs.YtofffmnkoelifaaDoor.nm Go.Proofs.YtofffmnkoelifaaDoor.vs

/-- May it be? (Kinds 1, 2, 3.) -/
def Right3 (m : MsgS) : Prop := numsB m = true ∧ Carries m ∧ (m.kind = 1 → m.due = 0 ∧ m.ref = 0)
instance (m : MsgS) : Decidable (Right3 m) := by unfold Right3; exact inferInstance
theorem addr_add (b j : Nat) : (⟨b, 0, none⟩ : Addr).add j = ⟨b, j, none⟩ := by unfold Addr.add; split <;> simp_all
theorem strs_own {w : World} {base : Nat} {v : Value} {l : List ByteArray} (h : w.ownsRow base 9 1 v l.length (l.map Value.string)) : StrsAt w v l := by
  rcases h.2 with ⟨rfl, hn⟩ | ⟨g, cap, cur, rfl, hb, hg, hnc, hcm, hcs, htake⟩
  · exact .inl ⟨List.eq_nil_of_length_eq_zero hn, none, 0, rfl⟩
  · refine .inr ⟨g, 0, cap, rfl, fun k hk => ?_⟩
    have := h.cells (g := g) rfl k (.string l[k]) (by simp [hk])
    rw [addr_add] at this
    rw [Nat.zero_add, List.getD_eq_getElem?_getD, List.getElem?_eq_getElem hk]
    exact this
theorem own_from {w : World} {base n size : Nat} {v : Value} {e : TypeId} {xs : List Value} (h : w.ownsRow base e size v n xs) : ∀ a m c, v = .slice (some a) m c → 0 < m → base ≤ a.block := fun a m c hv hm => by
  rcases h.2 with ⟨rfl, hn⟩ | ⟨g, cap, cur, rfl, hb, _⟩
  · cases hv
  · cases hv; exact hb
/-- A copy has keys of its own. -/
theorem clone_any (v : Value) (l : List ByteArray) (w : World) (h : StrsAt w v l) (hl : l.length ≤ 1000000) :
    Calls Tryd.prog 17 #[v] w fun e w' => ∃ v', e = .returned v' ∧ StrsAt w' v' l ∧ (∀ a n c, v' = .slice (some a) n c → 0 < n → w.heap.size ≤ a.block) ∧ Calm w w' := by
  rcases h with ⟨rfl, a, cap, rfl⟩ | ⟨b, off, cap, rfl, hc⟩
  · cases a with
    | none => exact (Tryd.slices_Clone_string_nil 0 cap w).mono fun e w' ⟨he, hw⟩ => ⟨_, he, .inl ⟨rfl, _, _, rfl⟩, (fun _ _ _ e => by cases e), by rw [hw]; exact Calm.refl _⟩
    | some a => exact (Tryd.slices_Clone_string_zero a cap w).mono fun e w' ⟨v', he, hr, _, hb⟩ => ⟨v', he, strs_own (l := []) hr, own_from hr, hb⟩
  · refine (Tryd.slices_Clone_string b off l.length cap l w (Nat.le_refl _) (by omega) (fun j hj => hc j hj)).mono fun e w' ⟨v', he, hr, _, hb⟩ => ⟨v', he, ?_, own_from hr, hb⟩
    rw [List.take_length] at hr
    exact strs_own hr
theorem calm_setCell {a w : World} (h : Calm a w) {p : Addr} (hp : a.heap.size ≤ p.block) (u : Value) : Calm a (w.setCell p u) :=
  ((Keeps.of_calm (F := fun b => a.heap.size ≤ b) h).setCell (.inr hp) u).below (Nat.le_refl _) (fun _ h => h)
theorem list10 (l : List Value) (h : l.length = 10) : ∃ a0 a1 a2 a3 a4 a5 a6 a7 a8 a9, l = [a0, a1, a2, a3, a4, a5, a6, a7, a8, a9] := by
  match l, h with
  | [a0, a1, a2, a3, a4, a5, a6, a7, a8, a9], _ => exact ⟨_, _, _, _, _, _, _, _, _, _, rfl⟩
theorem put_msg {w : World} {b : Nat} {c : Array Value} {T : TypeId} (h : w.heap[b]? = some (.cells c T (0, 0))) (hc : c.size = 10) (u0 u1 u2 u3 u4 u5 u6 u7 u8 u9 : Value) :
    ((((((((((w.setCell ⟨b, 0, none⟩ u0).setCell ⟨b, 1, none⟩ u1).setCell ⟨b, 2, none⟩ u2).setCell ⟨b, 3, none⟩ u3).setCell ⟨b, 4, none⟩ u4).setCell ⟨b, 5, none⟩ u5).setCell ⟨b, 6, none⟩ u6).setCell ⟨b, 7, none⟩ u7).setCell ⟨b, 8, none⟩ u8).setCell ⟨b, 9, none⟩ u9).heap[b]? = some (.cells #[u0, u1, u2, u3, u4, u5, u6, u7, u8, u9] T (0, 0)) := by
  have h10 := heap_set (heap_set (heap_set (heap_set (heap_set (heap_set (heap_set (heap_set (heap_set (heap_set (h) 0 u0) 1 u1) 2 u2) 3 u3) 4 u4) 5 u5) 6 u6) 7 u7) 8 u8) 9 u9
  obtain ⟨l⟩ := c
  obtain ⟨a0, a1, a2, a3, a4, a5, a6, a7, a8, a9, rfl⟩ := list10 l hc
  simp only [List.setIfInBounds_toArray, List.set_cons_zero, List.set_cons_succ] at h10
  exact h10
theorem keeps_put_msg {F : Nat → Prop} {a w : World} (h : Keeps F a w) {b : Nat} (hb : F b) (u0 u1 u2 u3 u4 u5 u6 u7 u8 u9 : Value) : Keeps F a ((((((((((w.setCell ⟨b, 0, none⟩ u0).setCell ⟨b, 1, none⟩ u1).setCell ⟨b, 2, none⟩ u2).setCell ⟨b, 3, none⟩ u3).setCell ⟨b, 4, none⟩ u4).setCell ⟨b, 5, none⟩ u5).setCell ⟨b, 6, none⟩ u6).setCell ⟨b, 7, none⟩ u7).setCell ⟨b, 8, none⟩ u8).setCell ⟨b, 9, none⟩ u9) :=
  Keeps.setCell (Keeps.setCell (Keeps.setCell (Keeps.setCell (Keeps.setCell (Keeps.setCell (Keeps.setCell (Keeps.setCell (Keeps.setCell (Keeps.setCell (h) (p := ⟨b, 0, none⟩) (.inl hb) u0) (p := ⟨b, 1, none⟩) (.inl hb) u1) (p := ⟨b, 2, none⟩) (.inl hb) u2) (p := ⟨b, 3, none⟩) (.inl hb) u3) (p := ⟨b, 4, none⟩) (.inl hb) u4) (p := ⟨b, 5, none⟩) (.inl hb) u5) (p := ⟨b, 6, none⟩) (.inl hb) u6) (p := ⟨b, 7, none⟩) (.inl hb) u7) (p := ⟨b, 8, none⟩) (.inl hb) u8) (p := ⟨b, 9, none⟩) (.inl hb) u9
theorem strs_keep {F : Nat → Prop} {w w' : World} {v : Value} {l : List ByteArray} (h : StrsAt w v l) (k : Keeps F w w') (hF : ∀ a n c, v = .slice (some a) n c → 0 < n → ¬ F a.block) : StrsAt w' v l := by
  rcases h with h | ⟨b, off, cap, rfl, hc⟩
  · exact .inl h
  · refine .inr ⟨b, off, cap, rfl, fun j hj => ?_⟩
    have h1 := hc j hj
    have hlt := World.block_lt_of_cell? w ⟨b, off + j, none⟩ h1
    rw [World.cell?_of_block (w := w) (a := ⟨b, off + j, none⟩) (k.block b hlt (hF _ _ _ rfl (by omega)))]
    exact h1
theorem calm_put_msg {a w : World} (h : Calm a w) {b : Nat} (hb : a.heap.size ≤ b) (u0 u1 u2 u3 u4 u5 u6 u7 u8 u9 : Value) : Calm a ((((((((((w.setCell ⟨b, 0, none⟩ u0).setCell ⟨b, 1, none⟩ u1).setCell ⟨b, 2, none⟩ u2).setCell ⟨b, 3, none⟩ u3).setCell ⟨b, 4, none⟩ u4).setCell ⟨b, 5, none⟩ u5).setCell ⟨b, 6, none⟩ u6).setCell ⟨b, 7, none⟩ u7).setCell ⟨b, 8, none⟩ u8).setCell ⟨b, 9, none⟩ u9) :=
  calm_setCell (calm_setCell (calm_setCell (calm_setCell (calm_setCell (calm_setCell (calm_setCell (calm_setCell (calm_setCell (calm_setCell (h) (p := ⟨b, 0, none⟩) hb u0) (p := ⟨b, 1, none⟩) hb u1) (p := ⟨b, 2, none⟩) hb u2) (p := ⟨b, 3, none⟩) hb u3) (p := ⟨b, 4, none⟩) hb u4) (p := ⟨b, 5, none⟩) hb u5) (p := ⟨b, 6, none⟩) hb u6) (p := ⟨b, 7, none⟩) hb u7) (p := ⟨b, 8, none⟩) hb u8) (p := ⟨b, 9, none⟩) hb u9
end Go.Proofs.YtofffmnkoelifaaDoor.rc
