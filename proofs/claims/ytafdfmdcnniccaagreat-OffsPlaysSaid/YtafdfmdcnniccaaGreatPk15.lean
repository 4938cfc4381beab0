/- Layer 14: order of offsets. -/
import Derived.Test.YtafdfmdcnniccaaGreatRows
import Derived.WalkKit
import Derived.ProofKit
import Derived.OpenShut
import Derived.Handy
import Derived.Deep.LoopGhost
import Derived.Lib.Hide
import Derived.Lib.Strings
import Derived.SizedLaws
import Derived.Maps.Own
import Derived.Maps.OwnOps
import Derived.Maps.OwnSet
import Derived.Maps.RangeWalk
import Derived.Deep.QuietTactic
import Derived.BigQuiet
import Derived.Deep.RegionHeld3
import Derived.Lib.ConvBytes
import Derived.Lib.AppendZeros
import Derived.Lib.AppendZerosOnto
import Derived.Lib.LazyBuf
import Derived.Shelf.Abstract
import Derived.LaidEql
import Derived.Lib.SliceRun
import Derived.StillTailTactics
import Derived.Deep.Slices
import Derived.Outline
import Derived.Laws.Cover1
import Derived.Deep.RegionLaw
import Derived.Deep.DeepCutAuto
import Derived.Deep.CutBlock
import Derived.Test.YtafdfmdcnniccaaGreatPk14
namespace Go.Proofs.YtafdfmdcnniccaaGreat.ofs
open Go.ChangeShapes Go.WideShapes Go.ChangeAt Go.RowKit
open Go.Proofs.YtafdfmdcnniccaaGreat.dk

set_option maxRecDepth 100000 in
set_option maxHeartbeats 4000000 in
theorem order_any (x y : OffS) (w : World) :
    Calls Tryz.prog 25 #[.agg (offA x), .agg (offA y)] w fun e w' => e = .returned (.int .i64 (ordO x y)) ∧ Calm w w' := by
  obtain ⟨xg, xt, xq, xa⟩ := x
  obtain ⟨yg, yt, yq, ya⟩ := y
  unfold offA
  simp only
  have h0 := (Calm.refl w).alloc (.cells #[.string xg, .string xt, .int .i64 xq, .int .i64 xa] 31)
  have hn0 := heap_new w (.cells #[.string xg, .string xt, .int .i64 xq, .int .i64 xa] 31)
  obtain ⟨w1, hw1⟩ : ∃ w1, w.alloc (.cells #[.string xg, .string xt, .int .i64 xq, .int .i64 xa] 31) = w1 := ⟨_, rfl⟩
  rw [hw1] at h0 hn0
  have h1 := (Calm.refl w1).alloc (.cells #[.string yg, .string yt, .int .i64 yq, .int .i64 ya] 31)
  have hn1 := heap_new w1 (.cells #[.string yg, .string yt, .int .i64 yq, .int .i64 ya] 31)
  obtain ⟨w2, hw2⟩ : ∃ w2, w1.alloc (.cells #[.string yg, .string yt, .int .i64 yq, .int .i64 ya] 31) = w2 := ⟨_, rfl⟩
  rw [hw2] at h1 hn1
  have hm0 := heap_calm h1 hn0
  have hcells := box (fun W (hc : Calm w2 W) => (show W.cell? ⟨w.heap.size, 0, none⟩ = some (.string xg) ∧ W.cell? ⟨w.heap.size, 1, none⟩ = some (.string xt) ∧ W.cell? ⟨w.heap.size, 2, none⟩ = some (.int .i64 xq) ∧ W.cell? ⟨w1.heap.size, 0, none⟩ = some (.string yg) ∧ W.cell? ⟨w1.heap.size, 1, none⟩ = some (.string yt) ∧ W.cell? ⟨w1.heap.size, 2, none⟩ = some (.int .i64 yq) from
    ⟨cell_of (heap_calm hc hm0) 0, cell_of (heap_calm hc hm0) 1, cell_of (heap_calm hc hm0) 2, cell_of (heap_calm hc hn1) 0, cell_of (heap_calm hc hn1) 1, cell_of (heap_calm hc hn1) 2⟩))
  have Hc2 := box (h0.trans h1)
  have x0 := cell_of hm0 0
  have x1 := cell_of hm0 1
  have x2 := cell_of hm0 2
  have y0 := cell_of hn1 0
  have y1 := cell_of hn1 1
  have y2 := cell_of hn1 2
  have hg := box (fun W => CmpS_any xg yg W)
  have ht := box (fun W => CmpS_any xt yt W)
  have hq := box (fun W => CmpI_any xq yq W)
  have hr : ordO ⟨xg, xt, xq, xa⟩ ⟨yg, yt, yq, ya⟩ = or3 (cmpB xg yg) (cmpB xt yt) (cmpI xq yq) := rfl
  rw [hr]
  obtain ⟨a, ha⟩ : ∃ a, cmpB xg yg = a := ⟨_, rfl⟩
  obtain ⟨b, hb⟩ : ∃ b, cmpB xt yt = b := ⟨_, rfl⟩
  obtain ⟨c, hc⟩ : ∃ c, cmpI xq yq = c := ⟨_, rfl⟩
  rw [ha] at hg ⊢
  rw [hb] at ht ⊢
  rw [hc] at hq ⊢
  have hor := box (fun (W : World) => Or3_any W.heap.size a b c (W.alloc (.cells #[.int .i64 a, .int .i64 b, .int .i64 c] 3)).drew (cell_of (w := (W.alloc (.cells #[.int .i64 a, .int .i64 b, .int .i64 c] 3)).drew) (heap_new W _) 0) (cell_of (w := (W.alloc (.cells #[.int .i64 a, .int .i64 b, .int .i64 c] 3)).drew) (heap_new W _) 1) (cell_of (w := (W.alloc (.cells #[.int .i64 a, .int .i64 b, .int .i64 c] 3)).drew) (heap_new W _) 2) (heap_lt (w := (W.alloc (.cells #[.int .i64 a, .int .i64 b, .int .i64 c] 3)).drew) (heap_new W _)))
  clear ha hb hc hr h0 h1 hn0 hn1 hm0
  go_enter Tryz.func25, Tryz.ntmps25
  go_upto_region 1 with fail
  clear hw1 hw2
  refine wp_region_held_drew (S := fun w' => Box (w'.cell? ⟨w.heap.size, 0, none⟩ = some (.string xg) ∧ w'.cell? ⟨w.heap.size, 1, none⟩ = some (.string xt) ∧ w'.cell? ⟨w.heap.size, 2, none⟩ = some (.int .i64 xq) ∧ w'.cell? ⟨w1.heap.size, 0, none⟩ = some (.string yg) ∧ w'.cell? ⟨w1.heap.size, 1, none⟩ = some (.string yt) ∧ w'.cell? ⟨w1.heap.size, 2, none⟩ = some (.int .i64 yq)) ∧ Box True) (by kernel_rfl) ⟨box ⟨x0, x1, x2, y0, y1, y2⟩, box trivial⟩ (fun hHeld0 => ?_)
  clear x0 x1 x2 y0 y1 y2
  ((refine' wpAnyH_take (i := 0) (v := _) rfl (by kernel_rfl) (by kernel_rfl) (by kernel_rfl) (fun _ _ _ h => h) (Or.inl ⟨by rfl, ?hy473⟩) (by assumption) ?rest473; (case hy473 => (intro w hSw; (try dsimp only at hSw); go_simp <;> with_reducible rfl)); simp only [List.getElem_toArray, List.getElem_cons_succ, List.getElem_cons_zero, Act.put, List.setIfInBounds_toArray, List.set_cons_zero, List.set_cons_succ]))
  ((refine' wpAnyH_take (i := 1) (v := _) rfl (by kernel_rfl) (by kernel_rfl) (by kernel_rfl) (fun _ _ _ h => h) (Or.inl ⟨by rfl, ?hy474⟩) (by assumption) ?rest474; (case hy474 => (intro w hSw; obtain ⟨⟨hSw1⟩, ⟨hSw2⟩⟩ := hSw; go_simp <;> with_reducible rfl)); simp only [List.getElem_toArray, List.getElem_cons_succ, List.getElem_cons_zero, Act.put, List.setIfInBounds_toArray, List.set_cons_zero, List.set_cons_succ]))
  ((refine' wpAnyH_take (i := 2) (v := _) rfl (by kernel_rfl) (by kernel_rfl) (by kernel_rfl) (fun _ _ _ h => h) (Or.inl ⟨by rfl, ?hy475⟩) (by assumption) ?rest475; (case hy475 => (intro w hSw; (try dsimp only at hSw); go_simp <;> with_reducible rfl)); simp only [List.getElem_toArray, List.getElem_cons_succ, List.getElem_cons_zero, Act.put, List.setIfInBounds_toArray, List.set_cons_zero, List.set_cons_succ]))
  ((refine' wpAnyH_take (i := 3) (v := _) rfl (by kernel_rfl) (by kernel_rfl) (by kernel_rfl) (fun _ _ _ h => h) (Or.inl ⟨by rfl, ?hy476⟩) (by assumption) ?rest476; (case hy476 => (intro w hSw; obtain ⟨⟨hSw1⟩, ⟨hSw2⟩⟩ := hSw; go_simp <;> with_reducible rfl)); simp only [List.getElem_toArray, List.getElem_cons_succ, List.getElem_cons_zero, Act.put, List.setIfInBounds_toArray, List.set_cons_zero, List.set_cons_succ]))
  ((refine' wpAnyH_take (i := 5) (v := _) rfl (by kernel_rfl) (by kernel_rfl) (by kernel_rfl) (fun _ _ _ h => h) (Or.inl ⟨by rfl, ?hy477⟩) (by assumption) ?rest477; (case hy477 => (intro w hSw; (try dsimp only at hSw); go_simp <;> with_reducible rfl)); simp only [List.getElem_toArray, List.getElem_cons_succ, List.getElem_cons_zero, Act.put, List.setIfInBounds_toArray, List.set_cons_zero, List.set_cons_succ]))
  ((refine' wpAnyH_take (i := 6) (v := _) rfl (by kernel_rfl) (by kernel_rfl) (by kernel_rfl) (fun _ _ _ h => h) (Or.inl ⟨by rfl, ?hy478⟩) (by assumption) ?rest478; (case hy478 => (intro w hSw; obtain ⟨⟨hSw1⟩, ⟨hSw2⟩⟩ := hSw; go_simp <;> with_reducible rfl)); simp only [List.getElem_toArray, List.getElem_cons_succ, List.getElem_cons_zero, Act.put, List.setIfInBounds_toArray, List.set_cons_zero, List.set_cons_succ]))
  ((refine' wpAnyH_take (i := 7) (v := _) rfl (by kernel_rfl) (by kernel_rfl) (by kernel_rfl) (fun _ _ _ h => h) (Or.inl ⟨by rfl, ?hy479⟩) (by assumption) ?rest479; (case hy479 => (intro w hSw; (try dsimp only at hSw); go_simp <;> with_reducible rfl)); simp only [List.getElem_toArray, List.getElem_cons_succ, List.getElem_cons_zero, Act.put, List.setIfInBounds_toArray, List.set_cons_zero, List.set_cons_succ]))
  ((refine' wpAnyH_take (i := 8) (v := _) rfl (by kernel_rfl) (by kernel_rfl) (by kernel_rfl) (fun _ _ _ h => h) (Or.inl ⟨by rfl, ?hy480⟩) (by assumption) ?rest480; (case hy480 => (intro w hSw; obtain ⟨⟨hSw1⟩, ⟨hSw2⟩⟩ := hSw; go_simp <;> with_reducible rfl)); simp only [List.getElem_toArray, List.getElem_cons_succ, List.getElem_cons_zero, Act.put, List.setIfInBounds_toArray, List.set_cons_zero, List.set_cons_succ]))
  ((refine' wpAnyH_take (i := 10) (v := _) rfl (by kernel_rfl) (by kernel_rfl) (by kernel_rfl) (fun _ _ _ h => h) (Or.inl ⟨by rfl, ?hy481⟩) (by assumption) ?rest481; (case hy481 => (intro w hSw; (try dsimp only at hSw); go_simp <;> with_reducible rfl)); simp only [List.getElem_toArray, List.getElem_cons_succ, List.getElem_cons_zero, Act.put, List.setIfInBounds_toArray, List.set_cons_zero, List.set_cons_succ]))
  ((refine' wpAnyH_take (i := 11) (v := _) rfl (by kernel_rfl) (by kernel_rfl) (by kernel_rfl) (fun _ _ _ h => h) (Or.inl ⟨by rfl, ?hy482⟩) (by assumption) ?rest482; (case hy482 => (intro w hSw; obtain ⟨⟨hSw1⟩, ⟨hSw2⟩⟩ := hSw; go_simp <;> with_reducible rfl)); simp only [List.getElem_toArray, List.getElem_cons_succ, List.getElem_cons_zero, Act.put, List.setIfInBounds_toArray, List.set_cons_zero, List.set_cons_succ]))
  ((refine' wpAnyH_take (i := 12) (v := _) rfl (by kernel_rfl) (by kernel_rfl) (by kernel_rfl) (fun _ _ _ h => h) (Or.inl ⟨by rfl, ?hy483⟩) (by assumption) ?rest483; (case hy483 => (intro w hSw; (try dsimp only at hSw); go_simp <;> with_reducible rfl)); simp only [List.getElem_toArray, List.getElem_cons_succ, List.getElem_cons_zero, Act.put, List.setIfInBounds_toArray, List.set_cons_zero, List.set_cons_succ]))
  ((refine' wpAnyH_take (i := 13) (v := _) rfl (by kernel_rfl) (by kernel_rfl) (by kernel_rfl) (fun _ _ _ h => h) (Or.inl ⟨by rfl, ?hy484⟩) (by assumption) ?rest484; (case hy484 => (intro w hSw; obtain ⟨⟨hSw1⟩, ⟨hSw2⟩⟩ := hSw; go_simp <;> with_reducible rfl)); simp only [List.getElem_toArray, List.getElem_cons_succ, List.getElem_cons_zero, Act.put, List.setIfInBounds_toArray, List.set_cons_zero, List.set_cons_succ]))
  refine wpAnyH_ready (rs := [4]) (by kernel_rfl) (by simp) ?_
  refine AllReadyH.cons rfl (fun K hK => ?_) AllReadyH.nil
  rw [if_pos (by rfl)]
  go_simp
  refine (hg.out _).mono ?_
  rintro e w5 ⟨rfl, rfl⟩
  go_wp2_with fail
  refine hK.out _ _ hHeld0 (fun hHeld1 => ?_)
  clear hK K
  try simp only [List.getElem_toArray, List.getElem_cons_succ, List.getElem_cons_zero, Act.put, List.setIfInBounds_toArray, List.set_cons_zero, List.set_cons_succ]
  refine wpAnyH_ready (rs := [9]) (by kernel_rfl) (by simp) ?_
  refine AllReadyH.cons rfl (fun K hK => ?_) AllReadyH.nil
  rw [if_pos (by rfl)]
  go_simp
  refine (ht.out _).mono ?_
  rintro e w5 ⟨rfl, rfl⟩
  go_wp2_with fail
  refine hK.out _ _ hHeld1 (fun hHeld2 => ?_)
  clear hK K
  try simp only [List.getElem_toArray, List.getElem_cons_succ, List.getElem_cons_zero, Act.put, List.setIfInBounds_toArray, List.set_cons_zero, List.set_cons_succ]
  refine wpAnyH_ready (rs := [14]) (by kernel_rfl) (by simp) ?_
  refine AllReadyH.cons rfl (fun K hK => ?_) AllReadyH.nil
  rw [if_pos (by rfl)]
  go_simp
  refine (hq.out _).mono ?_
  rintro e w5 ⟨rfl, rfl⟩
  go_wp2_with fail
  refine hK.out _ _ hHeld2 (fun hHeld3 => ?_)
  clear hK K
  try simp only [List.getElem_toArray, List.getElem_cons_succ, List.getElem_cons_zero, Act.put, List.setIfInBounds_toArray, List.set_cons_zero, List.set_cons_succ]
  refine wpAnyH_ready (rs := [15]) (by kernel_rfl) (by simp) ?_
  refine AllReadyH.cons rfl (fun K hK => ?_) AllReadyH.nil
  rw [if_pos (by rfl)]
  go_simp
  refine hK.out _ _ ⟨box (hcells.out _ ((Calm.refl w2).alloc _).drew), box trivial⟩ (fun hHeld4 => ?_)
  clear hK K
  try simp only [List.getElem_toArray, List.getElem_cons_succ, List.getElem_cons_zero, Act.put, List.setIfInBounds_toArray, List.set_cons_zero, List.set_cons_succ]
  refine wpAnyH_ready (rs := [16]) (by kernel_rfl) (by simp) ?_
  refine AllReadyH.cons rfl (fun K hK => ?_) AllReadyH.nil
  rw [if_pos (by rfl)]
  go_simp
  refine (hor.out _).mono ?_
  rintro e w5 ⟨rfl, rfl⟩
  go_wp2_with fail
  refine hK.out _ _ hHeld4 (fun hHeld5 => ?_)
  clear hK K
  try simp only [List.getElem_toArray, List.getElem_cons_succ, List.getElem_cons_zero, Act.put, List.setIfInBounds_toArray, List.set_cons_zero, List.set_cons_succ]
  ((refine' wpAnyH_take (i := 17) (v := _) rfl (by kernel_rfl) (by kernel_rfl) (by kernel_rfl) (fun _ _ _ h => h) (Or.inl ⟨by rfl, ?hy485⟩) (by assumption) ?rest485; (case hy485 => (intro w hSw; (try dsimp only at hSw); go_simp <;> with_reducible rfl)); simp only [List.getElem_toArray, List.getElem_cons_succ, List.getElem_cons_zero, Act.put, List.setIfInBounds_toArray, List.set_cons_zero, List.set_cons_succ]))
  refine wpAnyH_done (by kernel_rfl) ?_ _
  go_wp2_with fail
  go_ret
  exact ⟨rfl, Hc2.out.trans ((Calm.refl w2).alloc _).drew⟩
end Go.Proofs.YtafdfmdcnniccaaGreat.ofs

/- Layer 14: rows of offsets; the search. -/
namespace Go.Proofs.YtafdfmdcnniccaaGreat.ofs
open Go.ChangeShapes Go.WideShapes Go.ChangeAt Go.RowKit
open Go.Proofs.YtafdfmdcnniccaaGreat.dk

def encO (x : OffS) : List Value := [.string x.group, .string x.topic, .int .i64 x.queue, .int .i64 x.at_]
theorem encO_length (x : OffS) : (encO x).length = 4 := rfl
theorem encO_get : ∀ (L : List OffS) (j : Nat) (hj : j < L.length), (L.flatMap encO)[j * 4]? = some (.string L[j].group) ∧ (L.flatMap encO)[j * 4 + 1]? = some (.string L[j].topic) ∧ (L.flatMap encO)[j * 4 + 2]? = some (.int .i64 L[j].queue) ∧ (L.flatMap encO)[j * 4 + 3]? = some (.int .i64 L[j].at_)
  | x :: L, 0, _ => ⟨rfl, rfl, rfl, rfl⟩
  | x :: L, j + 1, hj => by
    have := encO_get L j (by simpa using hj)
    simp only [List.flatMap_cons, List.getElem_cons_succ]
    have e : ∀ k, (encO x ++ L.flatMap encO)[(j + 1) * 4 + k]? = (L.flatMap encO)[j * 4 + k]? := fun k => by
      rw [List.getElem?_append_right (by simp [encO]; omega)]; congr 1; simp [encO]; omega
    have e0 := e 0
    simp only [Nat.add_zero] at e0
    rw [e0, e 1, e 2, e 3]; exact this
theorem encO_flat (l : List OffS) : (l.flatMap encO).length = l.length * 4 := by
  induction l with
  | nil => rfl
  | cons a l ih => simp [encO, ih]; omega
/-- An offset lies at a place. -/
def OffCells (w : World) (b o : Nat) (x : OffS) : Prop := w.cell? ⟨b, o, none⟩ = some (.string x.group) ∧ w.cell? ⟨b, o + 1, none⟩ = some (.string x.topic) ∧ w.cell? ⟨b, o + 2, none⟩ = some (.int .i64 x.queue) ∧ w.cell? ⟨b, o + 3, none⟩ = some (.int .i64 x.at_)
/-- A slice value that reads as a list of offsets. -/
def OffsAt (w : World) (v : Value) (l : List OffS) : Prop := ∃ a cap, v = .slice a l.length cap ∧ (a = none ∨ ∃ b off, a = some ⟨b, off, none⟩) ∧ ∀ i (hi : i < l.length), ∃ b off, a = some ⟨b, off, none⟩ ∧ b < w.heap.size ∧ OffCells w b (off + i * 4) l[i]
theorem OffsAt.keep {w w' : World} {v : Value} {l : List OffS} {F : Nat → Prop} (h : OffsAt w v l) (k : Keeps F w w') (hx : ∀ b, v.ownBlock = some b → ¬ F b) : OffsAt w' v l := by
  obtain ⟨a, cap, rfl, hp, hc⟩ := h
  refine ⟨a, cap, rfl, hp, fun i hi => ?_⟩
  obtain ⟨b, off, rfl, hb, c0, c1, c2, c3⟩ := hc i hi
  have hk := k.block b hb (hx b rfl)
  have e : ∀ o, w'.cell? ⟨b, o, none⟩ = w.cell? ⟨b, o, none⟩ := fun o => by unfold World.cell?; rw [hk]
  exact ⟨b, off, rfl, Nat.lt_of_lt_of_le hb k.size, by rw [e]; exact c0, by rw [e]; exact c1, by rw [e]; exact c2, by rw [e]; exact c3⟩
theorem OffsAt.calm {w w' : World} {v : Value} {l : List OffS} (h : OffsAt w v l) (hc : Calm w w') : OffsAt w' v l := h.keep (F := fun _ => False) (.of_calm hc) (fun _ _ h => h)
abbrev offRow (B : Nat) (w : World) (v : Value) (l : List OffS) : Prop := w.ownsRow B 31 4 v l.length (l.flatMap encO)
theorem offRow.offs {B : Nat} {w : World} {v : Value} {l : List OffS} (h : offRow B w v l) : OffsAt w v l := by
  rcases h.2 with ⟨rfl, hn⟩ | ⟨g, cap, cur, rfl, hb, hg, hnc, hcm, hcs, htake⟩
  · exact ⟨none, 0, by rw [hn], .inl rfl, fun i hi => by omega⟩
  · refine ⟨_, cap, rfl, .inr ⟨g, 0, rfl⟩, fun i hi => ⟨g, 0, rfl, heap_lt hg, ?_⟩⟩
    have hc : ∀ j u, (l.flatMap encO)[j]? = some u → w.cell? ⟨g, j, none⟩ = some u := fun j u hj => by
      have := h.cells (g := g) rfl j u hj
      rwa [add_lit] at this
    obtain ⟨h0, h1, h2, h3⟩ := encO_get l i hi
    unfold OffCells
    rw [Nat.zero_add]
    exact ⟨hc _ _ h0, hc _ _ h1, hc _ _ h2, hc _ _ h3⟩
theorem infoOff : (Tryz.prog.info? 31).map (fun i => (i.zero, i.size, i.bytes)) = some (some (.agg #[.string ⟨#[]⟩, .string ⟨#[]⟩, .int .i64 0, .int .i64 0]), 4, 48) := by kernel_rfl
set_option maxRecDepth 100000 in
set_option maxHeartbeats 4000000 in
/-- The search. -/
theorem Search_any (v : Value) (l : List OffS) (x : OffS) (w : World) (h : OffsAt w v l) (hl : l.length ≤ 1000000) (hR : Rising l) :
    Calls Tryz.prog 24 #[v, .agg (offA x), .func (.func 25) #[] #[]] w fun e w' => e = .returned (.tuple #[.int .i64 (placeO l x : Nat), .bool (findO l x).isSome]) ∧ Calm w w' := by
  obtain ⟨a, cap, rfl, _, hc⟩ := h
  obtain ⟨i1, i2, i3, i4, i5⟩ := set_place l x hR
  clear i4
  have Hlt := box i1
  have Hge := box i2
  have Hc := box hc
  have hmono : ∀ m, m ≤ l.length → (∀ t, t < m → ordO l[t]! x < 0) → (∀ t, m ≤ t → t < l.length → 0 ≤ ordO l[t]! x) → placeO l x = m := fun m hm h1 h2 => by
    rcases Nat.lt_trichotomy m (placeO l x) with hlt | heq | hgt
    · have := h2 m (Nat.le_refl _) (by omega); have := i1 m hlt; omega
    · exact heq.symm
    · have := h1 (placeO l x) hgt; have := i2 (placeO l x) (Nat.le_refl _) (by omega); omega
  have Hm := box hmono
  have H5 := box (show (findO l x).isSome = (decide (placeO l x < l.length) && decide (ordO l[placeO l x]! x = 0)) by
    rw [i5]
    by_cases hq : placeO l x < l.length ∧ ordO l[placeO l x]! x = 0
    · rw [if_pos hq, decide_eq_true hq.1, decide_eq_true hq.2]; rfl
    · rw [if_neg hq]
      exact (Bool.eq_false_iff.2 (fun h => by rw [Bool.and_eq_true, decide_eq_true_eq, decide_eq_true_eq] at h; exact hq h)).symm)
  have Hsl := box (fun (i j : Nat) (hij : i ≤ j) (hj : j < l.length) (h1 : ordO l[j]! x < 0) => (show ordO l[i]! x < 0 from by
    by_cases hi : i < placeO l x
    · exact i1 i hi
    · have := i2 j (by omega) hj; omega))
  obtain ⟨P, hP⟩ : ∃ P, placeO l x = P := ⟨_, rfl⟩
  rw [hP] at i3 H5 Hm ⊢
  obtain ⟨fo, hfo⟩ : ∃ fo, (findO l x).isSome = fo := ⟨_, rfl⟩
  rw [hfo] at H5 ⊢
  clear hc i1 i2 i5 hmono hP hfo hR Hlt Hge
  have hord := box (fun (y : OffS) (W : World) => order_any y x W)
  obtain ⟨xg, xt, xq, xa⟩ := x
  unfold offA at hord ⊢
  simp only at hord ⊢
  have hn0 := heap_new w (.cells #[.string xg, .string xt, .int .i64 xq, .int .i64 xa] 31)
  have Hn0 := box hn0
  have HC0 := box ((Calm.refl w).alloc (.cells #[.string xg, .string xt, .int .i64 xq, .int .i64 xa] 31))
  clear hn0
  go_enter Tryz.func24, Tryz.ntmps24
  go_wp2_with fail
  go_loopw [9, 10] (fun s9 s10 wr => ∃ lo hi : Nat, s9 = .int .i64 lo ∧ s10 = .int .i64 hi ∧ lo ≤ hi ∧ hi ≤ l.length ∧ Box ((∀ t, t < lo → ordO l[t]! ⟨xg, xt, xq, xa⟩ < 0) ∧ (∀ t, hi ≤ t → t < l.length → 0 ≤ ordO l[t]! ⟨xg, xt, xq, xa⟩)) ∧ Calm (w.alloc (.cells #[.string xg, .string xt, .int .i64 xq, .int .i64 xa] 31)) wr) (fun s9 s10 _ => (intOf s10).toNat - (intOf s9).toNat)
  case atStart => exact ⟨0, l.length, rfl, rfl, Nat.zero_le _, Nat.le_refl _, box ⟨fun t ht => absurd ht (Nat.not_lt_zero _), fun t h1 h2 => by omega⟩, .refl _⟩
  case round =>
    obtain ⟨lo, hi, rfl, rfl, hlh, hhn, HB, hcr⟩ := hrel
    have HCr := box hcr
    have jt := heap_calm hcr Hn0.out
    have t0 := cell_of jt 0
    have t1 := cell_of jt 1
    have t2 := cell_of jt 2
    have t3 := cell_of jt 3
    have tlt := heap_lt jt
    clear jt hcr
    obtain ⟨wo, hwo⟩ : ∃ wo : World, wo = wr := ⟨_, rfl⟩
    subst hwo
    by_cases hlt : lo < hi
    · obtain ⟨m, hm⟩ : ∃ m, (lo + hi) / 2 = m := ⟨_, rfl⟩
      obtain ⟨b, off, rfl, hb, d0, d1, d2, d3⟩ := Hc.out m (by omega)
      have c0 := ((HC0.out.trans HCr.out).cell (p := ⟨b, off + m * 4, none⟩) hb).trans d0
      have c1 := ((HC0.out.trans HCr.out).cell (p := ⟨b, off + m * 4 + 1, none⟩) hb).trans d1
      have c2 := ((HC0.out.trans HCr.out).cell (p := ⟨b, off + m * 4 + 2, none⟩) hb).trans d2
      have c3 := ((HC0.out.trans HCr.out).cell (p := ⟨b, off + m * 4 + 3, none⟩) hb).trans d3
      have hb' := Nat.lt_of_lt_of_le hb (HC0.out.trans HCr.out).size
      have hgm := box (getElem!_pos l m (by omega))
      obtain ⟨⟨yg, yt, yq, ya⟩, hy⟩ : ∃ y, l[m] = y := ⟨_, rfl⟩
      simp only [hy] at c0 c1 c2 c3 hgm
      have ho := box (hord.out ⟨yg, yt, yq, ya⟩)
      simp only at ho
      obtain ⟨z, hz⟩ : ∃ z, ordO ⟨yg, yt, yq, ya⟩ ⟨xg, xt, xq, xa⟩ = z := ⟨_, rfl⟩
      rw [hz] at ho
      have Hz := box hz
      clear d0 d1 d2 d3 hy hz hord
      have hm2 : ((lo : Int) + (hi : Int)) / 2 = (m : Int) := by omega
      have hml : m < l.length := by omega
      have Hcells := box (show wo.cell? ⟨b, off + m * 4, none⟩ = some (.string yg) ∧ wo.cell? ⟨b, off + m * 4 + 1, none⟩ = some (.string yt) ∧ wo.cell? ⟨b, off + m * 4 + 2, none⟩ = some (.int .i64 yq) ∧ wo.cell? ⟨b, off + m * 4 + 3, none⟩ = some (.int .i64 ya) ∧ wo.cell? ⟨w.heap.size, 0, none⟩ = some (.string xg) ∧ wo.cell? ⟨w.heap.size, 1, none⟩ = some (.string xt) ∧ wo.cell? ⟨w.heap.size, 2, none⟩ = some (.int .i64 xq) ∧ wo.cell? ⟨w.heap.size, 3, none⟩ = some (.int .i64 xa) from ⟨c0, c1, c2, c3, t0, t1, t2, t3⟩)
      have hcall := box (fun W (hc : Calm wo W) => (show W.cell? ⟨b, off + m * 4, none⟩ = some (.string yg) ∧ W.cell? ⟨b, off + m * 4 + 1, none⟩ = some (.string yt) ∧ W.cell? ⟨b, off + m * 4 + 2, none⟩ = some (.int .i64 yq) ∧ W.cell? ⟨b, off + m * 4 + 3, none⟩ = some (.int .i64 ya) ∧ W.cell? ⟨w.heap.size, 0, none⟩ = some (.string xg) ∧ W.cell? ⟨w.heap.size, 1, none⟩ = some (.string xt) ∧ W.cell? ⟨w.heap.size, 2, none⟩ = some (.int .i64 xq) ∧ W.cell? ⟨w.heap.size, 3, none⟩ = some (.int .i64 xa) from
        ⟨(hc.cell (p := ⟨b, off + m * 4, none⟩) hb').trans c0, (hc.cell (p := ⟨b, off + m * 4 + 1, none⟩) hb').trans c1, (hc.cell (p := ⟨b, off + m * 4 + 2, none⟩) hb').trans c2, (hc.cell (p := ⟨b, off + m * 4 + 3, none⟩) hb').trans c3, (hc.cell (p := ⟨w.heap.size, 0, none⟩) tlt).trans t0, (hc.cell (p := ⟨w.heap.size, 1, none⟩) tlt).trans t1, (hc.cell (p := ⟨w.heap.size, 2, none⟩) tlt).trans t2, (hc.cell (p := ⟨w.heap.size, 3, none⟩) tlt).trans t3⟩))
      go_upto_region 5 with fail
      go_region_held3 (fun w' => w'.cell? ⟨b, off + m * 4, none⟩ = some (.string yg) ∧ w'.cell? ⟨b, off + m * 4 + 1, none⟩ = some (.string yt) ∧ w'.cell? ⟨b, off + m * 4 + 2, none⟩ = some (.int .i64 yq) ∧ w'.cell? ⟨b, off + m * 4 + 3, none⟩ = some (.int .i64 ya) ∧ w'.cell? ⟨w.heap.size, 0, none⟩ = some (.string xg) ∧ w'.cell? ⟨w.heap.size, 1, none⟩ = some (.string xt) ∧ w'.cell? ⟨w.heap.size, 2, none⟩ = some (.int .i64 xq) ∧ w'.cell? ⟨w.heap.size, 3, none⟩ = some (.int .i64 xa)) (first | go_keep | exact hcall.out _ (by (repeat' (first | (with_reducible exact Calm.refl _) | (with_reducible assumption) | (with_reducible refine Calm.drew ?_) | (with_reducible refine Calm.alloc ?_ _) | (with_reducible refine Calm.trans ?_ (by assumption)))))) ((go_at_call 25; refine (ho.out _).mono ?_; rintro e w5 ⟨rfl, hc5⟩))
      have HC5 := box (show Calm wo w5 by (repeat' (first | (with_reducible exact Calm.refl _) | (with_reducible assumption) | (with_reducible refine Calm.drew ?_) | (with_reducible refine Calm.alloc ?_ _) | (with_reducible refine Calm.trans ?_ (by assumption)))))
      clear c0 c1 c2 c3 t0 t1 t2 t3 hcall Hcells
      have HB1 := HB.out.1
      have HB2 := HB.out.2
      by_cases hz0 : z < 0
      · have HX := box (show (∀ t, t < m + 1 → ordO l[t]! ⟨xg, xt, xq, xa⟩ < 0) ∧ (∀ t, hi ≤ t → t < l.length → 0 ≤ ordO l[t]! ⟨xg, xt, xq, xa⟩) from
          ⟨fun t ht => Hsl.out t m (by omega) hml (by rw [hgm.out, Hz.out]; exact hz0), HB2⟩)
        clear HB1 HB2
        go_wp2_with fail
        go_roundw
        case rel => exact ⟨m + 1, hi, by go_num, rfl, by omega, hhn, HX, HCr.out.trans HC5.out⟩
        case measure => simp [intOf]; omega
      · have HX := box (show (∀ t, t < lo → ordO l[t]! ⟨xg, xt, xq, xa⟩ < 0) ∧ (∀ t, m ≤ t → t < l.length → 0 ≤ ordO l[t]! ⟨xg, xt, xq, xa⟩) from
          ⟨HB1, fun t ht htl => Int.not_lt.1 fun h => by have := Hsl.out m t ht htl h; rw [hgm.out, Hz.out] at this; exact hz0 this⟩)
        clear HB1 HB2
        go_wp2_with fail
        go_roundw
        case rel => exact ⟨lo, m, rfl, rfl, by omega, by omega, HX, HCr.out.trans HC5.out⟩
        case measure => simp [intOf]; omega
    · obtain rfl : hi = lo := by omega
      have hPl : P = hi := Hm.out hi hhn HB.out.1 HB.out.2
      subst hPl
      by_cases hn : P < l.length
      · obtain ⟨b, off, rfl, hb, d0, d1, d2, d3⟩ := Hc.out P hn
        have c0 := ((HC0.out.trans HCr.out).cell (p := ⟨b, off + P * 4, none⟩) hb).trans d0
        have c1 := ((HC0.out.trans HCr.out).cell (p := ⟨b, off + P * 4 + 1, none⟩) hb).trans d1
        have c2 := ((HC0.out.trans HCr.out).cell (p := ⟨b, off + P * 4 + 2, none⟩) hb).trans d2
        have c3 := ((HC0.out.trans HCr.out).cell (p := ⟨b, off + P * 4 + 3, none⟩) hb).trans d3
        have hb' := Nat.lt_of_lt_of_le hb (HC0.out.trans HCr.out).size
        have hgm := box (getElem!_pos l P hn)
        obtain ⟨⟨yg, yt, yq, ya⟩, hy⟩ : ∃ y, l[P] = y := ⟨_, rfl⟩
        simp only [hy] at c0 c1 c2 c3 hgm
        have ho := box (hord.out ⟨yg, yt, yq, ya⟩)
        simp only at ho
        obtain ⟨z, hz⟩ : ∃ z, ordO ⟨yg, yt, yq, ya⟩ ⟨xg, xt, xq, xa⟩ = z := ⟨_, rfl⟩
        rw [hz] at ho
        have Hfo := box (show fo = decide (z = 0) by rw [H5.out, decide_eq_true hn, hgm.out, hz]; rfl)
        clear d0 d1 d2 d3 hy hz hord
        have hcall := box (fun W (hc : Calm wo W) => (show W.cell? ⟨b, off + P * 4, none⟩ = some (.string yg) ∧ W.cell? ⟨b, off + P * 4 + 1, none⟩ = some (.string yt) ∧ W.cell? ⟨b, off + P * 4 + 2, none⟩ = some (.int .i64 yq) ∧ W.cell? ⟨b, off + P * 4 + 3, none⟩ = some (.int .i64 ya) ∧ W.cell? ⟨w.heap.size, 0, none⟩ = some (.string xg) ∧ W.cell? ⟨w.heap.size, 1, none⟩ = some (.string xt) ∧ W.cell? ⟨w.heap.size, 2, none⟩ = some (.int .i64 xq) ∧ W.cell? ⟨w.heap.size, 3, none⟩ = some (.int .i64 xa) from
          ⟨(hc.cell (p := ⟨b, off + P * 4, none⟩) hb').trans c0, (hc.cell (p := ⟨b, off + P * 4 + 1, none⟩) hb').trans c1, (hc.cell (p := ⟨b, off + P * 4 + 2, none⟩) hb').trans c2, (hc.cell (p := ⟨b, off + P * 4 + 3, none⟩) hb').trans c3, (hc.cell (p := ⟨w.heap.size, 0, none⟩) tlt).trans t0, (hc.cell (p := ⟨w.heap.size, 1, none⟩) tlt).trans t1, (hc.cell (p := ⟨w.heap.size, 2, none⟩) tlt).trans t2, (hc.cell (p := ⟨w.heap.size, 3, none⟩) tlt).trans t3⟩))
        go_upto_region 8 with fail
        go_region_held3 (fun w' => w'.cell? ⟨b, off + P * 4, none⟩ = some (.string yg) ∧ w'.cell? ⟨b, off + P * 4 + 1, none⟩ = some (.string yt) ∧ w'.cell? ⟨b, off + P * 4 + 2, none⟩ = some (.int .i64 yq) ∧ w'.cell? ⟨b, off + P * 4 + 3, none⟩ = some (.int .i64 ya) ∧ w'.cell? ⟨w.heap.size, 0, none⟩ = some (.string xg) ∧ w'.cell? ⟨w.heap.size, 1, none⟩ = some (.string xt) ∧ w'.cell? ⟨w.heap.size, 2, none⟩ = some (.int .i64 xq) ∧ w'.cell? ⟨w.heap.size, 3, none⟩ = some (.int .i64 xa)) (first | go_keep | exact hcall.out _ (by (repeat' (first | (with_reducible exact Calm.refl _) | (with_reducible assumption) | (with_reducible refine Calm.drew ?_) | (with_reducible refine Calm.alloc ?_ _) | (with_reducible refine Calm.trans ?_ (by assumption)))))) ((go_at_call 25; refine (ho.out _).mono ?_; rintro e w5 ⟨rfl, hc5⟩))
        have HC5 := box (show Calm wo w5 by (repeat' (first | (with_reducible exact Calm.refl _) | (with_reducible assumption) | (with_reducible refine Calm.drew ?_) | (with_reducible refine Calm.alloc ?_ _) | (with_reducible refine Calm.trans ?_ (by assumption)))))
        go_wp2_with fail
        go_ret2
        exact ⟨by rw [Hfo.out]; simp; by_cases hz : z = 0 <;> simp [hz], HC0.out.trans (HCr.out.trans HC5.out)⟩
      · have hPn : P = l.length := by omega
        have Hfo := box (show fo = false by rw [H5.out, decide_eq_false hn]; rfl)
        clear t0 t1 t2 t3 hord
        have hlb : decide ((P : Int) < (l.length : Int)) = false := decide_eq_false (by omega)
        go_upto_region 8 with fail
        refine wp_region_held_drew (S := fun _ => True) (by kernel_rfl) trivial (fun hHeld => ?_)
        ((refine' wpAnyH_take (i := 0) (v := _) rfl (by kernel_rfl) (by kernel_rfl) (by kernel_rfl) (fun _ _ _ h => h) (Or.inl ⟨by rfl, ?hy486⟩) (by assumption) ?rest486; (case hy486 => (intro w hSw; (try dsimp only at hSw); go_simp <;> with_reducible rfl)); simp only [List.getElem_toArray, List.getElem_cons_succ, List.getElem_cons_zero, Act.put, List.setIfInBounds_toArray, List.set_cons_zero, List.set_cons_succ]); (refine' wpAnyH_take (i := 1) (v := _) rfl (by kernel_rfl) (by kernel_rfl) (by kernel_rfl) (fun _ _ _ h => h) (Or.inl ⟨by rfl, ?hy487⟩) (by assumption) ?rest487; (case hy487 => (intro w hSw; (try dsimp only at hSw); go_simp <;> with_reducible rfl)); simp only [List.getElem_toArray, List.getElem_cons_succ, List.getElem_cons_zero, Act.put, List.setIfInBounds_toArray, List.set_cons_zero, List.set_cons_succ]); (refine' wpAnyH_take (i := 2) (v := _) rfl (by kernel_rfl) (by kernel_rfl) (by kernel_rfl) (fun _ _ _ h => h) (Or.inl ⟨by rfl, ?hy488⟩) (by assumption) ?rest488; (case hy488 => (intro w hSw; (try dsimp only at hSw); go_simp <;> with_reducible rfl)); simp only [List.getElem_toArray, List.getElem_cons_succ, List.getElem_cons_zero, Act.put, List.setIfInBounds_toArray, List.set_cons_zero, List.set_cons_succ]); (refine' wpAnyH_take (i := 3) (v := _) rfl (by kernel_rfl) (by kernel_rfl) (by kernel_rfl) (fun _ _ _ h => h) (Or.inl ⟨by rfl, ?hy489⟩) (by assumption) ?rest489; (case hy489 => (intro w hSw; (try dsimp only at hSw); go_simp <;> with_reducible rfl)); simp only [List.getElem_toArray, List.getElem_cons_succ, List.getElem_cons_zero, Act.put, List.setIfInBounds_toArray, List.set_cons_zero, List.set_cons_succ]); (refine' wpAnyH_take (i := 4) (v := _) rfl (by kernel_rfl) (by kernel_rfl) (by kernel_rfl) (fun _ _ _ h => h) (Or.inl ⟨by rfl, ?hy490⟩) (by assumption) ?rest490; (case hy490 => (intro w hSw; (try dsimp only at hSw); go_simp <;> with_reducible rfl)); simp only [List.getElem_toArray, List.getElem_cons_succ, List.getElem_cons_zero, Act.put, List.setIfInBounds_toArray, List.set_cons_zero, List.set_cons_succ]))
        ((refine' wpAnyH_take (i := 5) (v := _) rfl (by kernel_rfl) (by kernel_rfl) (by kernel_rfl) (fun _ _ _ h => h) (Or.inr ⟨by rfl, rfl⟩) (by assumption) ?rest491; simp only [List.getElem_toArray, List.getElem_cons_succ, List.getElem_cons_zero, Act.put, List.setIfInBounds_toArray, List.set_cons_zero, List.set_cons_succ]); (refine' wpAnyH_take (i := 6) (v := _) rfl (by kernel_rfl) (by kernel_rfl) (by kernel_rfl) (fun _ _ _ h => h) (Or.inr ⟨by rfl, rfl⟩) (by assumption) ?rest492; simp only [List.getElem_toArray, List.getElem_cons_succ, List.getElem_cons_zero, Act.put, List.setIfInBounds_toArray, List.set_cons_zero, List.set_cons_succ]); (refine' wpAnyH_take (i := 7) (v := _) rfl (by kernel_rfl) (by kernel_rfl) (by kernel_rfl) (fun _ _ _ h => h) (Or.inr ⟨by rfl, rfl⟩) (by assumption) ?rest493; simp only [List.getElem_toArray, List.getElem_cons_succ, List.getElem_cons_zero, Act.put, List.setIfInBounds_toArray, List.set_cons_zero, List.set_cons_succ]); (refine' wpAnyH_take (i := 8) (v := _) rfl (by kernel_rfl) (by kernel_rfl) (by kernel_rfl) (fun _ _ _ h => h) (Or.inr ⟨by rfl, rfl⟩) (by assumption) ?rest494; simp only [List.getElem_toArray, List.getElem_cons_succ, List.getElem_cons_zero, Act.put, List.setIfInBounds_toArray, List.set_cons_zero, List.set_cons_succ]); (refine' wpAnyH_take (i := 9) (v := _) rfl (by kernel_rfl) (by kernel_rfl) (by kernel_rfl) (fun _ _ _ h => h) (Or.inr ⟨by rfl, rfl⟩) (by assumption) ?rest495; simp only [List.getElem_toArray, List.getElem_cons_succ, List.getElem_cons_zero, Act.put, List.setIfInBounds_toArray, List.set_cons_zero, List.set_cons_succ]); (refine' wpAnyH_take (i := 10) (v := _) rfl (by kernel_rfl) (by kernel_rfl) (by kernel_rfl) (fun _ _ _ h => h) (Or.inr ⟨by rfl, rfl⟩) (by assumption) ?rest496; simp only [List.getElem_toArray, List.getElem_cons_succ, List.getElem_cons_zero, Act.put, List.setIfInBounds_toArray, List.set_cons_zero, List.set_cons_succ]); (refine' wpAnyH_take (i := 11) (v := _) rfl (by kernel_rfl) (by kernel_rfl) (by kernel_rfl) (fun _ _ _ h => h) (Or.inr ⟨by rfl, rfl⟩) (by assumption) ?rest497; simp only [List.getElem_toArray, List.getElem_cons_succ, List.getElem_cons_zero, Act.put, List.setIfInBounds_toArray, List.set_cons_zero, List.set_cons_succ]); (refine' wpAnyH_take (i := 12) (v := _) rfl (by kernel_rfl) (by kernel_rfl) (by kernel_rfl) (fun _ _ _ h => h) (Or.inr ⟨by rfl, rfl⟩) (by assumption) ?rest498; simp only [List.getElem_toArray, List.getElem_cons_succ, List.getElem_cons_zero, Act.put, List.setIfInBounds_toArray, List.set_cons_zero, List.set_cons_succ]))
        ((refine' wpAnyH_take (i := 13) (v := _) rfl (by kernel_rfl) (by kernel_rfl) (by kernel_rfl) (fun _ _ _ h => h) (Or.inl ⟨by rfl, ?hy499⟩) (by assumption) ?rest499; (case hy499 => (intro w hSw; (try dsimp only at hSw); go_simp <;> with_reducible rfl)); simp only [List.getElem_toArray, List.getElem_cons_succ, List.getElem_cons_zero, Act.put, List.setIfInBounds_toArray, List.set_cons_zero, List.set_cons_succ]); (refine' wpAnyH_take (i := 14) (v := _) rfl (by kernel_rfl) (by kernel_rfl) (by kernel_rfl) (fun _ _ _ h => h) (Or.inl ⟨by rfl, ?hy500⟩) (by assumption) ?rest500; (case hy500 => (intro w hSw; (try dsimp only at hSw); go_simp <;> with_reducible rfl)); simp only [List.getElem_toArray, List.getElem_cons_succ, List.getElem_cons_zero, Act.put, List.setIfInBounds_toArray, List.set_cons_zero, List.set_cons_succ]); (refine' wpAnyH_take (i := 15) (v := _) rfl (by kernel_rfl) (by kernel_rfl) (by kernel_rfl) (fun _ _ _ h => h) (Or.inl ⟨by rfl, ?hy501⟩) (by assumption) ?rest501; (case hy501 => (intro w hSw; (try dsimp only at hSw); go_simp <;> with_reducible rfl)); simp only [List.getElem_toArray, List.getElem_cons_succ, List.getElem_cons_zero, Act.put, List.setIfInBounds_toArray, List.set_cons_zero, List.set_cons_succ]))
        refine wpAnyH_done (by kernel_rfl) ?_ _
        go_wp2_with fail
        go_ret2
        exact ⟨by simp [Hfo.out, hPn], HC0.out.trans HCr.out.drew⟩
end Go.Proofs.YtafdfmdcnniccaaGreat.ofs
