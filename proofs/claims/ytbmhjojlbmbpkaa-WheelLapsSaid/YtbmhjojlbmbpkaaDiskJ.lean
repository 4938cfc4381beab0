/- Layer 4: what a crash leaves, as plain functions; how a disk lies midway. -/
import Derived.Test.YtbmhjojlbmbpkaaDiskI
namespace Go.Proofs.Ytbmhjojlbmbpkaa.dk
open Go.ChangeShapes Go.WideShapes Go.ChangeAt Go.RowKit

section
variable {w w' w1 : World} {p mb : Nat} {wv wv' : Value} {D : DiskS} {F : Nat → Prop}

/-- What a crash keeps of the i-th waiting write. -/
def keptAt (keep : List Bool) (lack : Nat) (L : List WaitS) (i : Nat) : Option WaitS :=
  match L[i]? with
  | none => none
  | some x => if keep.getD i false then some { x with s := if ((keep.take L.length).drop (i + 1)).contains true then x.s else x.s.extract 0 (x.s.size - lack) } else none
def keptTo (keep : List Bool) (lack : Nat) (L : List WaitS) (k : Nat) : List WaitS := (List.range k).filterMap (keptAt keep lack L)
/-- All images with writes laid over them. -/
def DiskS.imaged (D : DiskS) (K : List WaitS) : DiskS := { D with files := D.files.map fun f => { f with image := lays f.image f.blk K } }
/-- A crash. -/
def DiskS.crashed (D : DiskS) (keep : List Bool) (lack : Int) : DiskS :=
  ⟨-1, false, D.cap, (D.imaged (keptTo keep lack.toNat D.waits (min keep.length D.waits.length))).files.map fun f => { f with now := f.image }, []⟩

theorem imaged_nil : D.imaged [] = D := by
  unfold DiskS.imaged lays
  have : (D.files.map fun f => ({ f with image := f.image } : FileS)) = D.files := by rw [List.map_id'' (fun f => rfl)]
  simp only [List.foldl_nil]
  rw [this]
theorem imaged_foot (K : List WaitS) : (D.imaged K).files.map (·.blk) = D.files.map (·.blk) := by
  unfold DiskS.imaged; simp [List.map_map, Function.comp_def]
theorem foot_imaged (K : List WaitS) : foot p mb wv (D.imaged K) = foot p mb wv D := by unfold foot; rw [imaged_foot]
theorem keptTo_succ (keep : List Bool) (lack : Nat) (L : List WaitS) (k : Nat) : keptTo keep lack L (k + 1) = keptTo keep lack L k ++ (keptAt keep lack L k).toList := by
  unfold keptTo
  rw [List.range_succ, List.filterMap_append]
  congr 1
theorem DiskIn.find_mem (h : DiskIn w p mb wv D) {f : FileS} (hf : f ∈ D.files) : D.find f.name = some f := by
  cases hx : D.find f.name with
  | none => exact absurd rfl (find_none hx f hf)
  | some g =>
    obtain ⟨h1, h2⟩ := find_some hx
    rw [nodup_inj h.names h1 hf h2]

def imgF (j : Nat) (s : ByteArray) (f : FileS) : FileS := { f with image := laid f.image j s }
theorem DiskIn.imaged_snoc (h : DiskIn w p mb wv D) {f : FileS} (hf : f ∈ D.files) (K : List WaitS) (x : WaitS) (hx : x.blk = f.blk) :
    D.imaged (K ++ [x]) = (D.imaged K).turn f.name (imgF x.off x.s) := by
  unfold DiskS.imaged DiskS.turn
  simp only [List.map_map]
  congr 1
  apply List.map_congr_left
  intro y hy
  simp only [Function.comp, lays, List.foldl_append, List.foldl_cons, List.foldl_nil]
  by_cases hn : y.name = f.name
  · have : y = f := nodup_inj h.names hy hf hn
    subst this
    rw [if_pos hx, if_pos rfl]
    rfl
  · have hb : ¬ x.blk = y.blk := fun e => hn (by rw [nodup_inj h.blks hy hf (by rw [← e, hx])])
    rw [if_neg hb, if_neg hn]

theorem imaged_mem {K : List WaitS} (h : DiskIn w p mb wv (D.imaged K)) {f : FileS} (hf : f ∈ D.files) : (D.imaged K).find f.name = some { f with image := lays f.image f.blk K } :=
  h.find_mem (f := { f with image := lays f.image f.blk K }) (List.mem_map.2 ⟨f, hf, rfl⟩)

theorem laid_size (s : ByteArray) (k : Nat) (o : ByteArray) : (laid s k o).size ≤ max s.size (k + o.size) := by
  unfold laid laidL pad
  split
  · show s.data.toList.toArray.size ≤ _
    simp; omega
  · show (_ : List UInt8).toArray.size ≤ _
    simp; omega
theorem lays_size (B : Nat) (b : Nat) : ∀ (K : List WaitS) (image : ByteArray), image.size ≤ B → (∀ y ∈ K, y.off + y.s.size ≤ B) → (lays image b K).size ≤ B
  | [], image, h, _ => h
  | y :: K, image, h, hy => by
    unfold lays
    rw [List.foldl_cons]
    refine lays_size B b K _ ?_ (fun z hz => hy z (List.mem_cons_of_mem _ hz))
    split
    · have := laid_size image y.off y.s
      have := hy y (List.mem_cons_self ..)
      omega
    · exact h
theorem keptAt_mem {keep : List Bool} {lack i : Nat} {L : List WaitS} {y : WaitS} (h : keptAt keep lack L i = some y) : ∃ x ∈ L, y.blk = x.blk ∧ y.off = x.off ∧ y.s.size ≤ x.s.size := by
  unfold keptAt at h
  cases hx : L[i]? with
  | none => rw [hx] at h; cases h
  | some x =>
    rw [hx] at h
    simp only at h
    split at h
    · cases h
      refine ⟨x, List.mem_of_getElem? hx, rfl, rfl, ?_⟩
      simp only
      split
      · exact Nat.le_refl _
      · simp [ByteArray.size_extract]
    · cases h
theorem keptTo_mem {keep : List Bool} {lack k : Nat} {L : List WaitS} {y : WaitS} (h : y ∈ keptTo keep lack L k) : ∃ x ∈ L, y.blk = x.blk ∧ y.off = x.off ∧ y.s.size ≤ x.s.size := by
  unfold keptTo at h
  obtain ⟨i, _, hi⟩ := List.mem_filterMap.1 h
  exact keptAt_mem hi

/-- The row's cells under the disk. -/
theorem DiskIn.row (h : DiskIn w p mb wv D) {k : Nat} (hk : k < D.waits.length) : ∃ g cap, wv = .slice (some ⟨g, 0, none⟩) D.waits.length cap ∧ D.waits.length ≤ cap ∧ g < w.heap.size ∧
    w.cell? ⟨g, k * 3, none⟩ = some (ptrTo D.waits[k].blk) ∧ w.cell? ⟨g, k * 3 + 1, none⟩ = some (.int .i64 D.waits[k].off) ∧ w.cell? ⟨g, k * 3 + 2, none⟩ = some (.string D.waits[k].s) := by
  rcases h.waits.2 with ⟨_, h0⟩ | ⟨g, cap, cur, rfl, _, h1, h2, h3, h4, h5⟩
  · omega
  · exact ⟨g, cap, rfl, h2, heap_lt h1, RowIs.cells ⟨cur, h1, h2, h3, h4, h5⟩ k hk⟩

end
end Go.Proofs.Ytbmhjojlbmbpkaa.dk
