/- Lemmas for this claim. -/
import Derived.Deep.CutRange
import Derived.Test.YtjpokaifbnkmhaaGreatDoorPk28
namespace Go.Proofs.YtjpokaifbnkmhaaGreatDoor.rc
open Go.ChangeShapes Go.WideShapes Go.ChangeAt Go.RowKit Go.Shelf
open Go.Proofs.YtjpokaifbnkmhaaGreatDoor.nm Go.Proofs.YtjpokaifbnkmhaaGreatDoor.vs Go.Proofs.YtjpokaifbnkmhaaGreatDoor.oc Go.Proofs.YtjpokaifbnkmhaaGreatDoor.cr
end Go.Proofs.YtjpokaifbnkmhaaGreatDoor.rc

namespace Go.Proofs.YtjpokaifbnkmhaaGreatDoor.tp
open Go.ChangeShapes Go.WideShapes Go.ChangeAt Go.RowKit Go.ChangeMaps
open Go.Proofs.YtjpokaifbnkmhaaGreatDoor.rc Go.Proofs.YtjpokaifbnkmhaaGreatDoor.oc Go.Proofs.YtjpokaifbnkmhaaGreatDoor.cr Go.Proofs.YtjpokaifbnkmhaaGreatDoor.dk Go.Proofs.YtjpokaifbnkmhaaGreatDoor.sg
abbrev tapeN : ByteArray := ⟨#[116, 97, 112, 101, 45]⟩
structure TS where
  D : DiskS
  R : RowS
  ps : List Pc
  last : Int
def TS.recs (S : TS) : List (Nat × MsgS) := tp.recs S.R.start S.ps
def TS.ids (S : TS) : List Nat := S.recs.map (·.1)
def encZ (x : Nat × MsgS) : Value × Value := (.int .i64 (x.1 : Int), .int .i64 ((recB x.2).size : Int))
structure TpIn (W w : World) (t p n r sb mb : Nat) (D : DiskS) (R : RowS) (L : List (Nat × MsgS)) (last : Int) (F : Nat → Prop) (v iv : Value) : Prop where
  seg : SegAt W w r p n D R F v
  obj : w.heap[t]? = some (.cells #[ptrTo r, ptrTo sb, iv, .map (some mb), .int .i64 last] 136 (0, 0))
  sums : TabAt w sb 1024
  ids : w.ownsRow W.heap.size 3 1 iv L.length (intN (L.map (·.1)))
  sizes : MapIs w mb (.int .i64) (L.map encZ)
  apart : ∀ b, iv.ownBlock = some b → v.ownBlock ≠ some b
  mF : ¬ F mb
  tW : W.heap.size ≤ t
  sW : W.heap.size ≤ sb
  mW : W.heap.size ≤ mb
def tfoot (t r sb mb : Nat) (F : Nat → Prop) (v iv : Value) (b : Nat) : Prop := F b ∨ (b = r ∨ v.ownBlock = some b) ∨ b = t ∨ b = sb ∨ b = mb ∨ iv.ownBlock = some b
section
variable {W w w' : World} {t p n r sb mb : Nat} {D D' : DiskS} {R R' : RowS} {L : List (Nat × MsgS)} {last : Int} {F F' : Nat → Prop} {v v' iv : Value}
theorem TpIn.calm (h : TpIn W w t p n r sb mb D R L last F v iv) (hc : Calm w w') : TpIn W w' t p n r sb mb D R L last F v iv :=
  ⟨h.seg.drew hc, heap_calm hc h.obj, heap_calm hc h.sums, own_calm h.ids hc, h.sizes.calm hc, h.apart, h.mF, h.tW, h.sW, h.mW⟩
theorem TpIn.lt (h : TpIn W w t p n r sb mb D R L last F v iv) : ∀ b, tfoot t r sb mb F v iv b → b < w.heap.size := fun b hb => by
  rcases hb with hb | (rfl | hb) | rfl | rfl | rfl | hb
  · exact h.seg.disk.foot_lt b hb
  · exact heap_lt h.seg.row.at_
  · exact (h.seg.row.row.lt b hb).2
  · exact heap_lt h.obj
  · exact heap_lt h.sums
  · exact h.sizes.lt
  · exact (h.ids.lt b hb).2
theorem TpIn.cells (h : TpIn W w t p n r sb mb D R L last F v iv) : w.cell? ⟨t, 0, none⟩ = some (ptrTo r) ∧ w.cell? ⟨t, 1, none⟩ = some (ptrTo sb) ∧ w.cell? ⟨t, 2, none⟩ = some iv ∧ w.cell? ⟨t, 3, none⟩ = some (.map (some mb)) ∧ w.cell? ⟨t, 4, none⟩ = some (.int .i64 last) ∧ t < w.heap.size :=
  ⟨cell_of h.obj 0, cell_of h.obj 1, cell_of h.obj 2, cell_of h.obj 3, cell_of h.obj 4, heap_lt h.obj⟩
def OthS (T : TypeId) : Prop := T ≠ 108 ∧ T ≠ 152 ∧ T ≠ 156 ∧ T ≠ 140 ∧ T ≠ 3
theorem oth_tape : OthS 136 := by unfold OthS; decide
theorem oth_table : OthS 183 := by unfold OthS; decide
theorem seg_oth {b : Nat} {cs : Array Value} {T : TypeId} (hT : OthS T) (hs : SegAt W w r p n D R F v) (hb : w.heap[b]? = some (.cells cs T (0, 0))) : ¬ (F b ∨ rfoot r v b) := fun hf => by
  rcases hf with hf | hf | hf
  · obtain ⟨mb, wv, h1, rfl⟩ := hs.disk.lies
    rcases hf with rfl | rfl | hf | hf
    · rw [h1.obj] at hb; simp only [Option.some.injEq, Obj.cells.injEq] at hb; exact hT.1 hb.2.1.symm
    · obtain ⟨es, c, hm, _⟩ := h1.map; rw [hm] at hb; cases hb
    · obtain ⟨c, hc2⟩ := own_row h1.waits hf; rw [hc2] at hb; simp only [Option.some.injEq, Obj.cells.injEq] at hb; exact hT.2.1 hb.2.1.symm
    · obtain ⟨f, hf', rfl⟩ := List.mem_map.1 hf
      rw [h1.files f hf'] at hb; simp only [Option.some.injEq, Obj.cells.injEq] at hb; exact hT.2.2.1 hb.2.1.symm
  · subst hf; rw [hs.row.at_] at hb; simp only [Option.some.injEq, Obj.cells.injEq] at hb; exact hT.2.2.2.1 hb.2.1.symm
  · obtain ⟨c, hc2⟩ := own_row hs.row.row hf; rw [hc2] at hb; simp only [Option.some.injEq, Obj.cells.injEq] at hb; exact hT.2.2.2.2 hb.2.1.symm
theorem seg_map {b : Nat} {d : TypeDesc} {m : List (Value × Value)} (hs : SegAt W w r p n D R F v) (hb : MapIs w b d m) (hF : ¬ F b) : ¬ (F b ∨ rfoot r v b) := fun hf => by
  obtain ⟨es, c, hm, _⟩ := hb
  rcases hf with hf | hf | hf
  · exact hF hf
  · subst hf; rw [hs.row.at_] at hm; cases hm
  · obtain ⟨c, hc2⟩ := own_row hs.row.row hf; rw [hc2] at hm; cases hm
theorem seg_ints {b B k : Nat} {u : Value} {xs : List Value} (hs : SegAt W w r p n D R F v) (hb : w.ownsRow B 3 1 u k xs) (hu : u.ownBlock = some b) (ha : v.ownBlock ≠ some b) : ¬ (F b ∨ rfoot r v b) := fun hf => by
  obtain ⟨cs, hc⟩ := own_row hb hu
  rcases hf with hf | hf | hf
  · obtain ⟨mb, wv, h1, rfl⟩ := hs.disk.lies
    rcases hf with rfl | rfl | hf | hf
    · rw [h1.obj] at hc; simp only [Option.some.injEq, Obj.cells.injEq] at hc; exact absurd hc.2.1 (by decide)
    · obtain ⟨es, c, hm, _⟩ := h1.map; rw [hm] at hc; cases hc
    · obtain ⟨c, hc2⟩ := own_row h1.waits hf; rw [hc2] at hc; simp only [Option.some.injEq, Obj.cells.injEq] at hc; exact absurd hc.2.1 (by decide)
    · obtain ⟨f, hf', rfl⟩ := List.mem_map.1 hf
      rw [h1.files f hf'] at hc; simp only [Option.some.injEq, Obj.cells.injEq] at hc; exact absurd hc.2.1 (by decide)
  · subst hf; rw [hs.row.at_] at hc; simp only [Option.some.injEq, Obj.cells.injEq] at hc; exact absurd hc.2.1 (by decide)
  · exact ha hf
theorem TpIn.step {n' : Nat} (h : TpIn W w t p n r sb mb D R L last F v iv) (hS : SegAt W w' r p n' D' R' F' v') (hT : SegStep w r F v w' F' v') : TpIn W w' t p n' r sb mb D' R' L last F' v' iv := by
  have hids := h.ids
  refine ⟨hS, (hT.keeps.block _ (heap_lt h.obj) (seg_oth oth_tape h.seg h.obj)).trans h.obj, (hT.keeps.block _ (heap_lt h.sums) (seg_oth oth_table h.seg h.sums)).trans h.sums,
    row_same h.ids (fun g hg => hT.keeps.block g (h.ids.lt g hg).2 (seg_ints h.seg h.ids hg (h.apart g hg))), h.sizes.same (hT.keeps.block _ h.sizes.lt (seg_map h.seg h.sizes h.mF)), fun b hb e => ?_, fun hf => ?_, h.tW, h.sW, h.mW⟩
  · rcases hT.row b e with h1 | h1
    · exact h.apart b hb h1
    · have := (h.ids.lt b hb).2; omega
  · rcases hT.foot mb hf with h1 | h1
    · exact h.mF h1
    · have := h.sizes.lt; omega
theorem TpIn.foot_step (h : TpIn W w t p n r sb mb D R L last F v iv) (hT : SegStep w r F v w' F' v') : Step (tfoot t r sb mb F v iv) w (tfoot t r sb mb F' v' iv) w' := by
  refine ⟨hT.keeps.mono (fun b _ hb => ?_), fun b hb => ?_⟩
  · rcases hb with hb | hb
    · exact .inl hb
    · exact .inr (.inl hb)
  · rcases hb with hb | (rfl | hb) | hb
    · rcases hT.foot b hb with h1 | h1
      · exact .inl (.inl h1)
      · exact .inr h1
    · exact .inl (.inr (.inl (.inl rfl)))
    · rcases hT.row b hb with h1 | h1
      · exact .inl (.inr (.inl (.inr h1)))
      · exact .inr h1
    · exact .inl (.inr (.inr hb))
end
end Go.Proofs.YtjpokaifbnkmhaaGreatDoor.tp
