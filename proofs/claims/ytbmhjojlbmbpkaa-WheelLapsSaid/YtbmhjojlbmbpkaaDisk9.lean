/- Layer 4: drop, Sync, Cut. -/
import Derived.Test.YtbmhjojlbmbpkaaDisk8
namespace Go.Proofs.Ytbmhjojlbmbpkaa.dk
open Go.ChangeShapes Go.WideShapes Go.ChangeAt Go.RowKit

section
variable {w w' w1 : World} {p mb : Nat} {wv wv' : Value} {D : DiskS} {F : Nat → Prop}

theorem _root_.Go.Proofs.Ytbmhjojlbmbpkaa.StrsAt.keep {v : Value} {l : List ByteArray} {F : Nat → Prop} (h : StrsAt w v l) (k : Keeps F w w') (ap : Apart v F) : StrsAt w' v l := by
  rcases h with h | ⟨b, off, cap, hv, hc⟩
  · exact .inl h
  · refine .inr ⟨b, off, cap, hv, fun j hj => ?_⟩
    have h1 := hc j hj
    have hlt : b < w.heap.size := World.block_lt_of_cell? w _ h1
    simp only [World.cell?] at h1 ⊢
    rw [k.block b hlt (ap _ _ _ hv (by omega))]; exact h1

theorem filter_split (h : DiskIn w p mb wv D) {n : ByteArray} {f : FileS} (hf : D.find n = some f) : ∃ L1 L2, D.files = L1 ++ f :: L2 ∧ D.files.filter (fun x => !decide (x.name = n)) = L1 ++ L2 := by
  obtain ⟨hm, hn⟩ := find_some hf
  obtain ⟨L1, L2, hL⟩ := List.append_of_mem hm
  refine ⟨L1, L2, hL, ?_⟩
  have hnames := h.names
  rw [hL, List.map_append, List.map_cons, List.nodup_append] at hnames
  obtain ⟨n1, n2, n3⟩ := hnames
  rw [List.nodup_cons] at n2
  have a1 : ∀ x ∈ L1, (!decide (x.name = n)) = true := fun x hx => by
    have := n3 x.name (List.mem_map.2 ⟨x, hx, rfl⟩) f.name (by simp)
    simp [hn] at this; simpa using this
  have a2 : ∀ x ∈ L2, (!decide (x.name = n)) = true := fun x hx => by
    have : x.name ≠ f.name := fun e => n2.1 (List.mem_map.2 ⟨x, hx, e⟩)
    rw [hn] at this; simpa using this
  rw [hL, List.filter_append, List.filter_cons, List.filter_eq_self.2 a1, List.filter_eq_self.2 a2]
  simp [hn]

/-- A file's name is struck from the map. -/
theorem DiskIn.del (h : DiskIn w p mb wv D) {n : ByteArray} {f : FileS} (hf : D.find n = some f) (hw : ∀ x ∈ D.waits, x.blk ≠ f.blk) :
    ∃ o, (∀ ty, (Builtin.delete_ #[73, 9] ty #[.map (some mb), .string n]).run Try.prog w = .ok (.tuple #[]) (ChangeMaps.setBlock w mb o)) ∧
      DiskIn (ChangeMaps.setBlock w mb o) p mb wv { D with files := D.files.filter fun x => !decide (x.name = n) } := by
  obtain ⟨hm, hn⟩ := find_some hf
  obtain ⟨L1, L2, hL, hfil⟩ := filter_split h hf
  have hmap := h.map
  rw [hL, List.map_append, List.map_cons, show encF f = (.string n, ptrTo f.blk) by simp [encF, hn]] at hmap
  obtain ⟨o, hrun, hm2⟩ := MapIs.del (P := Try.prog) Try.underlying73 Try.underlying9 hmap trivial
  refine ⟨o, hrun, ?_, ?_, ?_, ?_, ?_, ?_⟩
  · rw [heap_put_other _ _ h.p_ne_mb]; exact h.obj
  · rw [hfil, List.map_append]; exact hm2
  · intro x hx
    have hx' := (List.mem_filter.1 hx).1
    rw [heap_put_other _ _ (h.mb_ne_file hx')]; exact h.files x hx'
  · exact row_same h.waits (fun g hg => heap_put_other _ _ (fun e => h.mb_ne_row (by rw [hg, e])))
  · rw [hfil]
    have := h.blks
    rw [hL] at this
    refine List.Sublist.nodup ?_ this
    exact ((List.Sublist.refl L1).append (List.sublist_cons_self f L2)).map _
  · intro x hx
    obtain ⟨g, hg, he⟩ := h.live x hx
    refine ⟨g, List.mem_filter.2 ⟨hg, ?_⟩, he⟩
    have hgf : g ≠ f := fun e => hw x hx (by rw [← he, e])
    have : g.name ≠ n := fun e => hgf (nodup_inj h.names hg hm (by rw [e, hn]))
    simpa using this

def GoneDone (p : Nat) (D : DiskS) (F : Nat → Prop) (w : World) (e : Ending) (w' : World) : Prop := e = .returned (.tuple #[]) ∧ ∃ F', DiskAt w' p D F' ∧ Step F w F' w'

theorem drop_some {n : ByteArray} {f : FileS} (hf : D.find n = some f) : D.drop n = { D with waits := keepW f.blk D.waits, files := D.files.filter fun x => !decide (x.name = n) } := by
  unfold DiskS.drop; rw [hf]; rfl

set_option maxRecDepth 100000 in
set_option maxHeartbeats 4000000 in
theorem dropOne_any (b off cap : Nat) (s : ByteArray) (w : World) (h : DiskAt w p D F) (hcell : w.cell? ⟨b, off, none⟩ = some (.string s)) (hhas : D.has s = true) (hwl : D.waits.length ≤ 1000000) :
    Calls Try.prog 61 #[ptrTo p, .slice (some ⟨b, off, none⟩) 1 cap] w (GoneDone p (D.drop s) F w) := by
  obtain ⟨f, hf, hp⟩ := has_some hhas
  obtain ⟨mb, wv, hD, rfl⟩ := h
  obtain ⟨c0, c1, c2, c3, c4⟩ := hD.cells
  have hlook := hD.look s
  rw [hp] at hlook
  have hbl : b < w.heap.size := World.block_lt_of_cell? w _ hcell
  have hpl : p < w.heap.size := heap_lt hD.obj
  have HD := box hD
  have Hf := box hf
  have Hw := box hwl
  clear hD hf hp hhas hwl
  go_enter Try.func61, Try.ntmps61
  go_wp2_with fail
  refine wp_loop_rounds 2 ?_
  rw [rounds_succ]
  go_wp2_with fail
  have hT := HD.out.calm ((Calm.refl w).alloc (.cells #[ptrTo f.blk] 77))
  have hfin : f ∈ D.files := (find_some Hf.out).1
  have hfbc := heap_new w (.cells #[ptrTo f.blk] 77)
  have hk1 : Keeps (foot p mb wv D) w (w.alloc (.cells #[ptrTo f.blk] 77)) := (Keeps.refl _ w).alloc _
  generalize w.alloc (.cells #[ptrTo f.blk] 77) = W2 at *
  refine (DeleteFunc_any _ w.heap.size f.blk drop_fn wv D.waits W2 hT.waits (cell_of hfbc 0) (hT.plain hfin) hT.plainW (by have := Hw.out; omega) (fun g hg => ⟨fun e => by have := (HD.out.waits.lt g hg).2; omega, fun e => HD.out.file_ne_row hfin (by rw [hg, e]), fun x hx e => ?_⟩)).mono ?_
  · obtain ⟨y, hy, he⟩ := HD.out.live x hx
    exact HD.out.file_ne_row hy (by rw [hg, e, he])
  rintro e w2 ⟨wv', rfl, hrow, hk2, hob⟩
  obtain ⟨a', n', cap', rfl⟩ := row_slice hrow
  have hp2 : w2.heap[p]? = some (.cells (diskCells D mb wv) 76 (0, 0)) := (hk2.block p (heap_lt hT.obj) hT.p_ne_row).trans hT.obj
  have g2 : w2.cell? ⟨p, 2, none⟩ = some (.map (some mb)) := cell_of hp2 2
  have g3 := cell_of hp2 3
  have g4 := free_of hp2 3
  have hpl2 := heap_lt hp2
  have hfin2 := hT.rowTo hk2 hrow (fun g hg => .inl (hob ▸ hg)) (fun x hx => hT.live x (List.mem_filter.1 hx).1)
  obtain ⟨o, hrun, hdel⟩ := hfin2.del (n := s) (f := f) Hf.out (fun x hx e => by have := (List.mem_filter.1 hx).2; simp [e] at this)
  have Hdel := box hdel
  have hk3 := box (((hk1.trans' (hk2.mono (fun b _ hb => .inr (.inr (.inl hb))))).setCell (p := ⟨p, 3, none⟩) (.inl (.inl rfl)) (.slice a' n' cap')).setObj (.inl (.inr (.inl rfl))) o)
  have hob := box hob
  clear hT hk1 hk2 hrow hfbc hp2 hfin2 hdel
  go_wp2_with fail
  rw [rounds_succ]
  go_wp2_with fail
  go_end0
  refine ⟨rfl, _, ⟨mb, _, by rw [drop_some Hf.out]; exact Hdel.out, rfl⟩, hk3.out, ?_⟩
  rintro b (hb | hb | hb | hb)
  · exact .inl (.inl hb)
  · exact .inl (.inr (.inl hb))
  · exact .inl (.inr (.inr (.inl (by rw [← hob.out]; exact hb))))
  · refine .inl (.inr (.inr (.inr ?_)))
    rw [drop_some Hf.out] at hb
    obtain ⟨x, hx, rfl⟩ := List.mem_map.1 hb
    exact List.mem_map.2 ⟨x, (List.mem_filter.1 hx).1, rfl⟩

end
end Go.Proofs.Ytbmhjojlbmbpkaa.dk
