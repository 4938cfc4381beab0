/- Layer 4: Create, New, Down, Waits, Len, Fuse, All. -/
import Derived.Test.YtbmhjojlbmbpkaaDisk2
namespace Go.Proofs.Ytbmhjojlbmbpkaa.dk
open Go.ChangeShapes Go.WideShapes Go.ChangeAt Go.RowKit

section
variable {p mb : Nat} {wv : Value} {D : DiskS}

theorem DiskIn.keep {w : World} (h : DiskIn w p mb wv D) {w' : World} {F : Nat → Prop} (k : Keeps F w w') (hF : ∀ b, foot p mb wv D b → ¬ F b) : DiskIn w' p mb wv D := by
  have hb : ∀ b, foot p mb wv D b → w'.heap[b]? = w.heap[b]? := fun b hb => k.block b (h.foot_lt b hb) (hF b hb)
  refine ⟨(hb p (.inl rfl)).trans h.obj, h.map.same (hb mb (.inr (.inl rfl))), fun f hf => (hb f.blk (.inr (.inr (.inr (List.mem_map.2 ⟨f, hf, rfl⟩))))).trans (h.files f hf), row_same h.waits (fun g hg => hb g (.inr (.inr (.inl hg)))), h.blks, h.live⟩

theorem burn_files : D.burn.files = D.files ∧ D.burn.waits = D.waits ∧ D.burn.cap = D.cap := by
  unfold DiskS.burn; split
  · exact ⟨rfl, rfl, rfl⟩
  · split <;> exact ⟨rfl, rfl, rfl⟩
theorem burn_find (n : ByteArray) : D.burn.find n = D.find n := by unfold DiskS.find; rw [burn_files.1]
theorem burn_ptr (n : ByteArray) : D.burn.ptr n = D.ptr n := by unfold DiskS.ptr; rw [burn_find]
theorem foot_burn : foot p mb wv D.burn = foot p mb wv D := by unfold foot; rw [burn_files.1]
theorem Nums.step {w w' : World} (h : Nums w w' p mb wv D) {F : Nat → Prop} (hp : F p) : Step F w F w' :=
  ⟨h.keeps.mono fun b _ e => e ▸ hp, fun _ h => .inl h⟩

/-- The new file of a name, in the block b. -/
def DiskS.plus (D : DiskS) (n : ByteArray) (b : Nat) : DiskS := { D with files := D.files ++ [⟨n, b, ⟨#[]⟩, ⟨#[]⟩⟩] }
def CreateDone (D : DiskS) (p : Nat) (F : Nat → Prop) (w : World) (n : ByteArray) (e : Ending) (w' : World) : Prop :=
  ∃ b F', w.heap.size ≤ b ∧ e = .returned (.int .i64 (D.create n b).1) ∧ DiskAt w' p (D.create n b).2 F' ∧ Step F w F' w'

/-- The file is laid and named. -/
theorem DiskIn.plus {w : World} (h : DiskIn w p mb wv D) {n : ByteArray} (hn : D.has n = false) {o : Obj}
    (hm : MapIs (ChangeMaps.setBlock (w.alloc (.cells #[.string ⟨#[]⟩, .string ⟨#[]⟩] 80)) mb o) mb .string (D.files.map encF ++ [(.string n, ptrTo w.heap.size)])) :
    DiskIn (ChangeMaps.setBlock (w.alloc (.cells #[.string ⟨#[]⟩, .string ⟨#[]⟩] 80)) mb o) p mb wv (D.plus n w.heap.size) := by
  have hc : Calm w (w.alloc (.cells #[.string ⟨#[]⟩, .string ⟨#[]⟩] 80)) := (Calm.refl w).alloc _
  have h1 := h.calm hc
  have hlt : ∀ f ∈ D.files, f.blk < w.heap.size := fun f hf => heap_lt (h.files f hf)
  refine ⟨?_, ?_, ?_, ?_, ?_, ?_⟩
  · rw [heap_put_other _ _ h1.p_ne_mb]; exact h1.obj
  · simpa [DiskS.plus, encF] using hm
  · intro f hf
    rcases List.mem_append.1 hf with hf | hf
    · rw [heap_put_other _ _ (h1.mb_ne_file hf)]; exact h1.files f hf
    · rw [List.mem_singleton] at hf
      subst hf
      rw [heap_put_other _ _ (by have := h.map.lt; simp only []; omega)]; exact heap_new w _
  · exact row_same h1.waits (fun g hg => heap_put_other _ _ (fun e => h1.mb_ne_row (by rw [hg, e])))
  · simp only [DiskS.plus, List.map_append, List.map_cons, List.map_nil]
    refine List.nodup_append.2 ⟨h.blks, by simp, ?_⟩
    intro a ha b hb e
    rw [List.mem_singleton] at hb
    obtain ⟨f, hf, rfl⟩ := List.mem_map.1 ha
    have := hlt f hf
    omega
  · intro x hx
    obtain ⟨f, hf, he⟩ := h.live x hx
    exact ⟨f, List.mem_append_left _ hf, he⟩

theorem bars_nil : D.bars [] = if D.down then 8 else 0 := by unfold DiskS.bars; rfl

set_option maxHeartbeats 2000000 in
theorem Create_in (w : World) (n : ByteArray) (h : DiskIn w p mb wv D) (hl : D.left ≤ 9223372036854775807) :
    Calls Try.prog 13 #[ptrTo p, .string n] w (CreateDone D p (foot p mb wv D) w n) := by
  obtain ⟨c0, c1, c2, c3, c4⟩ := h.cells
  have hlook := h.look n
  have Hb := box (fun W hW => bars_any (p := p) (mb := mb) (wv := wv) (D := D) (.slice none 0 0) [] W hW (.inl ⟨rfl, _, _, rfl⟩) (by simp))
  have H := box h
  clear h
  cases hd : D.down
  · have hbars := box (show D.bars [] = 0 by rw [bars_nil, hd]; rfl)
    cases hh : D.has n
    · have hp := has_none hh
      have hn := box hh
      cases hbn : D.burns
      · have hc := box (show ∀ b, D.create n b = (0, D.burn.plus n b) by intro b; unfold DiskS.create DiskS.doing; rw [hd, hn.out, hbn]; rfl)
        clear hd hh
        have Hbn := box hbn
        clear hbn
        go_enter Try.func13, Try.ntmps13
        go_wp2_with fail
        refine (Hb.out _ H.out).mono ?_
        rw [hbars.out]
        rintro e w' ⟨rfl, rfl⟩
        go_wp2_with fail
        refine (done_any _ H.out hl).mono ?_
        rw [Hbn.out]
        rintro e w' ⟨rfl, hN⟩
        obtain ⟨d0, d1, d2, d3, d4⟩ := hN.disk.cells
        have hsz := box hN.size
        have hmiss : ∀ x ∈ D.burn.files.map encF, x.1 ≠ .string n := by
          intro x hx
          obtain ⟨g, hg, rfl⟩ := List.mem_map.1 hx
          simp only [encF, ne_eq, Value.string.injEq]
          refine find_none ?_ g hg
          rw [burn_find]
          have := hn.out; unfold DiskS.has at this; cases hf : D.find n; rfl; rw [hf] at this; cases this
        have hno : D.burn.has n = false := by have := hn.out; unfold DiskS.has at this ⊢; rw [burn_find]; exact this
        obtain ⟨o, hrun, hmap⟩ := (hN.disk.map.calm ((Calm.refl w').alloc (.cells #[.string ⟨#[]⟩, .string ⟨#[]⟩] 80))).add (P := Try.prog) Try.underlying73 Try.underlying9 (key := .string n) (ptrTo w'.heap.size) trivial hmiss
        have hfin := box (show DiskIn (ChangeMaps.setBlock (w'.alloc (.cells #[.string ⟨#[]⟩, .string ⟨#[]⟩] 80)) mb o) p mb wv (D.burn.plus n w'.heap.size) from hN.disk.plus hno hmap)
        have HN := box hN
        clear hmap hmiss hno hN
        go_wp2_with fail
        go_ret
        refine ⟨w'.heap.size, foot p mb wv (D.burn.plus n w'.heap.size), by rw [hsz.out]; exact Nat.le_refl _, ret_int (by rw [hc.out]), ?_, ?_⟩
        · rw [hc.out]; exact ⟨mb, wv, hfin.out, rfl⟩
        · refine ⟨((HN.out.keeps.mono fun b _ e => .inl e).alloc _).setObj (.inl (.inr (.inl rfl))) _, ?_⟩
          rintro b (hb | hb | hb | hb)
          · exact .inl (.inl hb)
          · exact .inl (.inr (.inl hb))
          · exact .inl (.inr (.inr (.inl hb)))
          · simp only [DiskS.plus, List.map_append, List.map_cons, List.map_nil, List.mem_append, List.mem_singleton, burn_files.1] at hb
            rcases hb with hb | hb
            · exact .inl (.inr (.inr (.inr hb)))
            · exact .inr (by rw [hb, hsz.out]; exact Nat.le_refl _)
      · have hc := box (show ∀ b, D.create n b = (8, D.burn) by intro b; unfold DiskS.create DiskS.doing; rw [hd, hn.out, hbn]; rfl)
        clear hd hh
        have Hbn := box hbn
        clear hbn
        go_enter Try.func13, Try.ntmps13
        go_wp2_with fail
        refine (Hb.out _ H.out).mono ?_
        rw [hbars.out]
        rintro e w' ⟨rfl, rfl⟩
        go_wp2_with fail
        refine (done_any _ H.out hl).mono ?_
        rw [Hbn.out]
        rintro e w' ⟨rfl, hN⟩
        go_wp2_with fail
        go_ret
        refine ⟨w.heap.size, foot p mb wv D.burn, Nat.le_refl _, ret_int (by rw [hc.out]), ?_, ?_⟩
        · rw [hc.out]; exact ⟨mb, wv, hN.disk, rfl⟩
        · rw [foot_burn]; exact hN.step (.inl rfl)
    · obtain ⟨f, hf, hp⟩ := has_some hh
      have hc := box (show ∀ b, D.create n b = (10, D) by intro b; unfold DiskS.create; rw [hd, hh]; rfl)
      clear hd hh hf
      go_enter Try.func13, Try.ntmps13
      go_wp2_with fail
      refine (Hb.out _ H.out).mono ?_
      rw [hbars.out]
      rintro e w' ⟨rfl, rfl⟩
      go_wp2_with fail
      go_ret
      refine ⟨w.heap.size, foot p mb wv D, Nat.le_refl _, ret_int (by rw [hc.out]), ?_, .refl _ _⟩
      rw [hc.out]; exact ⟨mb, wv, H.out, rfl⟩
  · have hbars := box (show D.bars [] = 8 by rw [bars_nil, hd]; rfl)
    have hc := box (show ∀ b, D.create n b = (8, D) by intro b; unfold DiskS.create; rw [hd]; rfl)
    clear hd
    go_enter Try.func13, Try.ntmps13
    go_wp2_with fail
    refine (Hb.out _ H.out).mono ?_
    rw [hbars.out]
    rintro e w' ⟨rfl, rfl⟩
    go_wp2_with fail
    go_ret
    refine ⟨w.heap.size, foot p mb wv D, Nat.le_refl _, ret_int (by rw [hc.out]), ?_, .refl _ _⟩
    rw [hc.out]; exact ⟨mb, wv, H.out, rfl⟩

theorem Create_any {F : Nat → Prop} (w : World) (n : ByteArray) (h : DiskAt w p D F) (hl : D.left ≤ 9223372036854775807) :
    Calls Try.prog 13 #[ptrTo p, .string n] w (CreateDone D p F w n) := by
  obtain ⟨mb, wv, h1, rfl⟩ := h
  exact Create_in w n h1 hl

end
end Go.Proofs.Ytbmhjojlbmbpkaa.dk
