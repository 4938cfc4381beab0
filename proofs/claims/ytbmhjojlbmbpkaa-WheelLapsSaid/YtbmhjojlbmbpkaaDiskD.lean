/- Layer 4: Rename. -/
import Derived.Test.YtbmhjojlbmbpkaaDiskC
namespace Go.Proofs.Ytbmhjojlbmbpkaa.dk
open Go.ChangeShapes Go.WideShapes Go.ChangeAt Go.RowKit

section
variable {w w' w1 : World} {p mb : Nat} {wv wv' : Value} {D : DiskS} {F : Nat → Prop}

/-- A file under another name. -/
def DiskS.moved (E : DiskS) (a b : ByteArray) (f : FileS) : DiskS := { E with files := (E.files.filter fun x => !decide (x.name = a)) ++ [{ f with name := b }] }

theorem DiskIn.rename (h : DiskIn w p mb wv D) {a b : ByteArray} {f : FileS} (hf : D.find a = some f) (hb : D.find b = none) (hab : a ≠ b) :
    ∃ o o2, (Instr.mapUpdate 73 (.map (some mb)) (.string b) (ptrTo f.blk)).run Try.prog w = .ok () (ChangeMaps.setBlock w mb o) ∧
      (∀ ty, (Builtin.delete_ #[73, 9] ty #[.map (some mb), .string a]).run Try.prog (ChangeMaps.setBlock w mb o) = .ok (.tuple #[]) (ChangeMaps.setBlock (ChangeMaps.setBlock w mb o) mb o2)) ∧
      DiskIn (ChangeMaps.setBlock (ChangeMaps.setBlock w mb o) mb o2) p mb wv (D.moved a b f) := by
  obtain ⟨hm, hn⟩ := find_some hf
  obtain ⟨L1, L2, hL, hfil⟩ := filter_split h hf
  obtain ⟨o, hrun, hadd⟩ := h.map.add (P := Try.prog) Try.underlying73 Try.underlying9 (key := .string b) (ptrTo f.blk) trivial (fun x hx => by
    obtain ⟨g, hg, rfl⟩ := List.mem_map.1 hx
    simp only [encF, ne_eq, Value.string.injEq]
    exact find_none hb g hg)
  have hadd2 : MapIs (ChangeMaps.setBlock w mb o) mb .string (L1.map encF ++ (.string a, ptrTo f.blk) :: (L2.map encF ++ [(.string b, ptrTo f.blk)])) := by
    have := hadd
    rw [hL, List.map_append, List.map_cons, show encF f = (.string a, ptrTo f.blk) by simp [encF, hn]] at this
    simpa using this
  obtain ⟨o2, hrun2, hm2⟩ := MapIs.del (P := Try.prog) Try.underlying73 Try.underlying9 hadd2 trivial
  have hother : ∀ i, i ≠ mb → (ChangeMaps.setBlock (ChangeMaps.setBlock w mb o) mb o2).heap[i]? = w.heap[i]? := fun i hi => by
    rw [heap_put_other _ _ hi]; exact heap_put_other w o hi
  refine ⟨o, o2, hrun, hrun2, ?_, ?_, ?_, ?_, ?_, ?_⟩
  · rw [hother _ h.p_ne_mb]; exact h.obj
  · unfold DiskS.moved
    rw [hfil]
    simpa [encF] using hm2
  · intro x hx
    unfold DiskS.moved at hx
    rcases List.mem_append.1 hx with hx | hx
    · have hx' := (List.mem_filter.1 hx).1
      rw [hother _ (h.mb_ne_file hx')]; exact h.files x hx'
    · rw [List.mem_singleton] at hx
      subst hx
      rw [hother _ (h.mb_ne_file hm)]; exact h.files f hm
  · exact row_same h.waits (fun g hg => hother _ (fun e => h.mb_ne_row (by rw [hg, e])))
  · have := h.blks
    rw [hL] at this
    unfold DiskS.moved
    rw [hfil]
    refine (List.Perm.nodup_iff ?_).1 this
    simp only [List.map_append, List.map_cons, List.map_nil, List.append_assoc]
    refine List.Perm.append_left _ ?_
    exact (List.perm_append_singleton f.blk (L2.map (·.blk))).symm
  · intro x hx
    obtain ⟨g, hg, he⟩ := h.live x hx
    unfold DiskS.moved
    by_cases hga : g.name = a
    · have : g = f := nodup_inj h.names hg hm (by rw [hga, hn])
      subst this
      exact ⟨_, List.mem_append_right _ (List.mem_singleton.2 rfl), he⟩
    · exact ⟨g, List.mem_append_left _ (List.mem_filter.2 ⟨hg, by simpa using hga⟩), he⟩

theorem moved_foot {f : FileS} (hm : f ∈ D.files) {a b : ByteArray} {x : Nat} (h : foot p mb wv (D.moved a b f) x) : foot p mb wv D x := by
  rcases h with h | h | h | h
  · exact .inl h
  · exact .inr (.inl h)
  · exact .inr (.inr (.inl h))
  · refine .inr (.inr (.inr ?_))
    obtain ⟨y, hy, rfl⟩ := List.mem_map.1 h
    unfold DiskS.moved at hy
    rcases List.mem_append.1 hy with hy | hy
    · exact List.mem_map.2 ⟨y, (List.mem_filter.1 hy).1, rfl⟩
    · rw [List.mem_singleton] at hy; subst hy; exact List.mem_map.2 ⟨f, hm, rfl⟩

theorem drop_find {a b : ByteArray} (h : a ≠ b) : (D.drop b).find a = D.find a := by
  unfold DiskS.drop
  cases hf : D.find b with
  | none => rfl
  | some f =>
    unfold DiskS.find DiskS.without
    simp only [List.find?_filter]
    congr 1
    funext x
    by_cases hx : x.name = a
    · simp [hx, h]
    · simp [hx]
theorem drop_gone (b : ByteArray) : (D.drop b).find b = none := by
  unfold DiskS.drop
  cases hf : D.find b with
  | none => exact hf
  | some f =>
    unfold DiskS.find
    rw [List.find?_eq_none]
    intro x hx
    have := (List.mem_filter.1 hx).2
    simpa using this

theorem rename_run {a b : ByteArray} {f : FileS} (hd : D.down = false) (hf : D.find a = some f) (hbn : D.burns = false) (hab : a ≠ b) : D.rename a b = (0, (D.burn.drop b).moved a b f) := by
  unfold DiskS.rename DiskS.doing
  rw [hd, hf]
  simp only [hbn, if_neg hab]
  rfl

set_option maxRecDepth 100000 in
set_option maxHeartbeats 4000000 in
theorem Rename_any (a b : ByteArray) (w : World) (h : DiskAt w p D F) (hleft : D.left ≤ 9223372036854775807) (hwl : D.waits.length ≤ 1000000) :
    Calls Try.prog 41 #[ptrTo p, .string a, .string b] w (OpDone (D.rename a b) p F w) := by
  obtain ⟨mb, wv, h, rfl⟩ := h
  have hcalm : Calm w (w.alloc (.cells #[.string a] 9)) := (Calm.refl w).alloc _
  have h1 := h.calm hcalm
  obtain ⟨c0, c1, c2, c3, c4⟩ := h1.cells
  have Hb := box (bars_any (p := p) (mb := mb) (wv := wv) (D := D) (.slice (some ⟨w.heap.size, 0, none⟩) 1 1) [a] (w.alloc (.cells #[.string a] 9)) h1 (StrsAt.one (by go_cell)) (by simp))
  have hb1 := box (bars_one (D := D) a)
  have H1 := box h1
  have Hwl := box hwl
  have Hcalm := box hcalm
  clear hwl hcalm h
  cases hd : D.down
  · cases hf : D.find a with
    | none =>
      have hh : D.has a = false := by unfold DiskS.has; rw [hf]; rfl
      have hres := box (show D.rename a b = (9, D) by unfold DiskS.rename; rw [hd, hf]; rfl)
      have hb2 := box (show D.bars [a] = 9 by rw [hb1.out, hd, hh]; rfl)
      clear hb1 h1 hf hh hd
      go_enter Try.func41, Try.ntmps41
      go_wp2_with fail
      refine Hb.out.mono ?_
      rw [hb2.out]
      rintro e w' ⟨rfl, rfl⟩
      go_wp2_with fail
      go_ret
      exact OpDone.of hres.out ⟨mb, wv, H1.out, rfl⟩ (Step.of_calm Hcalm.out)
    | some f =>
      have hh : D.has a = true := by unfold DiskS.has; rw [hf]; rfl
      have hb2 := box (show D.bars [a] = 0 by rw [hb1.out, hd, hh]; rfl)
      cases hbn : D.burns
      · by_cases hab : a = b
        · subst hab
          have hres := box (show D.rename a a = (0, D.burn) by unfold DiskS.rename DiskS.doing; rw [hd, hf]; simp only [hbn, if_true]; rfl)
          have Hbn := box hbn
          clear hb1 h1 hf hh hd hbn
          go_enter Try.func41, Try.ntmps41
          go_wp2_with fail
          refine Hb.out.mono ?_
          rw [hb2.out]
          rintro e w' ⟨rfl, rfl⟩
          go_wp2_with fail
          refine (done_any _ H1.out hleft).mono ?_
          rw [Hbn.out]
          rintro e w2 ⟨rfl, hN⟩
          go_wp2_with fail
          go_ret
          exact OpDone.of hres.out ⟨mb, wv, hN.disk, foot_burn.symm⟩ (Step.calm_left Hcalm.out (hN.step (.inl rfl)))
        · have hres := box (rename_run hd hf hbn hab)
          have Hab := box hab
          have hbeq : (a.toList == b.toList) = false := by rw [beq_eq_false_iff_ne, Lib.toList_data, Lib.toList_data]; exact fun e => hab (ba_ext e)
          have hf2 := box (show D.burn.find a = some f by rw [burn_find]; exact hf)
          have Hbn := box hbn
          clear hb1 h1 hf hh hd hbn
          cases hbh : D.burn.has b
          · have hp := has_none hbh
            have hdn := box (drop_none hbh)
            have hbf := box (show D.burn.find b = none by unfold DiskS.has at hbh; cases hx : D.burn.find b; rfl; rw [hx] at hbh; cases hbh)
            clear hbh
            go_enter Try.func41, Try.ntmps41
            go_wp2_with fail
            refine Hb.out.mono ?_
            rw [hb2.out]
            rintro e w' ⟨rfl, rfl⟩
            go_wp2_with fail
            refine (done_any _ H1.out hleft).mono ?_
            rw [Hbn.out]
            rintro e w2 ⟨rfl, hN⟩
            have HS := box (show Step (foot p mb wv D) w (foot p mb wv D.burn) w2 by rw [foot_burn]; exact Step.calm_left Hcalm.out (hN.step (.inl rfl)))
            obtain ⟨e0, e1, e2, e3, e4⟩ := hN.disk.cells
            have l1 := hN.disk.look b
            have hNd := hN.disk.calm ((Calm.refl _).drew)
            have l2 := hNd.look a
            rw [hp] at l1
            rw [ptr_some hf2.out] at l2
            obtain ⟨o, o2, hup, hdel, hfin⟩ := hNd.rename hf2.out hbf.out Hab.out
            have Hfin := box hfin
            have hne := hN.disk.p_ne_mb
            have e2' : (ChangeMaps.setBlock w2.drew mb o).cell? ⟨p, 2, none⟩ = some (.map (some mb)) := by
              simp only [World.cell?] at e2 ⊢
              rw [heap_put_other w2.drew o hne]; exact e2
            have HN := box hN
            clear hN hfin hp hNd
            go_wp2_with fail
            go_region
            go_wp2_with fail
            go_ret
            refine OpDone.of hres.out ⟨mb, wv, by rw [hdn.out]; exact Hfin.out, rfl⟩ (HS.out.trans ⟨?_, ?_⟩)
            · exact ((((Keeps.refl _ w2).drew).setObj (.inl (.inr (.inl rfl))) o)).setObj (.inl (.inr (.inl rfl))) o2
            · intro x hx; rw [hdn.out] at hx; exact .inl (moved_foot (find_some hf2.out).1 hx)
          · have Hbh := box hbh
            obtain ⟨fb, hfb, hp⟩ := has_some hbh
            clear hbh hfb
            go_enter Try.func41, Try.ntmps41
            go_wp2_with fail
            refine Hb.out.mono ?_
            rw [hb2.out]
            rintro e w' ⟨rfl, rfl⟩
            go_wp2_with fail
            refine (done_any _ H1.out hleft).mono ?_
            rw [Hbn.out]
            rintro e w2 ⟨rfl, hN⟩
            have HS := box (show Step (foot p mb wv D) w (foot p mb wv D.burn) w2 by rw [foot_burn]; exact Step.calm_left Hcalm.out (hN.step (.inl rfl)))
            obtain ⟨e0, e1, e2, e3, e4⟩ := hN.disk.cells
            have l1 := hN.disk.look b
            rw [hp] at l1
            have HN := box hN
            have hW := box (show D.burn.waits = D.waits from burn_files.2.1)
            clear hN hp
            go_wp2_with fail
            refine (dropOne_any (F := foot p mb wv D.burn) w2.heap.size 0 1 b _ ⟨mb, wv, HN.out.disk.calm ((Calm.refl w2).alloc _), rfl⟩ (by go_cell) Hbh.out (by rw [hW.out]; exact Hwl.out)).mono ?_
            rintro e w3 ⟨rfl, F3, ⟨mb3, wv3, hD3, rfl⟩, hs3⟩
            have HS3 := box (HS.out.trans (Step.calm_left ((Calm.refl w2).alloc _) hs3))
            obtain ⟨e0, e1, e2, e3, e4⟩ := hD3.cells
            have hf3 := box (show (D.burn.drop b).find a = some f by rw [drop_find Hab.out]; exact hf2.out)
            have hNd := hD3.calm ((Calm.refl _).drew)
            have l2 := hNd.look a
            rw [ptr_some hf3.out] at l2
            obtain ⟨o, o2, hup, hdel, hfin⟩ := hNd.rename hf3.out (drop_gone b) Hab.out
            have Hfin := box hfin
            have hne := hD3.p_ne_mb
            have e2' : (ChangeMaps.setBlock w3.drew mb3 o).cell? ⟨p, 2, none⟩ = some (.map (some mb3)) := by
              simp only [World.cell?] at e2 ⊢
              rw [heap_put_other w3.drew o hne]; exact e2
            clear hfin hNd hs3 hD3
            go_wp2_with fail
            go_region
            go_wp2_with fail
            go_ret
            refine OpDone.of hres.out ⟨mb3, wv3, Hfin.out, rfl⟩ (HS3.out.trans ⟨?_, ?_⟩)
            · exact ((((Keeps.refl _ w3).drew).setObj (.inl (.inr (.inl rfl))) o)).setObj (.inl (.inr (.inl rfl))) o2
            · intro x hx; exact .inl (moved_foot (find_some hf3.out).1 hx)
      · have hres := box (show D.rename a b = (8, D.burn) by unfold DiskS.rename DiskS.doing; rw [hd, hf]; simp only [hbn]; rfl)
        have Hbn := box hbn
        clear hb1 h1 hf hh hd hbn
        go_enter Try.func41, Try.ntmps41
        go_wp2_with fail
        refine Hb.out.mono ?_
        rw [hb2.out]
        rintro e w' ⟨rfl, rfl⟩
        go_wp2_with fail
        refine (done_any _ H1.out hleft).mono ?_
        rw [Hbn.out]
        rintro e w2 ⟨rfl, hN⟩
        go_wp2_with fail
        go_ret
        exact OpDone.of hres.out ⟨mb, wv, hN.disk, foot_burn.symm⟩ (Step.calm_left Hcalm.out (hN.step (.inl rfl)))
  · have hres := box (show D.rename a b = (8, D) by unfold DiskS.rename; rw [hd]; rfl)
    have hb2 := box (show D.bars [a] = 8 by rw [hb1.out, hd]; rfl)
    clear hb1 h1 hd
    go_enter Try.func41, Try.ntmps41
    go_wp2_with fail
    refine Hb.out.mono ?_
    rw [hb2.out]
    rintro e w' ⟨rfl, rfl⟩
    go_wp2_with fail
    go_ret
    exact OpDone.of hres.out ⟨mb, wv, H1.out, rfl⟩ (Step.of_calm Hcalm.out)

end
end Go.Proofs.Ytbmhjojlbmbpkaa.dk
