/- Layer 4: Delete. -/
import Derived.Test.YtbmhjojlbmbpkaaDiskB
namespace Go.Proofs.Ytbmhjojlbmbpkaa.dk
open Go.ChangeShapes Go.WideShapes Go.ChangeAt Go.RowKit

section
variable {w w' w1 : World} {p mb : Nat} {wv wv' : Value} {D : DiskS} {F : Nat → Prop}

theorem drop_snoc (l : List ByteArray) (k : Nat) (hk : k < l.length) : (l.take (k + 1)).foldl DiskS.drop D = ((l.take k).foldl DiskS.drop D).drop (l.getD k ByteArray.empty) := by
  rw [List.take_succ_eq_append_getElem hk, List.foldl_append]; simp [List.getD_eq_getElem?_getD, List.getElem?_eq_getElem hk]
theorem drop_none {n : ByteArray} (h : D.has n = false) : D.drop n = D := by
  unfold DiskS.has at h
  unfold DiskS.drop
  cases hf : D.find n
  · rfl
  · rw [hf] at h; cases h
theorem drop_waits (n : ByteArray) : (D.drop n).waits.length ≤ D.waits.length := by
  unfold DiskS.drop
  cases D.find n with
  | none => exact Nat.le_refl _
  | some f => exact List.length_filter_le _ _

set_option maxRecDepth 100000 in
set_option maxHeartbeats 4000000 in
theorem Delete_any (v : Value) (l : List ByteArray) (w : World) (h : DiskAt w p D F) (hv : StrsAt w v l) (hap : Apart v F) (hl : l.length ≤ 4294967296) (hleft : D.left ≤ 9223372036854775807) (hwl : D.waits.length ≤ 1000000) :
    Calls Try.prog 42 #[ptrTo p, v] w (OpDone (D.delete l) p F w) := by
  obtain ⟨mb, wv, h, rfl⟩ := h
  have Hb := box (bars_any v l w h hv hl)
  have H := box h
  obtain ⟨a, cap, rfl, hc⟩ := hv.uni
  have Hc := box hc
  have Hap := box hap
  have Hwl := box hwl
  clear h hap hwl hc hv
  rcases bars_cases (D := D) l with ⟨-, hb⟩ | ⟨-, -, hb⟩ | ⟨-, hall, hb⟩
  · have hs := box (show D.delete l = (8, D) by unfold DiskS.delete; rw [hb, if_pos (by decide)])
    rw [hb] at Hb
    clear hb
    go_enter Try.func42, Try.ntmps42
    go_wp2_with fail
    refine Hb.out.mono ?_
    rintro e w' ⟨rfl, rfl⟩
    go_wp2_with fail
    go_ret
    exact OpDone.of hs.out ⟨mb, wv, H.out, rfl⟩ (.refl _ _)
  · have hs := box (show D.delete l = (9, D) by unfold DiskS.delete; rw [hb, if_pos (by decide)])
    rw [hb] at Hb
    clear hb
    go_enter Try.func42, Try.ntmps42
    go_wp2_with fail
    refine Hb.out.mono ?_
    rintro e w' ⟨rfl, rfl⟩
    go_wp2_with fail
    go_ret
    exact OpDone.of hs.out ⟨mb, wv, H.out, rfl⟩ (.refl _ _)
  · have Hall := box hall
    rw [hb] at Hb
    cases hbn : D.burns
    · have hs := box (show D.delete l = (0, l.foldl DiskS.drop D.burn) by unfold DiskS.delete DiskS.doing; rw [hb, if_neg (by decide), hbn]; rfl)
      have Hbn := box hbn
      clear hb hbn hall
      go_enter Try.func42, Try.ntmps42
      go_wp2_with fail
      refine Hb.out.mono ?_
      rintro e w' ⟨rfl, rfl⟩
      go_wp2_with fail
      refine (done_any _ H.out hleft).mono ?_
      rw [Hbn.out]
      rintro e w' ⟨rfl, hN⟩
      have HS := box (show Step (foot p mb wv D) w (foot p mb wv D.burn) w' by rw [foot_burn]; exact hN.step (.inl rfl))
      have HN := box hN.disk
      clear hN
      go_wp2_with fail
      go_loopw [22] (fun i wr => ∃ k : Nat, k ≤ l.length ∧ i = .int .i64 k ∧ (∃ Fk, DiskAt wr p ((l.take k).foldl DiskS.drop D.burn) Fk ∧ Step (foot p mb wv D) w Fk wr) ∧ ((l.take k).foldl DiskS.drop D.burn).waits.length ≤ D.waits.length) (fun i _ => l.length - (intOf i).toNat)
      case atStart => exact ⟨0, Nat.zero_le _, rfl, ⟨_, ⟨mb, wv, HN.out, rfl⟩, HS.out⟩, by rw [List.take_zero]; exact Nat.le_of_eq (congrArg List.length burn_files.2.1)⟩
      case round =>
        obtain ⟨k, hk, rfl, ⟨Fk, hdisk, hstep⟩, hw⟩ := hrel
        by_cases hlt : k < l.length
        · obtain ⟨b, off, rfl, hbl, hcell⟩ := Hc.out k hlt
          have hsn := box (drop_snoc (D := D.burn) l k hlt)
          obtain ⟨s, hs'⟩ : ∃ s, l.getD k ByteArray.empty = s := ⟨_, rfl⟩
          obtain ⟨E, hE⟩ : ∃ E, (l.take k).foldl DiskS.drop D.burn = E := ⟨_, rfl⟩
          rw [hs'] at hcell hsn
          rw [hE] at hsn hdisk hw
          clear hs' hE
          have hcw : wr.cell? ⟨b, off + k, none⟩ = some (.string s) := by
            simp only [World.cell?] at hcell ⊢
            rw [hstep.keeps.block b hbl (Hap.out _ _ _ rfl (by omega))]; exact hcell
          clear hcell
          have Hdisk := box hdisk
          obtain ⟨mb', wv2, hD, rfl⟩ := hdisk
          obtain ⟨c0, c1, c2, c3, c4⟩ := hD.cells
          have hlook := hD.look s
          have Hstep := box hstep
          have Hw := box hw
          clear hstep hw hD
          cases hh : E.has s
          · have hp := has_none hh
            have hno := box (drop_none hh)
            rw [hp] at hlook
            clear hh hp
            go_wp2_with fail
            go_roundw
            case rel => exact ⟨k + 1, by omega, by go_num, ⟨_, by rw [hsn.out, hno.out]; exact Hdisk.out, Hstep.out⟩, by rw [hsn.out, hno.out]; exact Hw.out⟩
            case measure => simp [intOf]; omega
          · obtain ⟨f, hf, hp⟩ := has_some hh
            have Hh := box hh
            rw [hp] at hlook
            clear hh hp hf
            go_wp2_with fail
            refine (dropOne_any wr.heap.size 0 1 s _ (Hdisk.out.calm ((Calm.refl wr).alloc _)) (by go_cell) Hh.out (by have := Hw.out; have := Hwl.out; omega)).mono ?_
            rintro e w2 ⟨rfl, F2, hd2, hs2⟩
            go_wp2_with fail
            go_roundw
            case rel => exact ⟨k + 1, by omega, by go_num, ⟨F2, by rw [hsn.out]; exact hd2, (Hstep.out.calm ((Calm.refl wr).alloc _)).trans hs2⟩, by rw [hsn.out]; exact Nat.le_trans (drop_waits _) Hw.out⟩
            case measure => simp [intOf]; omega
        · obtain rfl : k = l.length := by omega
          rw [List.take_length] at hdisk
          have Hdisk := box hdisk
          have Hstep := box hstep
          clear hdisk hstep hw
          go_wp2
          go_ret
          exact OpDone.of hs.out Hdisk.out Hstep.out
    · have hs := box (show D.delete l = (8, D.burn) by unfold DiskS.delete DiskS.doing; rw [hb, if_neg (by decide), hbn]; rfl)
      have Hbn := box hbn
      clear hb hbn hall
      go_enter Try.func42, Try.ntmps42
      go_wp2_with fail
      refine Hb.out.mono ?_
      rintro e w' ⟨rfl, rfl⟩
      go_wp2_with fail
      refine (done_any _ H.out hleft).mono ?_
      rw [Hbn.out]
      rintro e w' ⟨rfl, hN⟩
      go_wp2_with fail
      go_ret
      exact OpDone.of hs.out ⟨mb, wv, hN.disk, foot_burn.symm⟩ (hN.step (.inl rfl))

end
end Go.Proofs.Ytbmhjojlbmbpkaa.dk
