/- Layer 4: Sync, Cut, Delete, Rename. -/
import Derived.Test.YtbmhjojlbmbpkaaDisk9
namespace Go.Proofs.Ytbmhjojlbmbpkaa.dk
open Go.ChangeShapes Go.WideShapes Go.ChangeAt Go.RowKit

section
variable {w w' w1 : World} {p mb : Nat} {wv wv' : Value} {D : DiskS} {F : Nat → Prop}

/-- What a call leaves: its answer and the disk. -/
def OpDone (r : Int × DiskS) (p : Nat) (F : Nat → Prop) (w : World) (e : Ending) (w' : World) : Prop := e = .returned (.int .i64 r.1) ∧ ∃ F', DiskAt w' p r.2 F' ∧ Step F w F' w'

theorem OpDone.of {r : Int × DiskS} {n : Int} {E : DiskS} (h : r = (n, E)) {F' : Nat → Prop} (hd : DiskAt w' p E F') (hs : Step F w F' w') : OpDone r p F w (.returned (.int .i64 n)) w' := by
  subst h; exact ⟨rfl, F', hd, hs⟩

theorem bars_cases (l : List ByteArray) : (D.down = true ∧ D.bars l = 8) ∨ (D.down = false ∧ l.all D.has = false ∧ D.bars l = 9) ∨ (D.down = false ∧ l.all D.has = true ∧ D.bars l = 0) := by
  unfold DiskS.bars
  cases D.down <;> cases l.all D.has <;> simp
theorem burn_has (n : ByteArray) : D.burn.has n = D.has n := by unfold DiskS.has; rw [burn_find]

set_option maxRecDepth 100000 in
set_option maxHeartbeats 4000000 in
theorem Sync_any (v : Value) (l : List ByteArray) (w : World) (h : DiskAt w p D F) (hv : StrsAt w v l) (hap : Apart v F) (hl : l.length ≤ 4294967296) (hleft : D.left ≤ 9223372036854775807) (hwl : D.waits.length ≤ 1000000) :
    Calls Try.prog 15 #[ptrTo p, v] w (OpDone (D.sync l) p F w) := by
  obtain ⟨mb, wv, h, rfl⟩ := h
  have Hb := box (bars_any v l w h hv hl)
  have H := box h
  have Hv := box hv
  have Hap := box hap
  have Hwl := box hwl
  clear h hv hap hwl
  rcases bars_cases (D := D) l with ⟨-, hb⟩ | ⟨-, -, hb⟩ | ⟨-, hall, hb⟩
  · have hs := box (show D.sync l = (8, D) by unfold DiskS.sync; rw [hb, if_pos (by decide)])
    rw [hb] at Hb
    clear hb
    go_enter Try.func15, Try.ntmps15
    go_wp2_with fail
    refine Hb.out.mono ?_
    rintro e w' ⟨rfl, rfl⟩
    go_wp2_with fail
    go_ret
    exact OpDone.of hs.out ⟨mb, wv, H.out, rfl⟩ (.refl _ _)
  · have hs := box (show D.sync l = (9, D) by unfold DiskS.sync; rw [hb, if_pos (by decide)])
    rw [hb] at Hb
    clear hb
    go_enter Try.func15, Try.ntmps15
    go_wp2_with fail
    refine Hb.out.mono ?_
    rintro e w' ⟨rfl, rfl⟩
    go_wp2_with fail
    go_ret
    exact OpDone.of hs.out ⟨mb, wv, H.out, rfl⟩ (.refl _ _)
  · have Hall := box hall
    rw [hb] at Hb
    cases hbn : D.burns
    · have hs := box (show D.sync l = (0, l.foldl DiskS.last D.burn) by unfold DiskS.sync DiskS.doing; rw [hb, if_neg (by decide), hbn]; rfl)
      have Hbn := box hbn
      clear hb hbn hall
      go_enter Try.func15, Try.ntmps15
      go_wp2_with fail
      refine Hb.out.mono ?_
      rintro e w' ⟨rfl, rfl⟩
      go_wp2_with fail
      refine (done_any _ H.out hleft).mono ?_
      rw [Hbn.out]
      rintro e w' ⟨rfl, hN⟩
      have hk : Keeps (foot p mb wv D) w w' := hN.keeps.mono fun b _ e => .inl e
      have HN := box hN
      have Hk := box hk
      clear hN hk
      go_wp2_with fail
      refine (lasts_any (F := foot p mb wv D) v l w' ⟨mb, wv, HN.out.disk, foot_burn.symm⟩ (Hv.out.keep Hk.out Hap.out) Hap.out hl (fun n hn => by rw [burn_has]; exact List.all_eq_true.1 Hall.out n hn) (by rw [burn_files.2.1]; exact Hwl.out)).mono ?_
      rintro e w2 ⟨rfl, hd, hk2⟩
      go_wp2_with fail
      go_ret
      exact OpDone.of hs.out hd ⟨Hk.out.trans' hk2, fun b hb => .inl hb⟩
    · have hs := box (show D.sync l = (8, D.burn) by unfold DiskS.sync DiskS.doing; rw [hb, if_neg (by decide), hbn]; rfl)
      have Hbn := box hbn
      clear hb hbn hall
      go_enter Try.func15, Try.ntmps15
      go_wp2_with fail
      refine Hb.out.mono ?_
      rintro e w' ⟨rfl, rfl⟩
      go_wp2_with fail
      refine (done_any _ H.out hleft).mono ?_
      rw [Hbn.out]
      rintro e w' ⟨rfl, hN⟩
      go_wp2_with fail
      go_ret
      exact OpDone.of hs.out ⟨mb, wv, hN.disk, foot_burn.symm⟩ (hN.step (.inl rfl))

end
end Go.Proofs.Ytbmhjojlbmbpkaa.dk
