/- Layer 4: Cut. -/
import Derived.Test.YtbmhjojlbmbpkaaDiskA
namespace Go.Proofs.Ytbmhjojlbmbpkaa.dk
open Go.ChangeShapes Go.WideShapes Go.ChangeAt Go.RowKit

section
variable {w w' w1 : World} {p mb : Nat} {wv wv' : Value} {D : DiskS} {F : Nat → Prop}

theorem apart_new (h : DiskIn w p mb wv D) {n cap : Nat} : Apart (.slice (some ⟨w.heap.size, 0, none⟩) n cap) (foot p mb wv D) := by
  intro a m c e _ hf
  cases e
  have := h.foot_lt _ hf
  simp at this
theorem turn_foot {n : ByteArray} {g : FileS → FileS} (hg : ∀ x, (g x).name = x.name ∧ (g x).blk = x.blk) : foot p mb wv (D.turn n g) = foot p mb wv D := by unfold foot; rw [(turn_same hg).2]
theorem turn_has {n : ByteArray} {g : FileS → FileS} (hg : ∀ x, (g x).name = x.name ∧ (g x).blk = x.blk) (m : ByteArray) : (D.turn n g).has m = D.has m := by
  unfold DiskS.has DiskS.find DiskS.turn
  have : ∀ l : List FileS, ((l.map fun x => if x.name = n then g x else x).find? fun f => decide (f.name = m)).isSome = (l.find? fun f => decide (f.name = m)).isSome := by
    intro l
    induction l with
    | nil => rfl
    | cons x l ih =>
      have e : (if x.name = n then g x else x).name = x.name := by split <;> simp [hg]
      simp only [List.map_cons, List.find?_cons, e]; split <;> simp_all
  exact this _

def cutF (j : Nat) (f : FileS) : FileS := { f with now := f.now.extract 0 j }

set_option maxRecDepth 100000 in
set_option maxHeartbeats 4000000 in
theorem Cut_any (n : ByteArray) (k : Int) (w : World) (h : DiskAt w p D F) (hleft : D.left ≤ 9223372036854775807) (hwl : D.waits.length ≤ 1000000) :
    Calls Try.prog 40 #[ptrTo p, .string n, .int .i64 k] w (OpDone (D.cut n k) p F w) := by
  obtain ⟨mb, wv, h, rfl⟩ := h
  have hcalm : Calm w (w.alloc (.cells #[.string n] 9)) := (Calm.refl w).alloc _
  have h1 := h.calm hcalm
  obtain ⟨c0, c1, c2, c3, c4⟩ := h1.cells
  have hlook := h1.look n
  have Hb := box (bars_any (p := p) (mb := mb) (wv := wv) (D := D) (.slice (some ⟨w.heap.size, 0, none⟩) 1 1) [n] (w.alloc (.cells #[.string n] 9)) h1 (StrsAt.one (by go_cell)) (by simp))
  have hb1 := box (bars_one (D := D) n)
  have H1 := box h1
  have Hwl := box hwl
  have Hcalm := box hcalm
  clear hwl hcalm h
  cases hd : D.down
  · cases hf : D.find n with
    | none =>
      have hh : D.has n = false := by unfold DiskS.has; rw [hf]; rfl
      have hres := box (show D.cut n k = (9, D) by unfold DiskS.cut; rw [hd, hf]; rfl)
      have hb2 := box (show D.bars [n] = 9 by rw [hb1.out, hd, hh]; rfl)
      clear hb1 h1 hf hh hd
      go_enter Try.func40, Try.ntmps40
      go_wp2_with fail
      refine Hb.out.mono ?_
      rw [hb2.out]
      rintro e w' ⟨rfl, rfl⟩
      go_wp2_with fail
      go_ret
      exact OpDone.of hres.out ⟨mb, wv, H1.out, rfl⟩ (Step.of_calm Hcalm.out)
    | some f =>
      have hh : D.has n = true := by unfold DiskS.has; rw [hf]; rfl
      have hp := ptr_some hf
      obtain ⟨d0, d1, d2, d3⟩ := h1.file hf
      have hb2 := box (show D.bars [n] = 0 by rw [hb1.out, hd, hh]; rfl)
      rw [hp] at hlook
      by_cases hr : k < 0 ∨ (f.now.size : Int) < k
      · have hres := box (show D.cut n k = (2, D) by unfold DiskS.cut; rw [hd, hf]; simp only [if_pos hr]; rfl)
        clear hb1 h1 hf hh hd hp
        rcases hr with hr | hr
        · go_enter Try.func40, Try.ntmps40
          go_wp2_with fail
          refine Hb.out.mono ?_
          rw [hb2.out]
          rintro e w' ⟨rfl, rfl⟩
          go_wp2_with fail
          go_ret
          exact OpDone.of hres.out ⟨mb, wv, H1.out, rfl⟩ (Step.of_calm Hcalm.out)
        · have hr0 : ¬ k < 0 := by omega
          go_enter Try.func40, Try.ntmps40
          go_wp2_with fail
          refine Hb.out.mono ?_
          rw [hb2.out]
          rintro e w' ⟨rfl, rfl⟩
          go_wp2_with fail
          go_ret
          exact OpDone.of hres.out ⟨mb, wv, H1.out, rfl⟩ (Step.of_calm Hcalm.out)
      · obtain ⟨j, rfl⟩ : ∃ j : Nat, k = j := ⟨k.toNat, by omega⟩
        have hj : j ≤ f.now.size := by omega
        have hj1 : ¬ ((f.now.size : Int) < j) := by omega
        cases hbn : D.burns
        · have hres := box (show D.cut n j = (0, (D.burn.turn n (cutF j)).last n) by unfold DiskS.cut DiskS.doing; rw [hd, hf]; simp only [if_neg hr, hbn]; rfl)
          have Hf := box hf
          have Hbn := box hbn
          clear hb1 h1 hf hh hd hp hbn hr
          go_enter Try.func40, Try.ntmps40
          go_wp2_with fail
          refine Hb.out.mono ?_
          rw [hb2.out]
          rintro e w' ⟨rfl, rfl⟩
          go_wp2_with fail
          refine (done_any _ H1.out hleft).mono ?_
          rw [Hbn.out]
          rintro e w2 ⟨rfl, hN⟩
          have hf2 : D.burn.find n = some f := by rw [burn_find]; exact Hf.out
          obtain ⟨g0, g1, g2, g3⟩ := hN.disk.file hf2
          have hfl : f.blk < w2.heap.size := heap_lt (hN.disk.files f (find_some hf2).1)
          have hfile := box (hN.disk.fileTo hf2 ((Keeps.refl (· = f.blk) w2).setCell (p := ⟨f.blk, 1, none⟩) (.inl rfl) (.string (f.now.extract 0 j))) (g := cutF j) (fun _ => ⟨rfl, rfl⟩) (heap_set (hN.disk.files f (find_some hf2).1) 1 _))
          have hk2 := box (((Keeps.of_calm (F := foot p mb wv D) Hcalm.out).trans' (hN.keeps.mono fun b _ e => .inl e)).setCell (p := ⟨f.blk, 1, none⟩) (.inl (.inr (.inr (.inr (List.mem_map.2 ⟨f, (find_some Hf.out).1, rfl⟩))))) (.string (f.now.extract 0 j)))
          have Hf2 := box hf2
          have hW := box (show D.burn.waits = D.waits from burn_files.2.1)
          clear hN hf2
          go_wp2_with fail
          have hs3 : (w2.setCell ⟨f.blk, 1, none⟩ (.string (f.now.extract 0 j))).heap.size = w2.heap.size := by simp [World.setCell]
          rw [← hs3]
          generalize w2.setCell ⟨f.blk, 1, none⟩ (.string (f.now.extract 0 j)) = w3 at *
          refine (lasts_any (F := foot p mb wv D) (.slice (some ⟨w3.heap.size, 0, none⟩) 1 1) [n] _ ⟨mb, wv, hfile.out.calm ((Calm.refl w3).alloc _), by rw [turn_foot (g := cutF j) (fun _ => ⟨rfl, rfl⟩), foot_burn]⟩ (StrsAt.one (by go_cell)) ?_ (by simp) ?_ ?_).mono ?_
          · have := apart_new hfile.out (n := 1) (cap := 1)
            rw [turn_foot (g := cutF j) (fun _ => ⟨rfl, rfl⟩), foot_burn] at this
            exact this
          · intro m hm
            rw [List.mem_singleton] at hm
            subst hm
            rw [turn_has (g := cutF j) (fun _ => ⟨rfl, rfl⟩)]
            unfold DiskS.has; rw [Hf2.out]; rfl
          · exact hW.out ▸ Hwl.out
          rintro e w4 ⟨rfl, hd4, hk4⟩
          go_wp2_with fail
          go_ret
          exact OpDone.of hres.out hd4 ⟨(hk2.out.alloc _).trans' hk4, fun b hb => .inl hb⟩
        · have hres := box (show D.cut n j = (8, D.burn) by unfold DiskS.cut DiskS.doing; rw [hd, hf]; simp only [if_neg hr, hbn]; rfl)
          have Hbn := box hbn
          clear hb1 h1 hf hh hd hp hbn hr
          go_enter Try.func40, Try.ntmps40
          go_wp2_with fail
          refine Hb.out.mono ?_
          rw [hb2.out]
          rintro e w' ⟨rfl, rfl⟩
          go_wp2_with fail
          refine (done_any _ H1.out hleft).mono ?_
          rw [Hbn.out]
          rintro e w2 ⟨rfl, hN⟩
          go_wp2_with fail
          go_ret
          exact OpDone.of hres.out ⟨mb, wv, hN.disk, foot_burn.symm⟩ (Step.calm_left Hcalm.out (hN.step (.inl rfl)))
  · have hres := box (show D.cut n k = (8, D) by unfold DiskS.cut; rw [hd]; rfl)
    have hb2 := box (show D.bars [n] = 8 by rw [hb1.out, hd]; rfl)
    clear hb1 h1 hd
    go_enter Try.func40, Try.ntmps40
    go_wp2_with fail
    refine Hb.out.mono ?_
    rw [hb2.out]
    rintro e w' ⟨rfl, rfl⟩
    go_wp2_with fail
    go_ret
    exact OpDone.of hres.out ⟨mb, wv, H1.out, rfl⟩ (Step.of_calm Hcalm.out)

end
end Go.Proofs.Ytbmhjojlbmbpkaa.dk
