/- Layer 4: Write, whole. -/
import Derived.Test.YtbmhjojlbmbpkaaDiskG
namespace Go.Proofs.Ytbmhjojlbmbpkaa.dk
open Go.ChangeShapes Go.WideShapes Go.ChangeAt Go.RowKit

section
variable {w w' w1 : World} {p mb : Nat} {wv wv' : Value} {D : DiskS} {F : Nat → Prop}

set_option maxRecDepth 100000 in
set_option maxHeartbeats 8000000 in
theorem Write_any (n s : ByteArray) (k : Int) (w : World) (h : DiskAt w p D F) (hleft : D.left ≤ 9223372036854775807) (hwl : D.waits.length ≤ 1000000) (hsz : D.size ≤ 1000000000) (hs : s.size ≤ 1000000000) (hcap : 0 ≤ D.cap ∧ D.cap ≤ 16777216) (hfs : ∀ f ∈ D.files, f.now.size ≤ 1000000000) :
    Calls Try.prog 14 #[ptrTo p, .string n, .int .i64 k, .string s] w (OpDone (D.write n k s) p F w) := by
  have h0 := h
  obtain ⟨mb, wv, h, rfl⟩ := h
  have hcalm : Calm w (w.alloc (.cells #[.string n] 9)) := (Calm.refl w).alloc _
  have h1 := h.calm hcalm
  obtain ⟨c0, c1, c2, c3, c4⟩ := h1.cells
  have hlook := h1.look n
  have Hb := box (bars_any (p := p) (mb := mb) (wv := wv) (D := D) (.slice (some ⟨w.heap.size, 0, none⟩) 1 1) [n] (w.alloc (.cells #[.string n] 9)) h1 (StrsAt.one (by go_cell)) (by simp))
  have hb1 := box (bars_one (D := D) n)
  have H1 := box h1
  have Hcalm := box hcalm
  cases hd : D.down
  · cases hf : D.find n with
    | none =>
      have hh : D.has n = false := by unfold DiskS.has; rw [hf]; rfl
      have hres := box (show D.write n k s = (9, D) by unfold DiskS.write; rw [hd, hf]; rfl)
      have hb2 := box (show D.bars [n] = 9 by rw [hb1.out, hd, hh]; rfl)
      clear hb1 h1 hf hh hd hsz hs hwl hcap hfs h h0 hcalm
      go_enter Try.func14, Try.ntmps14
      go_wp2_with fail
      refine Hb.out.mono ?_
      rw [hb2.out]
      rintro e w' ⟨rfl, rfl⟩
      go_wp2_with fail
      go_ret
      exact OpDone.of hres.out ⟨mb, wv, H1.out, rfl⟩ (Step.of_calm Hcalm.out)
    | some f =>
      by_cases hr : k < 0 ∨ (f.now.size : Int) < k
      · have hh : D.has n = true := by unfold DiskS.has; rw [hf]; rfl
        have hp := ptr_some hf
        obtain ⟨d0, d1, d2, d3⟩ := h1.file hf
        have hb2 := box (show D.bars [n] = 0 by rw [hb1.out, hd, hh]; rfl)
        rw [hp] at hlook
        have hres := box (show D.write n k s = (2, D) by unfold DiskS.write; rw [hd, hf]; simp only [if_pos hr]; rfl)
        clear hb1 h1 hf hh hd hp hsz hs hwl hcap hfs h h0 hcalm
        rcases hr with hr | hr
        · go_enter Try.func14, Try.ntmps14
          go_wp2_with fail
          refine Hb.out.mono ?_
          rw [hb2.out]
          rintro e w' ⟨rfl, rfl⟩
          go_wp2_with fail
          go_ret
          exact OpDone.of hres.out ⟨mb, wv, H1.out, rfl⟩ (Step.of_calm Hcalm.out)
        · have hr0 : ¬ k < 0 := by omega
          go_enter Try.func14, Try.ntmps14
          go_wp2_with fail
          refine Hb.out.mono ?_
          rw [hb2.out]
          rintro e w' ⟨rfl, rfl⟩
          go_wp2_with fail
          go_ret
          exact OpDone.of hres.out ⟨mb, wv, H1.out, rfl⟩ (Step.of_calm Hcalm.out)
      · obtain ⟨j, rfl⟩ : ∃ j : Nat, k = j := ⟨k.toNat, by omega⟩
        have hj : j ≤ f.now.size := by omega
        have hnow : f.now.size ≤ 1000000000 := hfs f (find_some hf).1
        by_cases t1 : D.cap - D.size < j + s.size - f.now.size
        · by_cases t2 : (f.now.size : Int) < j + s.size
          · rw [write_full hd hf hj t1 t2]
            exact Write_full n s j f w h0 hleft hwl hsz hs hcap hd hf hnow hj (decide_eq_true t1) (decide_eq_true t2)
          · rw [write_goes (s := s) hd hf hj (.inr t2)]
            cases hbn : D.burns
            · by_cases hs0 : s.size = 0
              · simp only [Bool.false_eq_true, if_false, hs0, if_true]
                exact Write_emptyTF n s j f w h0 hleft hwl hsz hs hcap hd hf hnow hj (decide_eq_true t1) (decide_eq_false t2) hbn hs0
              · simp only [Bool.false_eq_true, if_false, hs0]
                exact Write_putTF n s j f w h0 hleft hwl hsz hs hcap hd hf hnow hj (decide_eq_true t1) (decide_eq_false t2) hbn hs0
            · simp only [if_true]
              exact Write_burnTF n s j f w h0 hleft hwl hsz hs hcap hd hf hnow hj (decide_eq_true t1) (decide_eq_false t2) hbn
        · rw [write_goes (s := s) hd hf hj (.inl t1)]
          cases hbn : D.burns
          · by_cases hs0 : s.size = 0
            · simp only [Bool.false_eq_true, if_false, hs0, if_true]
              exact Write_emptyF n s j f w h0 hleft hwl hsz hs hcap hd hf hnow hj (decide_eq_false t1) hbn hs0
            · simp only [Bool.false_eq_true, if_false, hs0]
              exact Write_putF n s j f w h0 hleft hwl hsz hs hcap hd hf hnow hj (decide_eq_false t1) hbn hs0
          · simp only [if_true]
            exact Write_burnF n s j f w h0 hleft hwl hsz hs hcap hd hf hnow hj (decide_eq_false t1) hbn
  · have hres := box (show D.write n k s = (8, D) by unfold DiskS.write; rw [hd]; rfl)
    have hb2 := box (show D.bars [n] = 8 by rw [hb1.out, hd]; rfl)
    clear hb1 h1 hd hsz hs hwl hcap hfs h h0 hcalm
    go_enter Try.func14, Try.ntmps14
    go_wp2_with fail
    refine Hb.out.mono ?_
    rw [hb2.out]
    rintro e w' ⟨rfl, rfl⟩
    go_wp2_with fail
    go_ret
    exact OpDone.of hres.out ⟨mb, wv, H1.out, rfl⟩ (Step.of_calm Hcalm.out)

end
end Go.Proofs.Ytbmhjojlbmbpkaa.dk
