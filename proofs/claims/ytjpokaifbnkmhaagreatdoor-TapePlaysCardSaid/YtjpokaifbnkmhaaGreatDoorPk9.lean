/- Lemmas for this claim. -/
import Derived.Test.YtjpokaifbnkmhaaGreatDoorPk8
set_option maxRecDepth 100000
namespace Go.Proofs.YtjpokaifbnkmhaaGreatDoor.dk
open Go.ChangeShapes Go.WideShapes Go.ChangeAt Go.RowKit
section
variable {w w' w1 : World} {p mb : Nat} {wv wv' : Value} {D : DiskS} {F : Nat → Prop}
theorem DiskIn.written (h : DiskIn w p mb wv D) {n s : ByteArray} {f : FileS} (hf : D.find n = some f) (j : Nat) :
  DiskIn (w.setCell ⟨f.blk, 1, none⟩ (.string (laid f.now j s))) p mb wv (D.turn n (putF j s)) :=
 h.fileTo hf ((Keeps.refl (· = f.blk) w).setCell (p := ⟨f.blk, 1, none⟩) (.inl rfl) _) (fun _ => ⟨rfl, rfl⟩) (heap_set (h.files f (find_some hf).1) 1 _)
set_option maxHeartbeats 8000000 in
theorem Write_full (n s : ByteArray) (j : Nat) (f : FileS) (w : World) (h : DiskAt w p D F) (hleft : D.left ≤ 9223372036854775807) (hwl : D.waits.length ≤ 1000000) (hsz : D.size ≤ 1000000000) (hs : s.size ≤ 1000000000) (hcap : 0 ≤ D.cap ∧ D.cap ≤ 16777216)
  (hd : D.down = false) (hf : D.find n = some f) (hnow : f.now.size ≤ 1000000000) (hj : j ≤ f.now.size) (t1 : decide (D.cap - D.size < j + s.size - f.now.size) = true) (t2 : decide ((f.now.size : Int) < j + s.size) = true)  :
  Calls Tryz.prog 111 #[ptrTo p, .string n, .int .i64 j, .string s] w (OpDone (7, D) p F w) := by
 obtain ⟨mb, wv, h, rfl⟩ := h
 have hcalm : Calm w (w.alloc (.cells #[.string n] 9)) := (Calm.refl w).alloc _
 have h1 := h.calm hcalm
 obtain ⟨c0, c1, c2, c3, c4⟩ := h1.cells
 have hlook := h1.look n
 have Hb := box (bars_any (p := p) (mb := mb) (wv := wv) (D := D) (.slice (some ⟨w.heap.size, 0, none⟩) 1 1) [n] (w.alloc (.cells #[.string n] 9)) h1 (StrsAt.one (by go_cell)) (by simp))
 have H1 := box h1
 have Hwl := box hwl
 have Hsz := box hsz
 have Hcap := box hcap
 have Hcalm := box hcalm
 have hh : D.has n = true := by unfold DiskS.has; rw [hf]; rfl
 have hp := ptr_some hf
 obtain ⟨d0, d1, d2, d3⟩ := h1.file hf
 have hfl : f.blk < (w.alloc (.cells #[.string n] 9)).heap.size := heap_lt (h1.files f (find_some hf).1)
 have hb2 := box (show D.bars [n] = 0 by rw [bars_one, hd, hh]; rfl)
 rw [hp] at hlook
 have hj0 : decide ((j : Int) < 0) = false := decide_eq_false (by omega)
 have hj1 : decide ((f.now.size : Int) < j) = false := decide_eq_false (by omega)
 have q1 : IntKind.i64.wrap ((j : Int) + s.size) = j + s.size := IntWalk.i64_in _ (by omega)
 have q2 : IntKind.i64.wrap ((j : Int) + s.size - f.now.size) = j + s.size - f.now.size := IntWalk.i64_in _ (by omega)
 have Hroom := box (fun W (hc : Calm (w.alloc (.cells #[.string n] 9)) W) => Room_any (F := foot p mb wv D) W ⟨mb, wv, H1.out.calm hc, rfl⟩ (by have := Hsz.out; omega) Hcap.out)
 have Hf2 := box (show D.burn.find n = some f by rw [burn_find]; exact hf)
 have Hl := box (fun W => laid_any f.now s j W hnow hs (by omega))
 clear h1 hf hh hd hp hsz hs hnow hwl hcalm h hcap
 go_enter Tryz.func111, Tryz.ntmps111
 go_wp2_with fail
 refine Hb.out.mono ?_
 rw [hb2.out]
 rintro e w' ⟨rfl, rfl⟩
 go_wp2_with fail
 refine wp_region_held_drew (S := fun w' => w'.cell? ⟨f.blk, 1, none⟩ = some (.string f.now)) (by kernel_rfl) (by go_keep) (fun hHeld => ?_)
 ((refine' wpAnyH_take (i := 0) (v := _) rfl (by kernel_rfl) (by kernel_rfl) (by kernel_rfl) (fun _ _ _ h => h) (Or.inl ⟨by rfl, ?y1⟩) ‹_› ?r1; (case y1 => (intro w hSw; (try dsimp only at hSw); go_simp <;> with_reducible rfl))); (refine' wpAnyH_take (i := 1) (v := _) rfl (by kernel_rfl) (by kernel_rfl) (by kernel_rfl) (fun _ _ _ h => h) (Or.inl ⟨by rfl, ?y2⟩) ‹_› ?r2; (case y2 => (intro w hSw; (try dsimp only at hSw); go_simp <;> with_reducible rfl))); (refine' wpAnyH_take (i := 2) (v := _) rfl (by kernel_rfl) (by kernel_rfl) (by kernel_rfl) (fun _ _ _ h => h) (Or.inl ⟨by rfl, ?y3⟩) ‹_› ?r3; (case y3 => (intro w hSw; (try dsimp only at hSw); go_simp <;> with_reducible rfl))); (refine' wpAnyH_take (i := 3) (v := _) rfl (by kernel_rfl) (by kernel_rfl) (by kernel_rfl) (fun _ _ _ h => h) (Or.inl ⟨by rfl, ?y4⟩) ‹_› ?r4; (case y4 => (intro w hSw; (try dsimp only at hSw); go_simp <;> with_reducible rfl))); (refine' wpAnyH_take (i := 4) (v := _) rfl (by kernel_rfl) (by kernel_rfl) (by kernel_rfl) (fun _ _ _ h => h) (Or.inl ⟨by rfl, ?y5⟩) ‹_› ?r5; (case y5 => (intro w hSw; (try dsimp only at hSw); go_simp <;> with_reducible rfl)); simp only [List.getElem_toArray, List.getElem_cons_succ, List.getElem_cons_zero, Act.put, List.setIfInBounds_toArray, List.set_cons_zero, List.set_cons_succ]); (refine' wpAnyH_take (i := 5) (v := _) rfl (by kernel_rfl) (by kernel_rfl) (by kernel_rfl) (fun _ _ _ h => h) (Or.inl ⟨by rfl, ?y6⟩) ‹_› ?r6; (case y6 => (intro w hSw; (try dsimp only at hSw); go_simp <;> with_reducible rfl))); (refine' wpAnyH_take (i := 6) (v := _) rfl (by kernel_rfl) (by kernel_rfl) (by kernel_rfl) (fun _ _ _ h => h) (Or.inl ⟨by rfl, ?y7⟩) ‹_› ?r7; (case y7 => (intro w hSw; (try dsimp only at hSw); go_simp <;> with_reducible rfl))); (refine' wpAnyH_take (i := 7) (v := _) rfl (by kernel_rfl) (by kernel_rfl) (by kernel_rfl) (fun _ _ _ h => h) (Or.inl ⟨by rfl, ?y8⟩) ‹_› ?r8; (case y8 => (intro w hSw; (try dsimp only at hSw); go_simp <;> with_reducible rfl))); (refine' wpAnyH_take (i := 8) (v := _) rfl (by kernel_rfl) (by kernel_rfl) (by kernel_rfl) (fun _ _ _ h => h) (Or.inl ⟨by rfl, ?y9⟩) ‹_› ?r9; (case y9 => (intro w hSw; (try dsimp only at hSw); go_simp <;> with_reducible rfl))); (refine' wpAnyH_take (i := 9) (v := _) rfl (by kernel_rfl) (by kernel_rfl) (by kernel_rfl) (fun _ _ _ h => h) (Or.inl ⟨by rfl, ?y10⟩) ‹_› ?r10; (case y10 => (intro w hSw; (try dsimp only at hSw); go_simp <;> with_reducible rfl)); simp only [List.getElem_toArray, List.getElem_cons_succ, List.getElem_cons_zero, Act.put, List.setIfInBounds_toArray, List.set_cons_zero, List.set_cons_succ]); (refine' wpAnyH_take (i := 10) (v := _) rfl (by kernel_rfl) (by kernel_rfl) (by kernel_rfl) (fun _ _ _ h => h) (Or.inl ⟨by rfl, ?y11⟩) ‹_› ?r11; (case y11 => (intro w hSw; (try dsimp only at hSw); go_simp <;> with_reducible rfl)); simp only [List.getElem_toArray, List.getElem_cons_succ, List.getElem_cons_zero, Act.put, List.setIfInBounds_toArray, List.set_cons_zero, List.set_cons_succ]))
 refine wpAnyH_ready (rs := [11]) (by kernel_rfl) (by simp) ?_
 refine AllReadyH.cons rfl (fun K hK => ?_) AllReadyH.nil
 rw [if_pos (by rfl)]
 go_simp
 refine (Hroom.out _ (by (repeat' (first | (with_reducible exact Calm.refl _) | (with_reducible assumption) | (with_reducible refine Calm.drew ?_) | (with_reducible refine Calm.alloc ?_ _) | (with_reducible refine Calm.trans ?_ (by assumption)))))).mono ?_
 rintro e w' ⟨rfl, hb⟩
 go_wp2_with fail
 refine hK.out _ _ ?_ (fun hHeld2 => ?_)
 ·show w'.cell? ⟨f.blk, 1, none⟩ = some (.string f.now)
  rw [hb.cell (p := ⟨f.blk, 1, none⟩) hfl]; assumption
 clear hK K
 try simp only [List.getElem_toArray, List.getElem_cons_succ, List.getElem_cons_zero, Act.put, List.setIfInBounds_toArray, List.set_cons_zero, List.set_cons_succ]
 ((refine' wpAnyH_take (i := 12) (v := _) rfl (by kernel_rfl) (by kernel_rfl) (by kernel_rfl) (fun _ _ _ h => h) (Or.inl ⟨by rfl, ?y12⟩) ‹_› ?r12; (case y12 => (intro w hSw; (try dsimp only at hSw); go_simp <;> with_reducible rfl))); (refine' wpAnyH_take (i := 13) (v := _) rfl (by kernel_rfl) (by kernel_rfl) (by kernel_rfl) (fun _ _ _ h => h) (Or.inl ⟨by rfl, ?y13⟩) ‹_› ?r13; (case y13 => (intro w hSw; (try dsimp only at hSw); go_simp <;> with_reducible rfl))); (refine' wpAnyH_take (i := 14) (v := _) rfl (by kernel_rfl) (by kernel_rfl) (by kernel_rfl) (fun _ _ _ h => h) (Or.inl ⟨by rfl, ?y14⟩) ‹_› ?r14; (case y14 => (intro w hSw; (try dsimp only at hSw); go_simp <;> with_reducible rfl))); (refine' wpAnyH_take (i := 15) (v := _) rfl (by kernel_rfl) (by kernel_rfl) (by kernel_rfl) (fun _ _ _ h => h) (Or.inl ⟨by rfl, ?y15⟩) ‹_› ?r15; (case y15 => (intro w hSw; (try dsimp only at hSw); go_simp <;> with_reducible rfl))); (refine' wpAnyH_take (i := 16) (v := _) rfl (by kernel_rfl) (by kernel_rfl) (by kernel_rfl) (fun _ _ _ h => h) (Or.inl ⟨by rfl, ?y16⟩) ‹_› ?r16; (case y16 => (intro w hSw; (try dsimp only at hSw); go_simp <;> with_reducible rfl)); simp only [List.getElem_toArray, List.getElem_cons_succ, List.getElem_cons_zero, Act.put, List.setIfInBounds_toArray, List.set_cons_zero, List.set_cons_succ]); (refine' wpAnyH_take (i := 17) (v := _) rfl (by kernel_rfl) (by kernel_rfl) (by kernel_rfl) (fun _ _ _ h => h) (Or.inl ⟨by rfl, ?y17⟩) ‹_› ?r17; (case y17 => (intro w hSw; (try dsimp only at hSw); go_simp <;> with_reducible rfl))); (refine' wpAnyH_take (i := 18) (v := _) rfl (by kernel_rfl) (by kernel_rfl) (by kernel_rfl) (fun _ _ _ h => h) (Or.inl ⟨by rfl, ?y18⟩) ‹_› ?r18; (case y18 => (intro w hSw; (try dsimp only at hSw); go_simp <;> with_reducible rfl))); (refine' wpAnyH_take (i := 19) (v := _) rfl (by kernel_rfl) (by kernel_rfl) (by kernel_rfl) (fun _ _ _ h => h) (Or.inl ⟨by rfl, ?y19⟩) ‹_› ?r19; (case y19 => (intro w hSw; (try dsimp only at hSw); go_simp <;> with_reducible rfl))); (refine' wpAnyH_take (i := 20) (v := _) rfl (by kernel_rfl) (by kernel_rfl) (by kernel_rfl) (fun _ _ _ h => h) (Or.inl ⟨by rfl, ?y20⟩) ‹_› ?r20; (case y20 => (intro w hSw; (try dsimp only at hSw); go_simp <;> with_reducible rfl))); (refine' wpAnyH_take (i := 21) (v := _) rfl (by kernel_rfl) (by kernel_rfl) (by kernel_rfl) (fun _ _ _ h => h) (Or.inl ⟨by rfl, ?y21⟩) ‹_› ?r21; (case y21 => (intro w hSw; (try dsimp only at hSw); go_simp <;> with_reducible rfl)); simp only [List.getElem_toArray, List.getElem_cons_succ, List.getElem_cons_zero, Act.put, List.setIfInBounds_toArray, List.set_cons_zero, List.set_cons_succ]); (refine' wpAnyH_take (i := 22) (v := _) rfl (by kernel_rfl) (by kernel_rfl) (by kernel_rfl) (fun _ _ _ h => h) (Or.inl ⟨by rfl, ?y22⟩) ‹_› ?r22; (case y22 => (intro w hSw; (try dsimp only at hSw); go_simp <;> with_reducible rfl))); (refine' wpAnyH_take (i := 23) (v := _) rfl (by kernel_rfl) (by kernel_rfl) (by kernel_rfl) (fun _ _ _ h => h) (Or.inl ⟨by rfl, ?y23⟩) ‹_› ?r23; (case y23 => (intro w hSw; (try dsimp only at hSw); go_simp <;> with_reducible rfl))); (refine' wpAnyH_take (i := 24) (v := _) rfl (by kernel_rfl) (by kernel_rfl) (by kernel_rfl) (fun _ _ _ h => h) (Or.inl ⟨by rfl, ?y24⟩) ‹_› ?r24; (case y24 => (intro w hSw; (try dsimp only at hSw); go_simp <;> with_reducible rfl))); (refine' wpAnyH_take (i := 25) (v := _) rfl (by kernel_rfl) (by kernel_rfl) (by kernel_rfl) (fun _ _ _ h => h) (Or.inl ⟨by rfl, ?y25⟩) ‹_› ?r25; (case y25 => (intro w hSw; (try dsimp only at hSw); go_simp <;> with_reducible rfl)); simp only [List.getElem_toArray, List.getElem_cons_succ, List.getElem_cons_zero, Act.put, List.setIfInBounds_toArray, List.set_cons_zero, List.set_cons_succ]))
 refine wpAnyH_done (by kernel_rfl) ?_ _
 have hcW : Calm (w.alloc (.cells #[.string n] 9)) w' := by (repeat' (first | (with_reducible exact Calm.refl _) | (with_reducible assumption) | (with_reducible refine Calm.drew ?_) | (with_reducible refine Calm.alloc ?_ _) | (with_reducible refine Calm.trans ?_ (by assumption))))
 have HcW := box hcW
 clear hcW
 go_wp2_with fail
 go_ret
 exact OpDone.of rfl ⟨mb, wv, H1.out.calm HcW.out, rfl⟩ (Step.of_calm (Hcalm.out.trans HcW.out))
set_option maxHeartbeats 8000000 in
theorem Write_burnF (n s : ByteArray) (j : Nat) (f : FileS) (w : World) (h : DiskAt w p D F) (hleft : D.left ≤ 9223372036854775807) (hwl : D.waits.length ≤ 1000000) (hsz : D.size ≤ 1000000000) (hs : s.size ≤ 1000000000) (hcap : 0 ≤ D.cap ∧ D.cap ≤ 16777216)
  (hd : D.down = false) (hf : D.find n = some f) (hnow : f.now.size ≤ 1000000000) (hj : j ≤ f.now.size) (t1 : decide (D.cap - D.size < j + s.size - f.now.size) = false) (hbn : D.burns = true) :
  Calls Tryz.prog 111 #[ptrTo p, .string n, .int .i64 j, .string s] w (OpDone (8, D.burn) p F w) := by
 have Hbn := box hbn
 clear hbn
 obtain ⟨mb, wv, h, rfl⟩ := h
 have hcalm : Calm w (w.alloc (.cells #[.string n] 9)) := (Calm.refl w).alloc _
 have h1 := h.calm hcalm
 obtain ⟨c0, c1, c2, c3, c4⟩ := h1.cells
 have hlook := h1.look n
 have Hb := box (bars_any (p := p) (mb := mb) (wv := wv) (D := D) (.slice (some ⟨w.heap.size, 0, none⟩) 1 1) [n] (w.alloc (.cells #[.string n] 9)) h1 (StrsAt.one (by go_cell)) (by simp))
 have H1 := box h1
 have Hwl := box hwl
 have Hsz := box hsz
 have Hcap := box hcap
 have Hcalm := box hcalm
 have hh : D.has n = true := by unfold DiskS.has; rw [hf]; rfl
 have hp := ptr_some hf
 obtain ⟨d0, d1, d2, d3⟩ := h1.file hf
 have hfl : f.blk < (w.alloc (.cells #[.string n] 9)).heap.size := heap_lt (h1.files f (find_some hf).1)
 have hb2 := box (show D.bars [n] = 0 by rw [bars_one, hd, hh]; rfl)
 rw [hp] at hlook
 have hj0 : decide ((j : Int) < 0) = false := decide_eq_false (by omega)
 have hj1 : decide ((f.now.size : Int) < j) = false := decide_eq_false (by omega)
 have q1 : IntKind.i64.wrap ((j : Int) + s.size) = j + s.size := IntWalk.i64_in _ (by omega)
 have q2 : IntKind.i64.wrap ((j : Int) + s.size - f.now.size) = j + s.size - f.now.size := IntWalk.i64_in _ (by omega)
 have Hroom := box (fun W (hc : Calm (w.alloc (.cells #[.string n] 9)) W) => Room_any (F := foot p mb wv D) W ⟨mb, wv, H1.out.calm hc, rfl⟩ (by have := Hsz.out; omega) Hcap.out)
 have Hf2 := box (show D.burn.find n = some f by rw [burn_find]; exact hf)
 have Hl := box (fun W => laid_any f.now s j W hnow hs (by omega))
 clear h1 hf hh hd hp hsz hs hnow hwl hcalm h hcap
 go_enter Tryz.func111, Tryz.ntmps111
 go_wp2_with fail
 refine Hb.out.mono ?_
 rw [hb2.out]
 rintro e w' ⟨rfl, rfl⟩
 go_wp2_with fail
 refine wp_region_held_drew (S := fun w' => w'.cell? ⟨f.blk, 1, none⟩ = some (.string f.now)) (by kernel_rfl) (by go_keep) (fun hHeld => ?_)
 ((refine' wpAnyH_take (i := 0) (v := _) rfl (by kernel_rfl) (by kernel_rfl) (by kernel_rfl) (fun _ _ _ h => h) (Or.inl ⟨by rfl, ?y26⟩) ‹_› ?r26; (case y26 => (intro w hSw; (try dsimp only at hSw); go_simp <;> with_reducible rfl))); (refine' wpAnyH_take (i := 1) (v := _) rfl (by kernel_rfl) (by kernel_rfl) (by kernel_rfl) (fun _ _ _ h => h) (Or.inl ⟨by rfl, ?y27⟩) ‹_› ?r27; (case y27 => (intro w hSw; (try dsimp only at hSw); go_simp <;> with_reducible rfl))); (refine' wpAnyH_take (i := 2) (v := _) rfl (by kernel_rfl) (by kernel_rfl) (by kernel_rfl) (fun _ _ _ h => h) (Or.inl ⟨by rfl, ?y28⟩) ‹_› ?r28; (case y28 => (intro w hSw; (try dsimp only at hSw); go_simp <;> with_reducible rfl))); (refine' wpAnyH_take (i := 3) (v := _) rfl (by kernel_rfl) (by kernel_rfl) (by kernel_rfl) (fun _ _ _ h => h) (Or.inl ⟨by rfl, ?y29⟩) ‹_› ?r29; (case y29 => (intro w hSw; (try dsimp only at hSw); go_simp <;> with_reducible rfl))); (refine' wpAnyH_take (i := 4) (v := _) rfl (by kernel_rfl) (by kernel_rfl) (by kernel_rfl) (fun _ _ _ h => h) (Or.inl ⟨by rfl, ?y30⟩) ‹_› ?r30; (case y30 => (intro w hSw; (try dsimp only at hSw); go_simp <;> with_reducible rfl)); simp only [List.getElem_toArray, List.getElem_cons_succ, List.getElem_cons_zero, Act.put, List.setIfInBounds_toArray, List.set_cons_zero, List.set_cons_succ]); (refine' wpAnyH_take (i := 5) (v := _) rfl (by kernel_rfl) (by kernel_rfl) (by kernel_rfl) (fun _ _ _ h => h) (Or.inl ⟨by rfl, ?y31⟩) ‹_› ?r31; (case y31 => (intro w hSw; (try dsimp only at hSw); go_simp <;> with_reducible rfl))); (refine' wpAnyH_take (i := 6) (v := _) rfl (by kernel_rfl) (by kernel_rfl) (by kernel_rfl) (fun _ _ _ h => h) (Or.inl ⟨by rfl, ?y32⟩) ‹_› ?r32; (case y32 => (intro w hSw; (try dsimp only at hSw); go_simp <;> with_reducible rfl))); (refine' wpAnyH_take (i := 7) (v := _) rfl (by kernel_rfl) (by kernel_rfl) (by kernel_rfl) (fun _ _ _ h => h) (Or.inl ⟨by rfl, ?y33⟩) ‹_› ?r33; (case y33 => (intro w hSw; (try dsimp only at hSw); go_simp <;> with_reducible rfl))); (refine' wpAnyH_take (i := 8) (v := _) rfl (by kernel_rfl) (by kernel_rfl) (by kernel_rfl) (fun _ _ _ h => h) (Or.inl ⟨by rfl, ?y34⟩) ‹_› ?r34; (case y34 => (intro w hSw; (try dsimp only at hSw); go_simp <;> with_reducible rfl))); (refine' wpAnyH_take (i := 9) (v := _) rfl (by kernel_rfl) (by kernel_rfl) (by kernel_rfl) (fun _ _ _ h => h) (Or.inl ⟨by rfl, ?y35⟩) ‹_› ?r35; (case y35 => (intro w hSw; (try dsimp only at hSw); go_simp <;> with_reducible rfl)); simp only [List.getElem_toArray, List.getElem_cons_succ, List.getElem_cons_zero, Act.put, List.setIfInBounds_toArray, List.set_cons_zero, List.set_cons_succ]); (refine' wpAnyH_take (i := 10) (v := _) rfl (by kernel_rfl) (by kernel_rfl) (by kernel_rfl) (fun _ _ _ h => h) (Or.inl ⟨by rfl, ?y36⟩) ‹_› ?r36; (case y36 => (intro w hSw; (try dsimp only at hSw); go_simp <;> with_reducible rfl)); simp only [List.getElem_toArray, List.getElem_cons_succ, List.getElem_cons_zero, Act.put, List.setIfInBounds_toArray, List.set_cons_zero, List.set_cons_succ]))
 refine wpAnyH_ready (rs := [11]) (by kernel_rfl) (by simp) ?_
 refine AllReadyH.cons rfl (fun K hK => ?_) AllReadyH.nil
 rw [if_pos (by rfl)]
 go_simp
 refine (Hroom.out _ (by (repeat' (first | (with_reducible exact Calm.refl _) | (with_reducible assumption) | (with_reducible refine Calm.drew ?_) | (with_reducible refine Calm.alloc ?_ _) | (with_reducible refine Calm.trans ?_ (by assumption)))))).mono ?_
 rintro e w' ⟨rfl, hb⟩
 go_wp2_with fail
 refine hK.out _ _ ?_ (fun hHeld2 => ?_)
 ·show w'.cell? ⟨f.blk, 1, none⟩ = some (.string f.now)
  rw [hb.cell (p := ⟨f.blk, 1, none⟩) hfl]; assumption
 clear hK K
 try simp only [List.getElem_toArray, List.getElem_cons_succ, List.getElem_cons_zero, Act.put, List.setIfInBounds_toArray, List.set_cons_zero, List.set_cons_succ]
 ((refine' wpAnyH_take (i := 12) (v := _) rfl (by kernel_rfl) (by kernel_rfl) (by kernel_rfl) (fun _ _ _ h => h) (Or.inl ⟨by rfl, ?y37⟩) ‹_› ?r37; (case y37 => (intro w hSw; (try dsimp only at hSw); go_simp <;> with_reducible rfl))); (refine' wpAnyH_take (i := 13) (v := _) rfl (by kernel_rfl) (by kernel_rfl) (by kernel_rfl) (fun _ _ _ h => h) (Or.inl ⟨by rfl, ?y38⟩) ‹_› ?r38; (case y38 => (intro w hSw; (try dsimp only at hSw); go_simp <;> with_reducible rfl)); simp only [List.getElem_toArray, List.getElem_cons_succ, List.getElem_cons_zero, Act.put, List.setIfInBounds_toArray, List.set_cons_zero, List.set_cons_succ]))
 ((refine' wpAnyH_take (i := 14) (v := _) rfl (by kernel_rfl) (by kernel_rfl) (by kernel_rfl) (fun _ _ _ h => h) (Or.inr ⟨by rfl, rfl⟩) ‹_› ?r39); (refine' wpAnyH_take (i := 15) (v := _) rfl (by kernel_rfl) (by kernel_rfl) (by kernel_rfl) (fun _ _ _ h => h) (Or.inr ⟨by rfl, rfl⟩) ‹_› ?r40); (refine' wpAnyH_take (i := 16) (v := _) rfl (by kernel_rfl) (by kernel_rfl) (by kernel_rfl) (fun _ _ _ h => h) (Or.inr ⟨by rfl, rfl⟩) ‹_› ?r41); (refine' wpAnyH_take (i := 17) (v := _) rfl (by kernel_rfl) (by kernel_rfl) (by kernel_rfl) (fun _ _ _ h => h) (Or.inr ⟨by rfl, rfl⟩) ‹_› ?r42); (refine' wpAnyH_take (i := 18) (v := _) rfl (by kernel_rfl) (by kernel_rfl) (by kernel_rfl) (fun _ _ _ h => h) (Or.inr ⟨by rfl, rfl⟩) ‹_› ?r43; simp only [List.getElem_toArray, List.getElem_cons_succ, List.getElem_cons_zero, Act.put, List.setIfInBounds_toArray, List.set_cons_zero, List.set_cons_succ]); (refine' wpAnyH_take (i := 19) (v := _) rfl (by kernel_rfl) (by kernel_rfl) (by kernel_rfl) (fun _ _ _ h => h) (Or.inr ⟨by rfl, rfl⟩) ‹_› ?r44); (refine' wpAnyH_take (i := 20) (v := _) rfl (by kernel_rfl) (by kernel_rfl) (by kernel_rfl) (fun _ _ _ h => h) (Or.inr ⟨by rfl, rfl⟩) ‹_› ?r45); (refine' wpAnyH_take (i := 21) (v := _) rfl (by kernel_rfl) (by kernel_rfl) (by kernel_rfl) (fun _ _ _ h => h) (Or.inr ⟨by rfl, rfl⟩) ‹_› ?r46); (refine' wpAnyH_take (i := 22) (v := _) rfl (by kernel_rfl) (by kernel_rfl) (by kernel_rfl) (fun _ _ _ h => h) (Or.inr ⟨by rfl, rfl⟩) ‹_› ?r47); (refine' wpAnyH_take (i := 23) (v := _) rfl (by kernel_rfl) (by kernel_rfl) (by kernel_rfl) (fun _ _ _ h => h) (Or.inr ⟨by rfl, rfl⟩) ‹_› ?r48; simp only [List.getElem_toArray, List.getElem_cons_succ, List.getElem_cons_zero, Act.put, List.setIfInBounds_toArray, List.set_cons_zero, List.set_cons_succ]))
 ((refine' wpAnyH_take (i := 24) (v := _) rfl (by kernel_rfl) (by kernel_rfl) (by kernel_rfl) (fun _ _ _ h => h) (Or.inl ⟨by rfl, ?y49⟩) ‹_› ?r49; (case y49 => (intro w hSw; (try dsimp only at hSw); go_simp <;> with_reducible rfl))); (refine' wpAnyH_take (i := 25) (v := _) rfl (by kernel_rfl) (by kernel_rfl) (by kernel_rfl) (fun _ _ _ h => h) (Or.inl ⟨by rfl, ?y50⟩) ‹_› ?r50; (case y50 => (intro w hSw; (try dsimp only at hSw); go_simp <;> with_reducible rfl)); simp only [List.getElem_toArray, List.getElem_cons_succ, List.getElem_cons_zero, Act.put, List.setIfInBounds_toArray, List.set_cons_zero, List.set_cons_succ]))
 refine wpAnyH_done (by kernel_rfl) ?_ _
 have hcW : Calm (w.alloc (.cells #[.string n] 9)) w' := by (repeat' (first | (with_reducible exact Calm.refl _) | (with_reducible assumption) | (with_reducible refine Calm.drew ?_) | (with_reducible refine Calm.alloc ?_ _) | (with_reducible refine Calm.trans ?_ (by assumption))))
 have HcW := box hcW
 clear hcW
 go_wp2_with fail
 refine (done_any _ (H1.out.calm HcW.out) hleft).mono ?_
 rw [Hbn.out]
 rintro e w2 ⟨rfl, hN⟩
 have HS := box (show Step (foot p mb wv D) w (foot p mb wv D.burn) w2 by rw [foot_burn]; exact (Step.of_calm (Hcalm.out.trans HcW.out)).trans (hN.step (.inl rfl)))
 have HN := box hN
 clear hN
 go_wp2_with fail
 go_ret
 exact OpDone.of rfl ⟨mb, wv, HN.out.disk, rfl⟩ HS.out
set_option maxHeartbeats 8000000 in
theorem Write_burnTF (n s : ByteArray) (j : Nat) (f : FileS) (w : World) (h : DiskAt w p D F) (hleft : D.left ≤ 9223372036854775807) (hwl : D.waits.length ≤ 1000000) (hsz : D.size ≤ 1000000000) (hs : s.size ≤ 1000000000) (hcap : 0 ≤ D.cap ∧ D.cap ≤ 16777216)
  (hd : D.down = false) (hf : D.find n = some f) (hnow : f.now.size ≤ 1000000000) (hj : j ≤ f.now.size) (t1 : decide (D.cap - D.size < j + s.size - f.now.size) = true) (t2 : decide ((f.now.size : Int) < j + s.size) = false) (hbn : D.burns = true) :
  Calls Tryz.prog 111 #[ptrTo p, .string n, .int .i64 j, .string s] w (OpDone (8, D.burn) p F w) := by
 have Hbn := box hbn
 clear hbn
 obtain ⟨mb, wv, h, rfl⟩ := h
 have hcalm : Calm w (w.alloc (.cells #[.string n] 9)) := (Calm.refl w).alloc _
 have h1 := h.calm hcalm
 obtain ⟨c0, c1, c2, c3, c4⟩ := h1.cells
 have hlook := h1.look n
 have Hb := box (bars_any (p := p) (mb := mb) (wv := wv) (D := D) (.slice (some ⟨w.heap.size, 0, none⟩) 1 1) [n] (w.alloc (.cells #[.string n] 9)) h1 (StrsAt.one (by go_cell)) (by simp))
 have H1 := box h1
 have Hwl := box hwl
 have Hsz := box hsz
 have Hcap := box hcap
 have Hcalm := box hcalm
 have hh : D.has n = true := by unfold DiskS.has; rw [hf]; rfl
 have hp := ptr_some hf
 obtain ⟨d0, d1, d2, d3⟩ := h1.file hf
 have hfl : f.blk < (w.alloc (.cells #[.string n] 9)).heap.size := heap_lt (h1.files f (find_some hf).1)
 have hb2 := box (show D.bars [n] = 0 by rw [bars_one, hd, hh]; rfl)
 rw [hp] at hlook
 have hj0 : decide ((j : Int) < 0) = false := decide_eq_false (by omega)
 have hj1 : decide ((f.now.size : Int) < j) = false := decide_eq_false (by omega)
 have q1 : IntKind.i64.wrap ((j : Int) + s.size) = j + s.size := IntWalk.i64_in _ (by omega)
 have q2 : IntKind.i64.wrap ((j : Int) + s.size - f.now.size) = j + s.size - f.now.size := IntWalk.i64_in _ (by omega)
 have Hroom := box (fun W (hc : Calm (w.alloc (.cells #[.string n] 9)) W) => Room_any (F := foot p mb wv D) W ⟨mb, wv, H1.out.calm hc, rfl⟩ (by have := Hsz.out; omega) Hcap.out)
 have Hf2 := box (show D.burn.find n = some f by rw [burn_find]; exact hf)
 have Hl := box (fun W => laid_any f.now s j W hnow hs (by omega))
 clear h1 hf hh hd hp hsz hs hnow hwl hcalm h hcap
 go_enter Tryz.func111, Tryz.ntmps111
 go_wp2_with fail
 refine Hb.out.mono ?_
 rw [hb2.out]
 rintro e w' ⟨rfl, rfl⟩
 go_wp2_with fail
 refine wp_region_held_drew (S := fun w' => w'.cell? ⟨f.blk, 1, none⟩ = some (.string f.now)) (by kernel_rfl) (by go_keep) (fun hHeld => ?_)
 ((refine' wpAnyH_take (i := 0) (v := _) rfl (by kernel_rfl) (by kernel_rfl) (by kernel_rfl) (fun _ _ _ h => h) (Or.inl ⟨by rfl, ?y51⟩) ‹_› ?r51; (case y51 => (intro w hSw; (try dsimp only at hSw); go_simp <;> with_reducible rfl))); (refine' wpAnyH_take (i := 1) (v := _) rfl (by kernel_rfl) (by kernel_rfl) (by kernel_rfl) (fun _ _ _ h => h) (Or.inl ⟨by rfl, ?y52⟩) ‹_› ?r52; (case y52 => (intro w hSw; (try dsimp only at hSw); go_simp <;> with_reducible rfl))); (refine' wpAnyH_take (i := 2) (v := _) rfl (by kernel_rfl) (by kernel_rfl) (by kernel_rfl) (fun _ _ _ h => h) (Or.inl ⟨by rfl, ?y53⟩) ‹_› ?r53; (case y53 => (intro w hSw; (try dsimp only at hSw); go_simp <;> with_reducible rfl))); (refine' wpAnyH_take (i := 3) (v := _) rfl (by kernel_rfl) (by kernel_rfl) (by kernel_rfl) (fun _ _ _ h => h) (Or.inl ⟨by rfl, ?y54⟩) ‹_› ?r54; (case y54 => (intro w hSw; (try dsimp only at hSw); go_simp <;> with_reducible rfl))); (refine' wpAnyH_take (i := 4) (v := _) rfl (by kernel_rfl) (by kernel_rfl) (by kernel_rfl) (fun _ _ _ h => h) (Or.inl ⟨by rfl, ?y55⟩) ‹_› ?r55; (case y55 => (intro w hSw; (try dsimp only at hSw); go_simp <;> with_reducible rfl)); simp only [List.getElem_toArray, List.getElem_cons_succ, List.getElem_cons_zero, Act.put, List.setIfInBounds_toArray, List.set_cons_zero, List.set_cons_succ]); (refine' wpAnyH_take (i := 5) (v := _) rfl (by kernel_rfl) (by kernel_rfl) (by kernel_rfl) (fun _ _ _ h => h) (Or.inl ⟨by rfl, ?y56⟩) ‹_› ?r56; (case y56 => (intro w hSw; (try dsimp only at hSw); go_simp <;> with_reducible rfl))); (refine' wpAnyH_take (i := 6) (v := _) rfl (by kernel_rfl) (by kernel_rfl) (by kernel_rfl) (fun _ _ _ h => h) (Or.inl ⟨by rfl, ?y57⟩) ‹_› ?r57; (case y57 => (intro w hSw; (try dsimp only at hSw); go_simp <;> with_reducible rfl))); (refine' wpAnyH_take (i := 7) (v := _) rfl (by kernel_rfl) (by kernel_rfl) (by kernel_rfl) (fun _ _ _ h => h) (Or.inl ⟨by rfl, ?y58⟩) ‹_› ?r58; (case y58 => (intro w hSw; (try dsimp only at hSw); go_simp <;> with_reducible rfl))); (refine' wpAnyH_take (i := 8) (v := _) rfl (by kernel_rfl) (by kernel_rfl) (by kernel_rfl) (fun _ _ _ h => h) (Or.inl ⟨by rfl, ?y59⟩) ‹_› ?r59; (case y59 => (intro w hSw; (try dsimp only at hSw); go_simp <;> with_reducible rfl))); (refine' wpAnyH_take (i := 9) (v := _) rfl (by kernel_rfl) (by kernel_rfl) (by kernel_rfl) (fun _ _ _ h => h) (Or.inl ⟨by rfl, ?y60⟩) ‹_› ?r60; (case y60 => (intro w hSw; (try dsimp only at hSw); go_simp <;> with_reducible rfl)); simp only [List.getElem_toArray, List.getElem_cons_succ, List.getElem_cons_zero, Act.put, List.setIfInBounds_toArray, List.set_cons_zero, List.set_cons_succ]); (refine' wpAnyH_take (i := 10) (v := _) rfl (by kernel_rfl) (by kernel_rfl) (by kernel_rfl) (fun _ _ _ h => h) (Or.inl ⟨by rfl, ?y61⟩) ‹_› ?r61; (case y61 => (intro w hSw; (try dsimp only at hSw); go_simp <;> with_reducible rfl)); simp only [List.getElem_toArray, List.getElem_cons_succ, List.getElem_cons_zero, Act.put, List.setIfInBounds_toArray, List.set_cons_zero, List.set_cons_succ]))
 refine wpAnyH_ready (rs := [11]) (by kernel_rfl) (by simp) ?_
 refine AllReadyH.cons rfl (fun K hK => ?_) AllReadyH.nil
 rw [if_pos (by rfl)]
 go_simp
 refine (Hroom.out _ (by (repeat' (first | (with_reducible exact Calm.refl _) | (with_reducible assumption) | (with_reducible refine Calm.drew ?_) | (with_reducible refine Calm.alloc ?_ _) | (with_reducible refine Calm.trans ?_ (by assumption)))))).mono ?_
 rintro e w' ⟨rfl, hb⟩
 go_wp2_with fail
 refine hK.out _ _ ?_ (fun hHeld2 => ?_)
 ·show w'.cell? ⟨f.blk, 1, none⟩ = some (.string f.now)
  rw [hb.cell (p := ⟨f.blk, 1, none⟩) hfl]; assumption
 clear hK K
 try simp only [List.getElem_toArray, List.getElem_cons_succ, List.getElem_cons_zero, Act.put, List.setIfInBounds_toArray, List.set_cons_zero, List.set_cons_succ]
 ((refine' wpAnyH_take (i := 12) (v := _) rfl (by kernel_rfl) (by kernel_rfl) (by kernel_rfl) (fun _ _ _ h => h) (Or.inl ⟨by rfl, ?y62⟩) ‹_› ?r62; (case y62 => (intro w hSw; (try dsimp only at hSw); go_simp <;> with_reducible rfl))); (refine' wpAnyH_take (i := 13) (v := _) rfl (by kernel_rfl) (by kernel_rfl) (by kernel_rfl) (fun _ _ _ h => h) (Or.inl ⟨by rfl, ?y63⟩) ‹_› ?r63; (case y63 => (intro w hSw; (try dsimp only at hSw); go_simp <;> with_reducible rfl))); (refine' wpAnyH_take (i := 14) (v := _) rfl (by kernel_rfl) (by kernel_rfl) (by kernel_rfl) (fun _ _ _ h => h) (Or.inl ⟨by rfl, ?y64⟩) ‹_› ?r64; (case y64 => (intro w hSw; (try dsimp only at hSw); go_simp <;> with_reducible rfl))); (refine' wpAnyH_take (i := 15) (v := _) rfl (by kernel_rfl) (by kernel_rfl) (by kernel_rfl) (fun _ _ _ h => h) (Or.inl ⟨by rfl, ?y65⟩) ‹_› ?r65; (case y65 => (intro w hSw; (try dsimp only at hSw); go_simp <;> with_reducible rfl))); (refine' wpAnyH_take (i := 16) (v := _) rfl (by kernel_rfl) (by kernel_rfl) (by kernel_rfl) (fun _ _ _ h => h) (Or.inl ⟨by rfl, ?y66⟩) ‹_› ?r66; (case y66 => (intro w hSw; (try dsimp only at hSw); go_simp <;> with_reducible rfl)); simp only [List.getElem_toArray, List.getElem_cons_succ, List.getElem_cons_zero, Act.put, List.setIfInBounds_toArray, List.set_cons_zero, List.set_cons_succ]); (refine' wpAnyH_take (i := 17) (v := _) rfl (by kernel_rfl) (by kernel_rfl) (by kernel_rfl) (fun _ _ _ h => h) (Or.inl ⟨by rfl, ?y67⟩) ‹_› ?r67; (case y67 => (intro w hSw; (try dsimp only at hSw); go_simp <;> with_reducible rfl))); (refine' wpAnyH_take (i := 18) (v := _) rfl (by kernel_rfl) (by kernel_rfl) (by kernel_rfl) (fun _ _ _ h => h) (Or.inl ⟨by rfl, ?y68⟩) ‹_› ?r68; (case y68 => (intro w hSw; (try dsimp only at hSw); go_simp <;> with_reducible rfl))); (refine' wpAnyH_take (i := 19) (v := _) rfl (by kernel_rfl) (by kernel_rfl) (by kernel_rfl) (fun _ _ _ h => h) (Or.inl ⟨by rfl, ?y69⟩) ‹_› ?r69; (case y69 => (intro w hSw; (try dsimp only at hSw); go_simp <;> with_reducible rfl))); (refine' wpAnyH_take (i := 20) (v := _) rfl (by kernel_rfl) (by kernel_rfl) (by kernel_rfl) (fun _ _ _ h => h) (Or.inl ⟨by rfl, ?y70⟩) ‹_› ?r70; (case y70 => (intro w hSw; (try dsimp only at hSw); go_simp <;> with_reducible rfl))); (refine' wpAnyH_take (i := 21) (v := _) rfl (by kernel_rfl) (by kernel_rfl) (by kernel_rfl) (fun _ _ _ h => h) (Or.inl ⟨by rfl, ?y71⟩) ‹_› ?r71; (case y71 => (intro w hSw; (try dsimp only at hSw); go_simp <;> with_reducible rfl)); simp only [List.getElem_toArray, List.getElem_cons_succ, List.getElem_cons_zero, Act.put, List.setIfInBounds_toArray, List.set_cons_zero, List.set_cons_succ]); (refine' wpAnyH_take (i := 22) (v := _) rfl (by kernel_rfl) (by kernel_rfl) (by kernel_rfl) (fun _ _ _ h => h) (Or.inl ⟨by rfl, ?y72⟩) ‹_› ?r72; (case y72 => (intro w hSw; (try dsimp only at hSw); go_simp <;> with_reducible rfl))); (refine' wpAnyH_take (i := 23) (v := _) rfl (by kernel_rfl) (by kernel_rfl) (by kernel_rfl) (fun _ _ _ h => h) (Or.inl ⟨by rfl, ?y73⟩) ‹_› ?r73; (case y73 => (intro w hSw; (try dsimp only at hSw); go_simp <;> with_reducible rfl))); (refine' wpAnyH_take (i := 24) (v := _) rfl (by kernel_rfl) (by kernel_rfl) (by kernel_rfl) (fun _ _ _ h => h) (Or.inl ⟨by rfl, ?y74⟩) ‹_› ?r74; (case y74 => (intro w hSw; (try dsimp only at hSw); go_simp <;> with_reducible rfl))); (refine' wpAnyH_take (i := 25) (v := _) rfl (by kernel_rfl) (by kernel_rfl) (by kernel_rfl) (fun _ _ _ h => h) (Or.inl ⟨by rfl, ?y75⟩) ‹_› ?r75; (case y75 => (intro w hSw; (try dsimp only at hSw); go_simp <;> with_reducible rfl)); simp only [List.getElem_toArray, List.getElem_cons_succ, List.getElem_cons_zero, Act.put, List.setIfInBounds_toArray, List.set_cons_zero, List.set_cons_succ]))
 refine wpAnyH_done (by kernel_rfl) ?_ _
 have hcW : Calm (w.alloc (.cells #[.string n] 9)) w' := by (repeat' (first | (with_reducible exact Calm.refl _) | (with_reducible assumption) | (with_reducible refine Calm.drew ?_) | (with_reducible refine Calm.alloc ?_ _) | (with_reducible refine Calm.trans ?_ (by assumption))))
 have HcW := box hcW
 clear hcW
 go_wp2_with fail
 refine (done_any _ (H1.out.calm HcW.out) hleft).mono ?_
 rw [Hbn.out]
 rintro e w2 ⟨rfl, hN⟩
 have HS := box (show Step (foot p mb wv D) w (foot p mb wv D.burn) w2 by rw [foot_burn]; exact (Step.of_calm (Hcalm.out.trans HcW.out)).trans (hN.step (.inl rfl)))
 have HN := box hN
 clear hN
 go_wp2_with fail
 go_ret
 exact OpDone.of rfl ⟨mb, wv, HN.out.disk, rfl⟩ HS.out
set_option maxHeartbeats 8000000 in
theorem Write_emptyF (n s : ByteArray) (j : Nat) (f : FileS) (w : World) (h : DiskAt w p D F) (hleft : D.left ≤ 9223372036854775807) (hwl : D.waits.length ≤ 1000000) (hsz : D.size ≤ 1000000000) (hs : s.size ≤ 1000000000) (hcap : 0 ≤ D.cap ∧ D.cap ≤ 16777216)
  (hd : D.down = false) (hf : D.find n = some f) (hnow : f.now.size ≤ 1000000000) (hj : j ≤ f.now.size) (t1 : decide (D.cap - D.size < j + s.size - f.now.size) = false) (hbn : D.burns = false) (hs0 : s.size = 0) :
  Calls Tryz.prog 111 #[ptrTo p, .string n, .int .i64 j, .string s] w (OpDone (0, D.burn) p F w) := by
 have Hbn := box hbn
 have he : s.toList = [] := by rw [Lib.toList_data]; exact List.eq_nil_of_length_eq_zero (by simpa using hs0)
 clear hbn hs0
 obtain ⟨mb, wv, h, rfl⟩ := h
 have hcalm : Calm w (w.alloc (.cells #[.string n] 9)) := (Calm.refl w).alloc _
 have h1 := h.calm hcalm
 obtain ⟨c0, c1, c2, c3, c4⟩ := h1.cells
 have hlook := h1.look n
 have Hb := box (bars_any (p := p) (mb := mb) (wv := wv) (D := D) (.slice (some ⟨w.heap.size, 0, none⟩) 1 1) [n] (w.alloc (.cells #[.string n] 9)) h1 (StrsAt.one (by go_cell)) (by simp))
 have H1 := box h1
 have Hwl := box hwl
 have Hsz := box hsz
 have Hcap := box hcap
 have Hcalm := box hcalm
 have hh : D.has n = true := by unfold DiskS.has; rw [hf]; rfl
 have hp := ptr_some hf
 obtain ⟨d0, d1, d2, d3⟩ := h1.file hf
 have hfl : f.blk < (w.alloc (.cells #[.string n] 9)).heap.size := heap_lt (h1.files f (find_some hf).1)
 have hb2 := box (show D.bars [n] = 0 by rw [bars_one, hd, hh]; rfl)
 rw [hp] at hlook
 have hj0 : decide ((j : Int) < 0) = false := decide_eq_false (by omega)
 have hj1 : decide ((f.now.size : Int) < j) = false := decide_eq_false (by omega)
 have q1 : IntKind.i64.wrap ((j : Int) + s.size) = j + s.size := IntWalk.i64_in _ (by omega)
 have q2 : IntKind.i64.wrap ((j : Int) + s.size - f.now.size) = j + s.size - f.now.size := IntWalk.i64_in _ (by omega)
 have Hroom := box (fun W (hc : Calm (w.alloc (.cells #[.string n] 9)) W) => Room_any (F := foot p mb wv D) W ⟨mb, wv, H1.out.calm hc, rfl⟩ (by have := Hsz.out; omega) Hcap.out)
 have Hf2 := box (show D.burn.find n = some f by rw [burn_find]; exact hf)
 have Hl := box (fun W => laid_any f.now s j W hnow hs (by omega))
 clear h1 hf hh hd hp hsz hs hnow hwl hcalm h hcap
 go_enter Tryz.func111, Tryz.ntmps111
 go_wp2_with fail
 refine Hb.out.mono ?_
 rw [hb2.out]
 rintro e w' ⟨rfl, rfl⟩
 go_wp2_with fail
 refine wp_region_held_drew (S := fun w' => w'.cell? ⟨f.blk, 1, none⟩ = some (.string f.now)) (by kernel_rfl) (by go_keep) (fun hHeld => ?_)
 ((refine' wpAnyH_take (i := 0) (v := _) rfl (by kernel_rfl) (by kernel_rfl) (by kernel_rfl) (fun _ _ _ h => h) (Or.inl ⟨by rfl, ?y76⟩) ‹_› ?r76; (case y76 => (intro w hSw; (try dsimp only at hSw); go_simp <;> with_reducible rfl))); (refine' wpAnyH_take (i := 1) (v := _) rfl (by kernel_rfl) (by kernel_rfl) (by kernel_rfl) (fun _ _ _ h => h) (Or.inl ⟨by rfl, ?y77⟩) ‹_› ?r77; (case y77 => (intro w hSw; (try dsimp only at hSw); go_simp <;> with_reducible rfl))); (refine' wpAnyH_take (i := 2) (v := _) rfl (by kernel_rfl) (by kernel_rfl) (by kernel_rfl) (fun _ _ _ h => h) (Or.inl ⟨by rfl, ?y78⟩) ‹_› ?r78; (case y78 => (intro w hSw; (try dsimp only at hSw); go_simp <;> with_reducible rfl))); (refine' wpAnyH_take (i := 3) (v := _) rfl (by kernel_rfl) (by kernel_rfl) (by kernel_rfl) (fun _ _ _ h => h) (Or.inl ⟨by rfl, ?y79⟩) ‹_› ?r79; (case y79 => (intro w hSw; (try dsimp only at hSw); go_simp <;> with_reducible rfl))); (refine' wpAnyH_take (i := 4) (v := _) rfl (by kernel_rfl) (by kernel_rfl) (by kernel_rfl) (fun _ _ _ h => h) (Or.inl ⟨by rfl, ?y80⟩) ‹_› ?r80; (case y80 => (intro w hSw; (try dsimp only at hSw); go_simp <;> with_reducible rfl)); simp only [List.getElem_toArray, List.getElem_cons_succ, List.getElem_cons_zero, Act.put, List.setIfInBounds_toArray, List.set_cons_zero, List.set_cons_succ]); (refine' wpAnyH_take (i := 5) (v := _) rfl (by kernel_rfl) (by kernel_rfl) (by kernel_rfl) (fun _ _ _ h => h) (Or.inl ⟨by rfl, ?y81⟩) ‹_› ?r81; (case y81 => (intro w hSw; (try dsimp only at hSw); go_simp <;> with_reducible rfl))); (refine' wpAnyH_take (i := 6) (v := _) rfl (by kernel_rfl) (by kernel_rfl) (by kernel_rfl) (fun _ _ _ h => h) (Or.inl ⟨by rfl, ?y82⟩) ‹_› ?r82; (case y82 => (intro w hSw; (try dsimp only at hSw); go_simp <;> with_reducible rfl))); (refine' wpAnyH_take (i := 7) (v := _) rfl (by kernel_rfl) (by kernel_rfl) (by kernel_rfl) (fun _ _ _ h => h) (Or.inl ⟨by rfl, ?y83⟩) ‹_› ?r83; (case y83 => (intro w hSw; (try dsimp only at hSw); go_simp <;> with_reducible rfl))); (refine' wpAnyH_take (i := 8) (v := _) rfl (by kernel_rfl) (by kernel_rfl) (by kernel_rfl) (fun _ _ _ h => h) (Or.inl ⟨by rfl, ?y84⟩) ‹_› ?r84; (case y84 => (intro w hSw; (try dsimp only at hSw); go_simp <;> with_reducible rfl))); (refine' wpAnyH_take (i := 9) (v := _) rfl (by kernel_rfl) (by kernel_rfl) (by kernel_rfl) (fun _ _ _ h => h) (Or.inl ⟨by rfl, ?y85⟩) ‹_› ?r85; (case y85 => (intro w hSw; (try dsimp only at hSw); go_simp <;> with_reducible rfl)); simp only [List.getElem_toArray, List.getElem_cons_succ, List.getElem_cons_zero, Act.put, List.setIfInBounds_toArray, List.set_cons_zero, List.set_cons_succ]); (refine' wpAnyH_take (i := 10) (v := _) rfl (by kernel_rfl) (by kernel_rfl) (by kernel_rfl) (fun _ _ _ h => h) (Or.inl ⟨by rfl, ?y86⟩) ‹_› ?r86; (case y86 => (intro w hSw; (try dsimp only at hSw); go_simp <;> with_reducible rfl)); simp only [List.getElem_toArray, List.getElem_cons_succ, List.getElem_cons_zero, Act.put, List.setIfInBounds_toArray, List.set_cons_zero, List.set_cons_succ]))
 refine wpAnyH_ready (rs := [11]) (by kernel_rfl) (by simp) ?_
 refine AllReadyH.cons rfl (fun K hK => ?_) AllReadyH.nil
 rw [if_pos (by rfl)]
 go_simp
 refine (Hroom.out _ (by (repeat' (first | (with_reducible exact Calm.refl _) | (with_reducible assumption) | (with_reducible refine Calm.drew ?_) | (with_reducible refine Calm.alloc ?_ _) | (with_reducible refine Calm.trans ?_ (by assumption)))))).mono ?_
 rintro e w' ⟨rfl, hb⟩
 go_wp2_with fail
 refine hK.out _ _ ?_ (fun hHeld2 => ?_)
 ·show w'.cell? ⟨f.blk, 1, none⟩ = some (.string f.now)
  rw [hb.cell (p := ⟨f.blk, 1, none⟩) hfl]; assumption
 clear hK K
 try simp only [List.getElem_toArray, List.getElem_cons_succ, List.getElem_cons_zero, Act.put, List.setIfInBounds_toArray, List.set_cons_zero, List.set_cons_succ]
 ((refine' wpAnyH_take (i := 12) (v := _) rfl (by kernel_rfl) (by kernel_rfl) (by kernel_rfl) (fun _ _ _ h => h) (Or.inl ⟨by rfl, ?y87⟩) ‹_› ?r87; (case y87 => (intro w hSw; (try dsimp only at hSw); go_simp <;> with_reducible rfl))); (refine' wpAnyH_take (i := 13) (v := _) rfl (by kernel_rfl) (by kernel_rfl) (by kernel_rfl) (fun _ _ _ h => h) (Or.inl ⟨by rfl, ?y88⟩) ‹_› ?r88; (case y88 => (intro w hSw; (try dsimp only at hSw); go_simp <;> with_reducible rfl)); simp only [List.getElem_toArray, List.getElem_cons_succ, List.getElem_cons_zero, Act.put, List.setIfInBounds_toArray, List.set_cons_zero, List.set_cons_succ]))
 ((refine' wpAnyH_take (i := 14) (v := _) rfl (by kernel_rfl) (by kernel_rfl) (by kernel_rfl) (fun _ _ _ h => h) (Or.inr ⟨by rfl, rfl⟩) ‹_› ?r89); (refine' wpAnyH_take (i := 15) (v := _) rfl (by kernel_rfl) (by kernel_rfl) (by kernel_rfl) (fun _ _ _ h => h) (Or.inr ⟨by rfl, rfl⟩) ‹_› ?r90); (refine' wpAnyH_take (i := 16) (v := _) rfl (by kernel_rfl) (by kernel_rfl) (by kernel_rfl) (fun _ _ _ h => h) (Or.inr ⟨by rfl, rfl⟩) ‹_› ?r91); (refine' wpAnyH_take (i := 17) (v := _) rfl (by kernel_rfl) (by kernel_rfl) (by kernel_rfl) (fun _ _ _ h => h) (Or.inr ⟨by rfl, rfl⟩) ‹_› ?r92); (refine' wpAnyH_take (i := 18) (v := _) rfl (by kernel_rfl) (by kernel_rfl) (by kernel_rfl) (fun _ _ _ h => h) (Or.inr ⟨by rfl, rfl⟩) ‹_› ?r93; simp only [List.getElem_toArray, List.getElem_cons_succ, List.getElem_cons_zero, Act.put, List.setIfInBounds_toArray, List.set_cons_zero, List.set_cons_succ]); (refine' wpAnyH_take (i := 19) (v := _) rfl (by kernel_rfl) (by kernel_rfl) (by kernel_rfl) (fun _ _ _ h => h) (Or.inr ⟨by rfl, rfl⟩) ‹_› ?r94); (refine' wpAnyH_take (i := 20) (v := _) rfl (by kernel_rfl) (by kernel_rfl) (by kernel_rfl) (fun _ _ _ h => h) (Or.inr ⟨by rfl, rfl⟩) ‹_› ?r95); (refine' wpAnyH_take (i := 21) (v := _) rfl (by kernel_rfl) (by kernel_rfl) (by kernel_rfl) (fun _ _ _ h => h) (Or.inr ⟨by rfl, rfl⟩) ‹_› ?r96); (refine' wpAnyH_take (i := 22) (v := _) rfl (by kernel_rfl) (by kernel_rfl) (by kernel_rfl) (fun _ _ _ h => h) (Or.inr ⟨by rfl, rfl⟩) ‹_› ?r97); (refine' wpAnyH_take (i := 23) (v := _) rfl (by kernel_rfl) (by kernel_rfl) (by kernel_rfl) (fun _ _ _ h => h) (Or.inr ⟨by rfl, rfl⟩) ‹_› ?r98; simp only [List.getElem_toArray, List.getElem_cons_succ, List.getElem_cons_zero, Act.put, List.setIfInBounds_toArray, List.set_cons_zero, List.set_cons_succ]))
 ((refine' wpAnyH_take (i := 24) (v := _) rfl (by kernel_rfl) (by kernel_rfl) (by kernel_rfl) (fun _ _ _ h => h) (Or.inl ⟨by rfl, ?y99⟩) ‹_› ?r99; (case y99 => (intro w hSw; (try dsimp only at hSw); go_simp <;> with_reducible rfl))); (refine' wpAnyH_take (i := 25) (v := _) rfl (by kernel_rfl) (by kernel_rfl) (by kernel_rfl) (fun _ _ _ h => h) (Or.inl ⟨by rfl, ?y100⟩) ‹_› ?r100; (case y100 => (intro w hSw; (try dsimp only at hSw); go_simp <;> with_reducible rfl)); simp only [List.getElem_toArray, List.getElem_cons_succ, List.getElem_cons_zero, Act.put, List.setIfInBounds_toArray, List.set_cons_zero, List.set_cons_succ]))
 refine wpAnyH_done (by kernel_rfl) ?_ _
 have hcW : Calm (w.alloc (.cells #[.string n] 9)) w' := by (repeat' (first | (with_reducible exact Calm.refl _) | (with_reducible assumption) | (with_reducible refine Calm.drew ?_) | (with_reducible refine Calm.alloc ?_ _) | (with_reducible refine Calm.trans ?_ (by assumption))))
 have HcW := box hcW
 clear hcW
 go_wp2_with fail
 refine (done_any _ (H1.out.calm HcW.out) hleft).mono ?_
 rw [Hbn.out]
 rintro e w2 ⟨rfl, hN⟩
 have HS := box (show Step (foot p mb wv D) w (foot p mb wv D.burn) w2 by rw [foot_burn]; exact (Step.of_calm (Hcalm.out.trans HcW.out)).trans (hN.step (.inl rfl)))
 have HN := box hN
 clear hN
 go_wp2_with fail
 go_ret
 exact OpDone.of rfl ⟨mb, wv, HN.out.disk, rfl⟩ HS.out
set_option maxHeartbeats 8000000 in
theorem Write_emptyTF (n s : ByteArray) (j : Nat) (f : FileS) (w : World) (h : DiskAt w p D F) (hleft : D.left ≤ 9223372036854775807) (hwl : D.waits.length ≤ 1000000) (hsz : D.size ≤ 1000000000) (hs : s.size ≤ 1000000000) (hcap : 0 ≤ D.cap ∧ D.cap ≤ 16777216)
  (hd : D.down = false) (hf : D.find n = some f) (hnow : f.now.size ≤ 1000000000) (hj : j ≤ f.now.size) (t1 : decide (D.cap - D.size < j + s.size - f.now.size) = true) (t2 : decide ((f.now.size : Int) < j + s.size) = false) (hbn : D.burns = false) (hs0 : s.size = 0) :
  Calls Tryz.prog 111 #[ptrTo p, .string n, .int .i64 j, .string s] w (OpDone (0, D.burn) p F w) := by
 have Hbn := box hbn
 have he : s.toList = [] := by rw [Lib.toList_data]; exact List.eq_nil_of_length_eq_zero (by simpa using hs0)
 clear hbn hs0
 obtain ⟨mb, wv, h, rfl⟩ := h
 have hcalm : Calm w (w.alloc (.cells #[.string n] 9)) := (Calm.refl w).alloc _
 have h1 := h.calm hcalm
 obtain ⟨c0, c1, c2, c3, c4⟩ := h1.cells
 have hlook := h1.look n
 have Hb := box (bars_any (p := p) (mb := mb) (wv := wv) (D := D) (.slice (some ⟨w.heap.size, 0, none⟩) 1 1) [n] (w.alloc (.cells #[.string n] 9)) h1 (StrsAt.one (by go_cell)) (by simp))
 have H1 := box h1
 have Hwl := box hwl
 have Hsz := box hsz
 have Hcap := box hcap
 have Hcalm := box hcalm
 have hh : D.has n = true := by unfold DiskS.has; rw [hf]; rfl
 have hp := ptr_some hf
 obtain ⟨d0, d1, d2, d3⟩ := h1.file hf
 have hfl : f.blk < (w.alloc (.cells #[.string n] 9)).heap.size := heap_lt (h1.files f (find_some hf).1)
 have hb2 := box (show D.bars [n] = 0 by rw [bars_one, hd, hh]; rfl)
 rw [hp] at hlook
 have hj0 : decide ((j : Int) < 0) = false := decide_eq_false (by omega)
 have hj1 : decide ((f.now.size : Int) < j) = false := decide_eq_false (by omega)
 have q1 : IntKind.i64.wrap ((j : Int) + s.size) = j + s.size := IntWalk.i64_in _ (by omega)
 have q2 : IntKind.i64.wrap ((j : Int) + s.size - f.now.size) = j + s.size - f.now.size := IntWalk.i64_in _ (by omega)
 have Hroom := box (fun W (hc : Calm (w.alloc (.cells #[.string n] 9)) W) => Room_any (F := foot p mb wv D) W ⟨mb, wv, H1.out.calm hc, rfl⟩ (by have := Hsz.out; omega) Hcap.out)
 have Hf2 := box (show D.burn.find n = some f by rw [burn_find]; exact hf)
 have Hl := box (fun W => laid_any f.now s j W hnow hs (by omega))
 clear h1 hf hh hd hp hsz hs hnow hwl hcalm h hcap
 go_enter Tryz.func111, Tryz.ntmps111
 go_wp2_with fail
 refine Hb.out.mono ?_
 rw [hb2.out]
 rintro e w' ⟨rfl, rfl⟩
 go_wp2_with fail
 refine wp_region_held_drew (S := fun w' => w'.cell? ⟨f.blk, 1, none⟩ = some (.string f.now)) (by kernel_rfl) (by go_keep) (fun hHeld => ?_)
 ((refine' wpAnyH_take (i := 0) (v := _) rfl (by kernel_rfl) (by kernel_rfl) (by kernel_rfl) (fun _ _ _ h => h) (Or.inl ⟨by rfl, ?y101⟩) ‹_› ?r101; (case y101 => (intro w hSw; (try dsimp only at hSw); go_simp <;> with_reducible rfl))); (refine' wpAnyH_take (i := 1) (v := _) rfl (by kernel_rfl) (by kernel_rfl) (by kernel_rfl) (fun _ _ _ h => h) (Or.inl ⟨by rfl, ?y102⟩) ‹_› ?r102; (case y102 => (intro w hSw; (try dsimp only at hSw); go_simp <;> with_reducible rfl))); (refine' wpAnyH_take (i := 2) (v := _) rfl (by kernel_rfl) (by kernel_rfl) (by kernel_rfl) (fun _ _ _ h => h) (Or.inl ⟨by rfl, ?y103⟩) ‹_› ?r103; (case y103 => (intro w hSw; (try dsimp only at hSw); go_simp <;> with_reducible rfl))); (refine' wpAnyH_take (i := 3) (v := _) rfl (by kernel_rfl) (by kernel_rfl) (by kernel_rfl) (fun _ _ _ h => h) (Or.inl ⟨by rfl, ?y104⟩) ‹_› ?r104; (case y104 => (intro w hSw; (try dsimp only at hSw); go_simp <;> with_reducible rfl))); (refine' wpAnyH_take (i := 4) (v := _) rfl (by kernel_rfl) (by kernel_rfl) (by kernel_rfl) (fun _ _ _ h => h) (Or.inl ⟨by rfl, ?y105⟩) ‹_› ?r105; (case y105 => (intro w hSw; (try dsimp only at hSw); go_simp <;> with_reducible rfl)); simp only [List.getElem_toArray, List.getElem_cons_succ, List.getElem_cons_zero, Act.put, List.setIfInBounds_toArray, List.set_cons_zero, List.set_cons_succ]); (refine' wpAnyH_take (i := 5) (v := _) rfl (by kernel_rfl) (by kernel_rfl) (by kernel_rfl) (fun _ _ _ h => h) (Or.inl ⟨by rfl, ?y106⟩) ‹_› ?r106; (case y106 => (intro w hSw; (try dsimp only at hSw); go_simp <;> with_reducible rfl))); (refine' wpAnyH_take (i := 6) (v := _) rfl (by kernel_rfl) (by kernel_rfl) (by kernel_rfl) (fun _ _ _ h => h) (Or.inl ⟨by rfl, ?y107⟩) ‹_› ?r107; (case y107 => (intro w hSw; (try dsimp only at hSw); go_simp <;> with_reducible rfl))); (refine' wpAnyH_take (i := 7) (v := _) rfl (by kernel_rfl) (by kernel_rfl) (by kernel_rfl) (fun _ _ _ h => h) (Or.inl ⟨by rfl, ?y108⟩) ‹_› ?r108; (case y108 => (intro w hSw; (try dsimp only at hSw); go_simp <;> with_reducible rfl))); (refine' wpAnyH_take (i := 8) (v := _) rfl (by kernel_rfl) (by kernel_rfl) (by kernel_rfl) (fun _ _ _ h => h) (Or.inl ⟨by rfl, ?y109⟩) ‹_› ?r109; (case y109 => (intro w hSw; (try dsimp only at hSw); go_simp <;> with_reducible rfl))); (refine' wpAnyH_take (i := 9) (v := _) rfl (by kernel_rfl) (by kernel_rfl) (by kernel_rfl) (fun _ _ _ h => h) (Or.inl ⟨by rfl, ?y110⟩) ‹_› ?r110; (case y110 => (intro w hSw; (try dsimp only at hSw); go_simp <;> with_reducible rfl)); simp only [List.getElem_toArray, List.getElem_cons_succ, List.getElem_cons_zero, Act.put, List.setIfInBounds_toArray, List.set_cons_zero, List.set_cons_succ]); (refine' wpAnyH_take (i := 10) (v := _) rfl (by kernel_rfl) (by kernel_rfl) (by kernel_rfl) (fun _ _ _ h => h) (Or.inl ⟨by rfl, ?y111⟩) ‹_› ?r111; (case y111 => (intro w hSw; (try dsimp only at hSw); go_simp <;> with_reducible rfl)); simp only [List.getElem_toArray, List.getElem_cons_succ, List.getElem_cons_zero, Act.put, List.setIfInBounds_toArray, List.set_cons_zero, List.set_cons_succ]))
 refine wpAnyH_ready (rs := [11]) (by kernel_rfl) (by simp) ?_
 refine AllReadyH.cons rfl (fun K hK => ?_) AllReadyH.nil
 rw [if_pos (by rfl)]
 go_simp
 refine (Hroom.out _ (by (repeat' (first | (with_reducible exact Calm.refl _) | (with_reducible assumption) | (with_reducible refine Calm.drew ?_) | (with_reducible refine Calm.alloc ?_ _) | (with_reducible refine Calm.trans ?_ (by assumption)))))).mono ?_
 rintro e w' ⟨rfl, hb⟩
 go_wp2_with fail
 refine hK.out _ _ ?_ (fun hHeld2 => ?_)
 ·show w'.cell? ⟨f.blk, 1, none⟩ = some (.string f.now)
  rw [hb.cell (p := ⟨f.blk, 1, none⟩) hfl]; assumption
 clear hK K
 try simp only [List.getElem_toArray, List.getElem_cons_succ, List.getElem_cons_zero, Act.put, List.setIfInBounds_toArray, List.set_cons_zero, List.set_cons_succ]
 ((refine' wpAnyH_take (i := 12) (v := _) rfl (by kernel_rfl) (by kernel_rfl) (by kernel_rfl) (fun _ _ _ h => h) (Or.inl ⟨by rfl, ?y112⟩) ‹_› ?r112; (case y112 => (intro w hSw; (try dsimp only at hSw); go_simp <;> with_reducible rfl))); (refine' wpAnyH_take (i := 13) (v := _) rfl (by kernel_rfl) (by kernel_rfl) (by kernel_rfl) (fun _ _ _ h => h) (Or.inl ⟨by rfl, ?y113⟩) ‹_› ?r113; (case y113 => (intro w hSw; (try dsimp only at hSw); go_simp <;> with_reducible rfl))); (refine' wpAnyH_take (i := 14) (v := _) rfl (by kernel_rfl) (by kernel_rfl) (by kernel_rfl) (fun _ _ _ h => h) (Or.inl ⟨by rfl, ?y114⟩) ‹_› ?r114; (case y114 => (intro w hSw; (try dsimp only at hSw); go_simp <;> with_reducible rfl))); (refine' wpAnyH_take (i := 15) (v := _) rfl (by kernel_rfl) (by kernel_rfl) (by kernel_rfl) (fun _ _ _ h => h) (Or.inl ⟨by rfl, ?y115⟩) ‹_› ?r115; (case y115 => (intro w hSw; (try dsimp only at hSw); go_simp <;> with_reducible rfl))); (refine' wpAnyH_take (i := 16) (v := _) rfl (by kernel_rfl) (by kernel_rfl) (by kernel_rfl) (fun _ _ _ h => h) (Or.inl ⟨by rfl, ?y116⟩) ‹_› ?r116; (case y116 => (intro w hSw; (try dsimp only at hSw); go_simp <;> with_reducible rfl)); simp only [List.getElem_toArray, List.getElem_cons_succ, List.getElem_cons_zero, Act.put, List.setIfInBounds_toArray, List.set_cons_zero, List.set_cons_succ]); (refine' wpAnyH_take (i := 17) (v := _) rfl (by kernel_rfl) (by kernel_rfl) (by kernel_rfl) (fun _ _ _ h => h) (Or.inl ⟨by rfl, ?y117⟩) ‹_› ?r117; (case y117 => (intro w hSw; (try dsimp only at hSw); go_simp <;> with_reducible rfl))); (refine' wpAnyH_take (i := 18) (v := _) rfl (by kernel_rfl) (by kernel_rfl) (by kernel_rfl) (fun _ _ _ h => h) (Or.inl ⟨by rfl, ?y118⟩) ‹_› ?r118; (case y118 => (intro w hSw; (try dsimp only at hSw); go_simp <;> with_reducible rfl))); (refine' wpAnyH_take (i := 19) (v := _) rfl (by kernel_rfl) (by kernel_rfl) (by kernel_rfl) (fun _ _ _ h => h) (Or.inl ⟨by rfl, ?y119⟩) ‹_› ?r119; (case y119 => (intro w hSw; (try dsimp only at hSw); go_simp <;> with_reducible rfl))); (refine' wpAnyH_take (i := 20) (v := _) rfl (by kernel_rfl) (by kernel_rfl) (by kernel_rfl) (fun _ _ _ h => h) (Or.inl ⟨by rfl, ?y120⟩) ‹_› ?r120; (case y120 => (intro w hSw; (try dsimp only at hSw); go_simp <;> with_reducible rfl))); (refine' wpAnyH_take (i := 21) (v := _) rfl (by kernel_rfl) (by kernel_rfl) (by kernel_rfl) (fun _ _ _ h => h) (Or.inl ⟨by rfl, ?y121⟩) ‹_› ?r121; (case y121 => (intro w hSw; (try dsimp only at hSw); go_simp <;> with_reducible rfl)); simp only [List.getElem_toArray, List.getElem_cons_succ, List.getElem_cons_zero, Act.put, List.setIfInBounds_toArray, List.set_cons_zero, List.set_cons_succ]); (refine' wpAnyH_take (i := 22) (v := _) rfl (by kernel_rfl) (by kernel_rfl) (by kernel_rfl) (fun _ _ _ h => h) (Or.inl ⟨by rfl, ?y122⟩) ‹_› ?r122; (case y122 => (intro w hSw; (try dsimp only at hSw); go_simp <;> with_reducible rfl))); (refine' wpAnyH_take (i := 23) (v := _) rfl (by kernel_rfl) (by kernel_rfl) (by kernel_rfl) (fun _ _ _ h => h) (Or.inl ⟨by rfl, ?y123⟩) ‹_› ?r123; (case y123 => (intro w hSw; (try dsimp only at hSw); go_simp <;> with_reducible rfl))); (refine' wpAnyH_take (i := 24) (v := _) rfl (by kernel_rfl) (by kernel_rfl) (by kernel_rfl) (fun _ _ _ h => h) (Or.inl ⟨by rfl, ?y124⟩) ‹_› ?r124; (case y124 => (intro w hSw; (try dsimp only at hSw); go_simp <;> with_reducible rfl))); (refine' wpAnyH_take (i := 25) (v := _) rfl (by kernel_rfl) (by kernel_rfl) (by kernel_rfl) (fun _ _ _ h => h) (Or.inl ⟨by rfl, ?y125⟩) ‹_› ?r125; (case y125 => (intro w hSw; (try dsimp only at hSw); go_simp <;> with_reducible rfl)); simp only [List.getElem_toArray, List.getElem_cons_succ, List.getElem_cons_zero, Act.put, List.setIfInBounds_toArray, List.set_cons_zero, List.set_cons_succ]))
 refine wpAnyH_done (by kernel_rfl) ?_ _
 have hcW : Calm (w.alloc (.cells #[.string n] 9)) w' := by (repeat' (first | (with_reducible exact Calm.refl _) | (with_reducible assumption) | (with_reducible refine Calm.drew ?_) | (with_reducible refine Calm.alloc ?_ _) | (with_reducible refine Calm.trans ?_ (by assumption))))
 have HcW := box hcW
 clear hcW
 go_wp2_with fail
 refine (done_any _ (H1.out.calm HcW.out) hleft).mono ?_
 rw [Hbn.out]
 rintro e w2 ⟨rfl, hN⟩
 have HS := box (show Step (foot p mb wv D) w (foot p mb wv D.burn) w2 by rw [foot_burn]; exact (Step.of_calm (Hcalm.out.trans HcW.out)).trans (hN.step (.inl rfl)))
 have HN := box hN
 clear hN
 go_wp2_with fail
 go_ret
 exact OpDone.of rfl ⟨mb, wv, HN.out.disk, rfl⟩ HS.out
end
section
variable {w w' w1 : World} {p mb : Nat} {wv wv' : Value} {D : DiskS} {F : Nat → Prop}
set_option maxHeartbeats 8000000 in
theorem Write_putF (n s : ByteArray) (j : Nat) (f : FileS) (w : World) (h : DiskAt w p D F) (hleft : D.left ≤ 9223372036854775807) (hwl : D.waits.length ≤ 1000000) (hsz : D.size ≤ 1000000000) (hs : s.size ≤ 1000000000) (hcap : 0 ≤ D.cap ∧ D.cap ≤ 16777216)
  (hd : D.down = false) (hf : D.find n = some f) (hnow : f.now.size ≤ 1000000000) (hj : j ≤ f.now.size) (t1 : decide (D.cap - D.size < j + s.size - f.now.size) = false) (hbn : D.burns = false) (hs0 : s.size ≠ 0) :
  Calls Tryz.prog 111 #[ptrTo p, .string n, .int .i64 j, .string s] w (OpDone (0, D.burn.put n f j s) p F w) := by
 have Hbn := box hbn
 have he : s.toList.isEmpty = false := by rw [Lib.toList_data, List.isEmpty_eq_false_iff]; intro h; apply hs0; simpa using congrArg List.length h
 clear hbn hs0
 obtain ⟨mb, wv, h, rfl⟩ := h
 have hcalm : Calm w (w.alloc (.cells #[.string n] 9)) := (Calm.refl w).alloc _
 have h1 := h.calm hcalm
 obtain ⟨c0, c1, c2, c3, c4⟩ := h1.cells
 have hlook := h1.look n
 have Hb := box (bars_any (p := p) (mb := mb) (wv := wv) (D := D) (.slice (some ⟨w.heap.size, 0, none⟩) 1 1) [n] (w.alloc (.cells #[.string n] 9)) h1 (StrsAt.one (by go_cell)) (by simp))
 have H1 := box h1
 have Hwl := box hwl
 have Hsz := box hsz
 have Hcap := box hcap
 have Hcalm := box hcalm
 have hh : D.has n = true := by unfold DiskS.has; rw [hf]; rfl
 have hp := ptr_some hf
 obtain ⟨d0, d1, d2, d3⟩ := h1.file hf
 have hfl : f.blk < (w.alloc (.cells #[.string n] 9)).heap.size := heap_lt (h1.files f (find_some hf).1)
 have hb2 := box (show D.bars [n] = 0 by rw [bars_one, hd, hh]; rfl)
 rw [hp] at hlook
 have hj0 : decide ((j : Int) < 0) = false := decide_eq_false (by omega)
 have hj1 : decide ((f.now.size : Int) < j) = false := decide_eq_false (by omega)
 have q1 : IntKind.i64.wrap ((j : Int) + s.size) = j + s.size := IntWalk.i64_in _ (by omega)
 have q2 : IntKind.i64.wrap ((j : Int) + s.size - f.now.size) = j + s.size - f.now.size := IntWalk.i64_in _ (by omega)
 have Hroom := box (fun W (hc : Calm (w.alloc (.cells #[.string n] 9)) W) => Room_any (F := foot p mb wv D) W ⟨mb, wv, H1.out.calm hc, rfl⟩ (by have := Hsz.out; omega) Hcap.out)
 have Hf2 := box (show D.burn.find n = some f by rw [burn_find]; exact hf)
 have Hl := box (fun W => laid_any f.now s j W hnow hs (by omega))
 clear h1 hf hh hd hp hsz hs hnow hwl hcalm h hcap
 go_enter Tryz.func111, Tryz.ntmps111
 go_wp2_with fail
 refine Hb.out.mono ?_
 rw [hb2.out]
 rintro e w' ⟨rfl, rfl⟩
 go_wp2_with fail
 refine wp_region_held_drew (S := fun w' => w'.cell? ⟨f.blk, 1, none⟩ = some (.string f.now)) (by kernel_rfl) (by go_keep) (fun hHeld => ?_)
 ((refine' wpAnyH_take (i := 0) (v := _) rfl (by kernel_rfl) (by kernel_rfl) (by kernel_rfl) (fun _ _ _ h => h) (Or.inl ⟨by rfl, ?y126⟩) ‹_› ?r126; (case y126 => (intro w hSw; (try dsimp only at hSw); go_simp <;> with_reducible rfl))); (refine' wpAnyH_take (i := 1) (v := _) rfl (by kernel_rfl) (by kernel_rfl) (by kernel_rfl) (fun _ _ _ h => h) (Or.inl ⟨by rfl, ?y127⟩) ‹_› ?r127; (case y127 => (intro w hSw; (try dsimp only at hSw); go_simp <;> with_reducible rfl))); (refine' wpAnyH_take (i := 2) (v := _) rfl (by kernel_rfl) (by kernel_rfl) (by kernel_rfl) (fun _ _ _ h => h) (Or.inl ⟨by rfl, ?y128⟩) ‹_› ?r128; (case y128 => (intro w hSw; (try dsimp only at hSw); go_simp <;> with_reducible rfl))); (refine' wpAnyH_take (i := 3) (v := _) rfl (by kernel_rfl) (by kernel_rfl) (by kernel_rfl) (fun _ _ _ h => h) (Or.inl ⟨by rfl, ?y129⟩) ‹_› ?r129; (case y129 => (intro w hSw; (try dsimp only at hSw); go_simp <;> with_reducible rfl))); (refine' wpAnyH_take (i := 4) (v := _) rfl (by kernel_rfl) (by kernel_rfl) (by kernel_rfl) (fun _ _ _ h => h) (Or.inl ⟨by rfl, ?y130⟩) ‹_› ?r130; (case y130 => (intro w hSw; (try dsimp only at hSw); go_simp <;> with_reducible rfl)); simp only [List.getElem_toArray, List.getElem_cons_succ, List.getElem_cons_zero, Act.put, List.setIfInBounds_toArray, List.set_cons_zero, List.set_cons_succ]); (refine' wpAnyH_take (i := 5) (v := _) rfl (by kernel_rfl) (by kernel_rfl) (by kernel_rfl) (fun _ _ _ h => h) (Or.inl ⟨by rfl, ?y131⟩) ‹_› ?r131; (case y131 => (intro w hSw; (try dsimp only at hSw); go_simp <;> with_reducible rfl))); (refine' wpAnyH_take (i := 6) (v := _) rfl (by kernel_rfl) (by kernel_rfl) (by kernel_rfl) (fun _ _ _ h => h) (Or.inl ⟨by rfl, ?y132⟩) ‹_› ?r132; (case y132 => (intro w hSw; (try dsimp only at hSw); go_simp <;> with_reducible rfl))); (refine' wpAnyH_take (i := 7) (v := _) rfl (by kernel_rfl) (by kernel_rfl) (by kernel_rfl) (fun _ _ _ h => h) (Or.inl ⟨by rfl, ?y133⟩) ‹_› ?r133; (case y133 => (intro w hSw; (try dsimp only at hSw); go_simp <;> with_reducible rfl))); (refine' wpAnyH_take (i := 8) (v := _) rfl (by kernel_rfl) (by kernel_rfl) (by kernel_rfl) (fun _ _ _ h => h) (Or.inl ⟨by rfl, ?y134⟩) ‹_› ?r134; (case y134 => (intro w hSw; (try dsimp only at hSw); go_simp <;> with_reducible rfl))); (refine' wpAnyH_take (i := 9) (v := _) rfl (by kernel_rfl) (by kernel_rfl) (by kernel_rfl) (fun _ _ _ h => h) (Or.inl ⟨by rfl, ?y135⟩) ‹_› ?r135; (case y135 => (intro w hSw; (try dsimp only at hSw); go_simp <;> with_reducible rfl)); simp only [List.getElem_toArray, List.getElem_cons_succ, List.getElem_cons_zero, Act.put, List.setIfInBounds_toArray, List.set_cons_zero, List.set_cons_succ]); (refine' wpAnyH_take (i := 10) (v := _) rfl (by kernel_rfl) (by kernel_rfl) (by kernel_rfl) (fun _ _ _ h => h) (Or.inl ⟨by rfl, ?y136⟩) ‹_› ?r136; (case y136 => (intro w hSw; (try dsimp only at hSw); go_simp <;> with_reducible rfl)); simp only [List.getElem_toArray, List.getElem_cons_succ, List.getElem_cons_zero, Act.put, List.setIfInBounds_toArray, List.set_cons_zero, List.set_cons_succ]))
 refine wpAnyH_ready (rs := [11]) (by kernel_rfl) (by simp) ?_
 refine AllReadyH.cons rfl (fun K hK => ?_) AllReadyH.nil
 rw [if_pos (by rfl)]
 go_simp
 refine (Hroom.out _ (by (repeat' (first | (with_reducible exact Calm.refl _) | (with_reducible assumption) | (with_reducible refine Calm.drew ?_) | (with_reducible refine Calm.alloc ?_ _) | (with_reducible refine Calm.trans ?_ (by assumption)))))).mono ?_
 rintro e w' ⟨rfl, hb⟩
 go_wp2_with fail
 refine hK.out _ _ ?_ (fun hHeld2 => ?_)
 ·show w'.cell? ⟨f.blk, 1, none⟩ = some (.string f.now)
  rw [hb.cell (p := ⟨f.blk, 1, none⟩) hfl]; assumption
 clear hK K
 try simp only [List.getElem_toArray, List.getElem_cons_succ, List.getElem_cons_zero, Act.put, List.setIfInBounds_toArray, List.set_cons_zero, List.set_cons_succ]
 ((refine' wpAnyH_take (i := 12) (v := _) rfl (by kernel_rfl) (by kernel_rfl) (by kernel_rfl) (fun _ _ _ h => h) (Or.inl ⟨by rfl, ?y137⟩) ‹_› ?r137; (case y137 => (intro w hSw; (try dsimp only at hSw); go_simp <;> with_reducible rfl))); (refine' wpAnyH_take (i := 13) (v := _) rfl (by kernel_rfl) (by kernel_rfl) (by kernel_rfl) (fun _ _ _ h => h) (Or.inl ⟨by rfl, ?y138⟩) ‹_› ?r138; (case y138 => (intro w hSw; (try dsimp only at hSw); go_simp <;> with_reducible rfl)); simp only [List.getElem_toArray, List.getElem_cons_succ, List.getElem_cons_zero, Act.put, List.setIfInBounds_toArray, List.set_cons_zero, List.set_cons_succ]))
 ((refine' wpAnyH_take (i := 14) (v := _) rfl (by kernel_rfl) (by kernel_rfl) (by kernel_rfl) (fun _ _ _ h => h) (Or.inr ⟨by rfl, rfl⟩) ‹_› ?r139); (refine' wpAnyH_take (i := 15) (v := _) rfl (by kernel_rfl) (by kernel_rfl) (by kernel_rfl) (fun _ _ _ h => h) (Or.inr ⟨by rfl, rfl⟩) ‹_› ?r140); (refine' wpAnyH_take (i := 16) (v := _) rfl (by kernel_rfl) (by kernel_rfl) (by kernel_rfl) (fun _ _ _ h => h) (Or.inr ⟨by rfl, rfl⟩) ‹_› ?r141); (refine' wpAnyH_take (i := 17) (v := _) rfl (by kernel_rfl) (by kernel_rfl) (by kernel_rfl) (fun _ _ _ h => h) (Or.inr ⟨by rfl, rfl⟩) ‹_› ?r142); (refine' wpAnyH_take (i := 18) (v := _) rfl (by kernel_rfl) (by kernel_rfl) (by kernel_rfl) (fun _ _ _ h => h) (Or.inr ⟨by rfl, rfl⟩) ‹_› ?r143; simp only [List.getElem_toArray, List.getElem_cons_succ, List.getElem_cons_zero, Act.put, List.setIfInBounds_toArray, List.set_cons_zero, List.set_cons_succ]); (refine' wpAnyH_take (i := 19) (v := _) rfl (by kernel_rfl) (by kernel_rfl) (by kernel_rfl) (fun _ _ _ h => h) (Or.inr ⟨by rfl, rfl⟩) ‹_› ?r144); (refine' wpAnyH_take (i := 20) (v := _) rfl (by kernel_rfl) (by kernel_rfl) (by kernel_rfl) (fun _ _ _ h => h) (Or.inr ⟨by rfl, rfl⟩) ‹_› ?r145); (refine' wpAnyH_take (i := 21) (v := _) rfl (by kernel_rfl) (by kernel_rfl) (by kernel_rfl) (fun _ _ _ h => h) (Or.inr ⟨by rfl, rfl⟩) ‹_› ?r146); (refine' wpAnyH_take (i := 22) (v := _) rfl (by kernel_rfl) (by kernel_rfl) (by kernel_rfl) (fun _ _ _ h => h) (Or.inr ⟨by rfl, rfl⟩) ‹_› ?r147); (refine' wpAnyH_take (i := 23) (v := _) rfl (by kernel_rfl) (by kernel_rfl) (by kernel_rfl) (fun _ _ _ h => h) (Or.inr ⟨by rfl, rfl⟩) ‹_› ?r148; simp only [List.getElem_toArray, List.getElem_cons_succ, List.getElem_cons_zero, Act.put, List.setIfInBounds_toArray, List.set_cons_zero, List.set_cons_succ]))
 ((refine' wpAnyH_take (i := 24) (v := _) rfl (by kernel_rfl) (by kernel_rfl) (by kernel_rfl) (fun _ _ _ h => h) (Or.inl ⟨by rfl, ?y149⟩) ‹_› ?r149; (case y149 => (intro w hSw; (try dsimp only at hSw); go_simp <;> with_reducible rfl))); (refine' wpAnyH_take (i := 25) (v := _) rfl (by kernel_rfl) (by kernel_rfl) (by kernel_rfl) (fun _ _ _ h => h) (Or.inl ⟨by rfl, ?y150⟩) ‹_› ?r150; (case y150 => (intro w hSw; (try dsimp only at hSw); go_simp <;> with_reducible rfl)); simp only [List.getElem_toArray, List.getElem_cons_succ, List.getElem_cons_zero, Act.put, List.setIfInBounds_toArray, List.set_cons_zero, List.set_cons_succ]))
 refine wpAnyH_done (by kernel_rfl) ?_ _
 have hcW : Calm (w.alloc (.cells #[.string n] 9)) w' := by (repeat' (first | (with_reducible exact Calm.refl _) | (with_reducible assumption) | (with_reducible refine Calm.drew ?_) | (with_reducible refine Calm.alloc ?_ _) | (with_reducible refine Calm.trans ?_ (by assumption))))
 have HcW := box hcW
 clear hcW
 go_wp2_with fail
 refine (done_any _ (H1.out.calm HcW.out) hleft).mono ?_
 rw [Hbn.out]
 rintro e w2 ⟨rfl, hN⟩
 have HS := box (show Step (foot p mb wv D) w (foot p mb wv D.burn) w2 by rw [foot_burn]; exact (Step.of_calm (Hcalm.out.trans HcW.out)).trans (hN.step (.inl rfl)))
 obtain ⟨g0, g1, g2, g3⟩ := hN.disk.file Hf2.out
 have hfl2 : f.blk < w2.heap.size := heap_lt (hN.disk.files f (find_some Hf2.out).1)
 have HN := box hN
 clear hN
 go_wp2_with fail
 refine (Hl.out _).mono ?_
 rintro e w3 ⟨rfl, hc3⟩
 have hD3 := HN.out.disk.calm hc3
 have hS3 := HS.out.calm hc3
 obtain ⟨g0', g1', g2', g3'⟩ := hD3.file Hf2.out
 have hfl3 : f.blk < w3.heap.size := heap_lt (hD3.files f (find_some Hf2.out).1)
 have hD4 := hD3.written (s := s) Hf2.out j
 have hm4 : f ∈ D.burn.files := (find_some Hf2.out).1
 have hS4 := hS3.trans (show Step (foot p mb wv D.burn) w3 (foot p mb wv D.burn) (w3.setCell ⟨f.blk, 1, none⟩ (.string (laid f.now j s))) from ⟨(Keeps.refl _ w3).setCell (p := ⟨f.blk, 1, none⟩) (.inl (.inr (.inr (.inr (List.mem_map.2 ⟨f, hm4, rfl⟩))))) _, fun _ h => .inl h⟩)
 have hs4 : (w3.setCell ⟨f.blk, 1, none⟩ (.string (laid f.now j s))).heap.size = w3.heap.size := by simp [World.setCell]
 have hD5 := hD4.calm ((Calm.refl _).alloc (.cells #[ptrTo f.blk, .int .i64 j, .string s] 152))
 have hb5 := heap_new (w3.setCell ⟨f.blk, 1, none⟩ (.string (laid f.now j s))) (.cells #[ptrTo f.blk, .int .i64 j, .string s] 152)
 rw [hs4] at hb5
 have hwl5 : (D.burn.turn n (putF j s)).waits.length ≤ 1000000 := by rw [show (D.burn.turn n (putF j s)).waits = D.waits from burn_files.2.1]; exact Hwl.out
 obtain ⟨v', W6, Happ, hrow, hk6, hob⟩ := append_wait _ (D.burn.turn n (putF j s)).waits ⟨f.blk, j, s⟩ w3.heap.size hD5.waits hb5 hwl5 106
 obtain ⟨a', n', cap', rfl⟩ := row_slice hrow
 have hp6 : W6.heap[p]? = some (.cells (diskCells (D.burn.turn n (putF j s)) mb wv) 108 (0, 0)) := (hk6.block p (heap_lt hD5.obj) hD5.p_ne_row).trans hD5.obj
 have k3 : W6.cell? ⟨p, 3, none⟩ = some wv := cell_of hp6 3
 have k4 := free_of hp6 3
 have hpl6 := heap_lt hp6
 have hnew : ∀ g, (Value.slice a' n' cap').ownBlock = some g → wv.ownBlock = some g ∨ ((w3.setCell ⟨f.blk, 1, none⟩ (.string (laid f.now j s))).alloc (.cells #[ptrTo f.blk, .int .i64 j, .string s] 152)).heap.size ≤ g := fun g hg => by
  rcases hob with h | h
  ·exact .inl (by rw [← h]; exact hg)
  ·rw [h] at hg; cases hg; exact .inr (Nat.le_refl _)
 have hfin := box (hD5.rowTo hk6 hrow hnew (fun x hx => by
  rcases List.mem_append.1 hx with hx | hx
  ·exact hD5.live x hx
  ·rw [List.mem_singleton] at hx
   subst hx
   refine ⟨putF j s f, ?_, rfl⟩
   unfold DiskS.turn
   exact List.mem_map.2 ⟨f, hm4, if_pos (find_some Hf2.out).2⟩))
 have hS7 := box ((hS4.calm ((Calm.refl _).alloc (.cells #[ptrTo f.blk, .int .i64 j, .string s] 152))).trans (show Step (foot p mb wv D.burn) _ (foot p mb (.slice a' n' cap') (D.burn.put n f j s)) (W6.setCell ⟨p, 3, none⟩ (.slice a' n' cap')) from ⟨(hk6.mono (fun b _ hb => .inr (.inr (.inl hb)))).setCell (p := ⟨p, 3, none⟩) (.inl (.inl rfl)) _, by
  rintro b (hb | hb | hb | hb)
  ·exact .inl (.inl hb)
  ·exact .inl (.inr (.inl hb))
  ·rcases hnew b hb with h | h
   ·exact .inl (.inr (.inr (.inl h)))
   ·exact .inr h
  ·refine .inl (.inr (.inr (.inr ?_)))
   rw [← (turn_same (n := n) (g := putF j s) (fun _ => ⟨rfl, rfl⟩)).2]
   exact hb⟩))
 have Happ := box Happ
 have d3c : w3.cell? ⟨p, 3, none⟩ = some wv := hD3.cells.2.2.2.1
 have hpl3 := heap_lt hD3.obj
 have hpf := hD3.p_ne_file hm4
 clear hD3 hS3 hD4 hS4 hD5 hb5 hrow hk6 hob hnew hp6 hc3 hs4 hwl5
 go_wp2_with (first | (at_builtin; refine Lib.wpList_append_run _ rfl _ _ _ _ rfl _ _ rfl rfl _ _ Happ.out ?_) | fail)
 go_ret
 exact OpDone.of rfl ⟨mb, _, hfin.out, rfl⟩ hS7.out
set_option maxHeartbeats 8000000 in
theorem Write_putTF (n s : ByteArray) (j : Nat) (f : FileS) (w : World) (h : DiskAt w p D F) (hleft : D.left ≤ 9223372036854775807) (hwl : D.waits.length ≤ 1000000) (hsz : D.size ≤ 1000000000) (hs : s.size ≤ 1000000000) (hcap : 0 ≤ D.cap ∧ D.cap ≤ 16777216)
  (hd : D.down = false) (hf : D.find n = some f) (hnow : f.now.size ≤ 1000000000) (hj : j ≤ f.now.size) (t1 : decide (D.cap - D.size < j + s.size - f.now.size) = true) (t2 : decide ((f.now.size : Int) < j + s.size) = false) (hbn : D.burns = false) (hs0 : s.size ≠ 0) :
  Calls Tryz.prog 111 #[ptrTo p, .string n, .int .i64 j, .string s] w (OpDone (0, D.burn.put n f j s) p F w) := by
 have Hbn := box hbn
 have he : s.toList.isEmpty = false := by rw [Lib.toList_data, List.isEmpty_eq_false_iff]; intro h; apply hs0; simpa using congrArg List.length h
 clear hbn hs0
 obtain ⟨mb, wv, h, rfl⟩ := h
 have hcalm : Calm w (w.alloc (.cells #[.string n] 9)) := (Calm.refl w).alloc _
 have h1 := h.calm hcalm
 obtain ⟨c0, c1, c2, c3, c4⟩ := h1.cells
 have hlook := h1.look n
 have Hb := box (bars_any (p := p) (mb := mb) (wv := wv) (D := D) (.slice (some ⟨w.heap.size, 0, none⟩) 1 1) [n] (w.alloc (.cells #[.string n] 9)) h1 (StrsAt.one (by go_cell)) (by simp))
 have H1 := box h1
 have Hwl := box hwl
 have Hsz := box hsz
 have Hcap := box hcap
 have Hcalm := box hcalm
 have hh : D.has n = true := by unfold DiskS.has; rw [hf]; rfl
 have hp := ptr_some hf
 obtain ⟨d0, d1, d2, d3⟩ := h1.file hf
 have hfl : f.blk < (w.alloc (.cells #[.string n] 9)).heap.size := heap_lt (h1.files f (find_some hf).1)
 have hb2 := box (show D.bars [n] = 0 by rw [bars_one, hd, hh]; rfl)
 rw [hp] at hlook
 have hj0 : decide ((j : Int) < 0) = false := decide_eq_false (by omega)
 have hj1 : decide ((f.now.size : Int) < j) = false := decide_eq_false (by omega)
 have q1 : IntKind.i64.wrap ((j : Int) + s.size) = j + s.size := IntWalk.i64_in _ (by omega)
 have q2 : IntKind.i64.wrap ((j : Int) + s.size - f.now.size) = j + s.size - f.now.size := IntWalk.i64_in _ (by omega)
 have Hroom := box (fun W (hc : Calm (w.alloc (.cells #[.string n] 9)) W) => Room_any (F := foot p mb wv D) W ⟨mb, wv, H1.out.calm hc, rfl⟩ (by have := Hsz.out; omega) Hcap.out)
 have Hf2 := box (show D.burn.find n = some f by rw [burn_find]; exact hf)
 have Hl := box (fun W => laid_any f.now s j W hnow hs (by omega))
 clear h1 hf hh hd hp hsz hs hnow hwl hcalm h hcap
 go_enter Tryz.func111, Tryz.ntmps111
 go_wp2_with fail
 refine Hb.out.mono ?_
 rw [hb2.out]
 rintro e w' ⟨rfl, rfl⟩
 go_wp2_with fail
 refine wp_region_held_drew (S := fun w' => w'.cell? ⟨f.blk, 1, none⟩ = some (.string f.now)) (by kernel_rfl) (by go_keep) (fun hHeld => ?_)
 ((refine' wpAnyH_take (i := 0) (v := _) rfl (by kernel_rfl) (by kernel_rfl) (by kernel_rfl) (fun _ _ _ h => h) (Or.inl ⟨by rfl, ?y151⟩) ‹_› ?r151; (case y151 => (intro w hSw; (try dsimp only at hSw); go_simp <;> with_reducible rfl))); (refine' wpAnyH_take (i := 1) (v := _) rfl (by kernel_rfl) (by kernel_rfl) (by kernel_rfl) (fun _ _ _ h => h) (Or.inl ⟨by rfl, ?y152⟩) ‹_› ?r152; (case y152 => (intro w hSw; (try dsimp only at hSw); go_simp <;> with_reducible rfl))); (refine' wpAnyH_take (i := 2) (v := _) rfl (by kernel_rfl) (by kernel_rfl) (by kernel_rfl) (fun _ _ _ h => h) (Or.inl ⟨by rfl, ?y153⟩) ‹_› ?r153; (case y153 => (intro w hSw; (try dsimp only at hSw); go_simp <;> with_reducible rfl))); (refine' wpAnyH_take (i := 3) (v := _) rfl (by kernel_rfl) (by kernel_rfl) (by kernel_rfl) (fun _ _ _ h => h) (Or.inl ⟨by rfl, ?y154⟩) ‹_› ?r154; (case y154 => (intro w hSw; (try dsimp only at hSw); go_simp <;> with_reducible rfl))); (refine' wpAnyH_take (i := 4) (v := _) rfl (by kernel_rfl) (by kernel_rfl) (by kernel_rfl) (fun _ _ _ h => h) (Or.inl ⟨by rfl, ?y155⟩) ‹_› ?r155; (case y155 => (intro w hSw; (try dsimp only at hSw); go_simp <;> with_reducible rfl)); simp only [List.getElem_toArray, List.getElem_cons_succ, List.getElem_cons_zero, Act.put, List.setIfInBounds_toArray, List.set_cons_zero, List.set_cons_succ]); (refine' wpAnyH_take (i := 5) (v := _) rfl (by kernel_rfl) (by kernel_rfl) (by kernel_rfl) (fun _ _ _ h => h) (Or.inl ⟨by rfl, ?y156⟩) ‹_› ?r156; (case y156 => (intro w hSw; (try dsimp only at hSw); go_simp <;> with_reducible rfl))); (refine' wpAnyH_take (i := 6) (v := _) rfl (by kernel_rfl) (by kernel_rfl) (by kernel_rfl) (fun _ _ _ h => h) (Or.inl ⟨by rfl, ?y157⟩) ‹_› ?r157; (case y157 => (intro w hSw; (try dsimp only at hSw); go_simp <;> with_reducible rfl))); (refine' wpAnyH_take (i := 7) (v := _) rfl (by kernel_rfl) (by kernel_rfl) (by kernel_rfl) (fun _ _ _ h => h) (Or.inl ⟨by rfl, ?y158⟩) ‹_› ?r158; (case y158 => (intro w hSw; (try dsimp only at hSw); go_simp <;> with_reducible rfl))); (refine' wpAnyH_take (i := 8) (v := _) rfl (by kernel_rfl) (by kernel_rfl) (by kernel_rfl) (fun _ _ _ h => h) (Or.inl ⟨by rfl, ?y159⟩) ‹_› ?r159; (case y159 => (intro w hSw; (try dsimp only at hSw); go_simp <;> with_reducible rfl))); (refine' wpAnyH_take (i := 9) (v := _) rfl (by kernel_rfl) (by kernel_rfl) (by kernel_rfl) (fun _ _ _ h => h) (Or.inl ⟨by rfl, ?y160⟩) ‹_› ?r160; (case y160 => (intro w hSw; (try dsimp only at hSw); go_simp <;> with_reducible rfl)); simp only [List.getElem_toArray, List.getElem_cons_succ, List.getElem_cons_zero, Act.put, List.setIfInBounds_toArray, List.set_cons_zero, List.set_cons_succ]); (refine' wpAnyH_take (i := 10) (v := _) rfl (by kernel_rfl) (by kernel_rfl) (by kernel_rfl) (fun _ _ _ h => h) (Or.inl ⟨by rfl, ?y161⟩) ‹_› ?r161; (case y161 => (intro w hSw; (try dsimp only at hSw); go_simp <;> with_reducible rfl)); simp only [List.getElem_toArray, List.getElem_cons_succ, List.getElem_cons_zero, Act.put, List.setIfInBounds_toArray, List.set_cons_zero, List.set_cons_succ]))
 refine wpAnyH_ready (rs := [11]) (by kernel_rfl) (by simp) ?_
 refine AllReadyH.cons rfl (fun K hK => ?_) AllReadyH.nil
 rw [if_pos (by rfl)]
 go_simp
 refine (Hroom.out _ (by (repeat' (first | (with_reducible exact Calm.refl _) | (with_reducible assumption) | (with_reducible refine Calm.drew ?_) | (with_reducible refine Calm.alloc ?_ _) | (with_reducible refine Calm.trans ?_ (by assumption)))))).mono ?_
 rintro e w' ⟨rfl, hb⟩
 go_wp2_with fail
 refine hK.out _ _ ?_ (fun hHeld2 => ?_)
 ·show w'.cell? ⟨f.blk, 1, none⟩ = some (.string f.now)
  rw [hb.cell (p := ⟨f.blk, 1, none⟩) hfl]; assumption
 clear hK K
 try simp only [List.getElem_toArray, List.getElem_cons_succ, List.getElem_cons_zero, Act.put, List.setIfInBounds_toArray, List.set_cons_zero, List.set_cons_succ]
 ((refine' wpAnyH_take (i := 12) (v := _) rfl (by kernel_rfl) (by kernel_rfl) (by kernel_rfl) (fun _ _ _ h => h) (Or.inl ⟨by rfl, ?y162⟩) ‹_› ?r162; (case y162 => (intro w hSw; (try dsimp only at hSw); go_simp <;> with_reducible rfl))); (refine' wpAnyH_take (i := 13) (v := _) rfl (by kernel_rfl) (by kernel_rfl) (by kernel_rfl) (fun _ _ _ h => h) (Or.inl ⟨by rfl, ?y163⟩) ‹_› ?r163; (case y163 => (intro w hSw; (try dsimp only at hSw); go_simp <;> with_reducible rfl))); (refine' wpAnyH_take (i := 14) (v := _) rfl (by kernel_rfl) (by kernel_rfl) (by kernel_rfl) (fun _ _ _ h => h) (Or.inl ⟨by rfl, ?y164⟩) ‹_› ?r164; (case y164 => (intro w hSw; (try dsimp only at hSw); go_simp <;> with_reducible rfl))); (refine' wpAnyH_take (i := 15) (v := _) rfl (by kernel_rfl) (by kernel_rfl) (by kernel_rfl) (fun _ _ _ h => h) (Or.inl ⟨by rfl, ?y165⟩) ‹_› ?r165; (case y165 => (intro w hSw; (try dsimp only at hSw); go_simp <;> with_reducible rfl))); (refine' wpAnyH_take (i := 16) (v := _) rfl (by kernel_rfl) (by kernel_rfl) (by kernel_rfl) (fun _ _ _ h => h) (Or.inl ⟨by rfl, ?y166⟩) ‹_› ?r166; (case y166 => (intro w hSw; (try dsimp only at hSw); go_simp <;> with_reducible rfl)); simp only [List.getElem_toArray, List.getElem_cons_succ, List.getElem_cons_zero, Act.put, List.setIfInBounds_toArray, List.set_cons_zero, List.set_cons_succ]); (refine' wpAnyH_take (i := 17) (v := _) rfl (by kernel_rfl) (by kernel_rfl) (by kernel_rfl) (fun _ _ _ h => h) (Or.inl ⟨by rfl, ?y167⟩) ‹_› ?r167; (case y167 => (intro w hSw; (try dsimp only at hSw); go_simp <;> with_reducible rfl))); (refine' wpAnyH_take (i := 18) (v := _) rfl (by kernel_rfl) (by kernel_rfl) (by kernel_rfl) (fun _ _ _ h => h) (Or.inl ⟨by rfl, ?y168⟩) ‹_› ?r168; (case y168 => (intro w hSw; (try dsimp only at hSw); go_simp <;> with_reducible rfl))); (refine' wpAnyH_take (i := 19) (v := _) rfl (by kernel_rfl) (by kernel_rfl) (by kernel_rfl) (fun _ _ _ h => h) (Or.inl ⟨by rfl, ?y169⟩) ‹_› ?r169; (case y169 => (intro w hSw; (try dsimp only at hSw); go_simp <;> with_reducible rfl))); (refine' wpAnyH_take (i := 20) (v := _) rfl (by kernel_rfl) (by kernel_rfl) (by kernel_rfl) (fun _ _ _ h => h) (Or.inl ⟨by rfl, ?y170⟩) ‹_› ?r170; (case y170 => (intro w hSw; (try dsimp only at hSw); go_simp <;> with_reducible rfl))); (refine' wpAnyH_take (i := 21) (v := _) rfl (by kernel_rfl) (by kernel_rfl) (by kernel_rfl) (fun _ _ _ h => h) (Or.inl ⟨by rfl, ?y171⟩) ‹_› ?r171; (case y171 => (intro w hSw; (try dsimp only at hSw); go_simp <;> with_reducible rfl)); simp only [List.getElem_toArray, List.getElem_cons_succ, List.getElem_cons_zero, Act.put, List.setIfInBounds_toArray, List.set_cons_zero, List.set_cons_succ]); (refine' wpAnyH_take (i := 22) (v := _) rfl (by kernel_rfl) (by kernel_rfl) (by kernel_rfl) (fun _ _ _ h => h) (Or.inl ⟨by rfl, ?y172⟩) ‹_› ?r172; (case y172 => (intro w hSw; (try dsimp only at hSw); go_simp <;> with_reducible rfl))); (refine' wpAnyH_take (i := 23) (v := _) rfl (by kernel_rfl) (by kernel_rfl) (by kernel_rfl) (fun _ _ _ h => h) (Or.inl ⟨by rfl, ?y173⟩) ‹_› ?r173; (case y173 => (intro w hSw; (try dsimp only at hSw); go_simp <;> with_reducible rfl))); (refine' wpAnyH_take (i := 24) (v := _) rfl (by kernel_rfl) (by kernel_rfl) (by kernel_rfl) (fun _ _ _ h => h) (Or.inl ⟨by rfl, ?y174⟩) ‹_› ?r174; (case y174 => (intro w hSw; (try dsimp only at hSw); go_simp <;> with_reducible rfl))); (refine' wpAnyH_take (i := 25) (v := _) rfl (by kernel_rfl) (by kernel_rfl) (by kernel_rfl) (fun _ _ _ h => h) (Or.inl ⟨by rfl, ?y175⟩) ‹_› ?r175; (case y175 => (intro w hSw; (try dsimp only at hSw); go_simp <;> with_reducible rfl)); simp only [List.getElem_toArray, List.getElem_cons_succ, List.getElem_cons_zero, Act.put, List.setIfInBounds_toArray, List.set_cons_zero, List.set_cons_succ]))
 refine wpAnyH_done (by kernel_rfl) ?_ _
 have hcW : Calm (w.alloc (.cells #[.string n] 9)) w' := by (repeat' (first | (with_reducible exact Calm.refl _) | (with_reducible assumption) | (with_reducible refine Calm.drew ?_) | (with_reducible refine Calm.alloc ?_ _) | (with_reducible refine Calm.trans ?_ (by assumption))))
 have HcW := box hcW
 clear hcW
 go_wp2_with fail
 refine (done_any _ (H1.out.calm HcW.out) hleft).mono ?_
 rw [Hbn.out]
 rintro e w2 ⟨rfl, hN⟩
 have HS := box (show Step (foot p mb wv D) w (foot p mb wv D.burn) w2 by rw [foot_burn]; exact (Step.of_calm (Hcalm.out.trans HcW.out)).trans (hN.step (.inl rfl)))
 obtain ⟨g0, g1, g2, g3⟩ := hN.disk.file Hf2.out
 have hfl2 : f.blk < w2.heap.size := heap_lt (hN.disk.files f (find_some Hf2.out).1)
 have HN := box hN
 clear hN
 go_wp2_with fail
 refine (Hl.out _).mono ?_
 rintro e w3 ⟨rfl, hc3⟩
 have hD3 := HN.out.disk.calm hc3
 have hS3 := HS.out.calm hc3
 obtain ⟨g0', g1', g2', g3'⟩ := hD3.file Hf2.out
 have hfl3 : f.blk < w3.heap.size := heap_lt (hD3.files f (find_some Hf2.out).1)
 have hD4 := hD3.written (s := s) Hf2.out j
 have hm4 : f ∈ D.burn.files := (find_some Hf2.out).1
 have hS4 := hS3.trans (show Step (foot p mb wv D.burn) w3 (foot p mb wv D.burn) (w3.setCell ⟨f.blk, 1, none⟩ (.string (laid f.now j s))) from ⟨(Keeps.refl _ w3).setCell (p := ⟨f.blk, 1, none⟩) (.inl (.inr (.inr (.inr (List.mem_map.2 ⟨f, hm4, rfl⟩))))) _, fun _ h => .inl h⟩)
 have hs4 : (w3.setCell ⟨f.blk, 1, none⟩ (.string (laid f.now j s))).heap.size = w3.heap.size := by simp [World.setCell]
 have hD5 := hD4.calm ((Calm.refl _).alloc (.cells #[ptrTo f.blk, .int .i64 j, .string s] 152))
 have hb5 := heap_new (w3.setCell ⟨f.blk, 1, none⟩ (.string (laid f.now j s))) (.cells #[ptrTo f.blk, .int .i64 j, .string s] 152)
 rw [hs4] at hb5
 have hwl5 : (D.burn.turn n (putF j s)).waits.length ≤ 1000000 := by rw [show (D.burn.turn n (putF j s)).waits = D.waits from burn_files.2.1]; exact Hwl.out
 obtain ⟨v', W6, Happ, hrow, hk6, hob⟩ := append_wait _ (D.burn.turn n (putF j s)).waits ⟨f.blk, j, s⟩ w3.heap.size hD5.waits hb5 hwl5 106
 obtain ⟨a', n', cap', rfl⟩ := row_slice hrow
 have hp6 : W6.heap[p]? = some (.cells (diskCells (D.burn.turn n (putF j s)) mb wv) 108 (0, 0)) := (hk6.block p (heap_lt hD5.obj) hD5.p_ne_row).trans hD5.obj
 have k3 : W6.cell? ⟨p, 3, none⟩ = some wv := cell_of hp6 3
 have k4 := free_of hp6 3
 have hpl6 := heap_lt hp6
 have hnew : ∀ g, (Value.slice a' n' cap').ownBlock = some g → wv.ownBlock = some g ∨ ((w3.setCell ⟨f.blk, 1, none⟩ (.string (laid f.now j s))).alloc (.cells #[ptrTo f.blk, .int .i64 j, .string s] 152)).heap.size ≤ g := fun g hg => by
  rcases hob with h | h
  ·exact .inl (by rw [← h]; exact hg)
  ·rw [h] at hg; cases hg; exact .inr (Nat.le_refl _)
 have hfin := box (hD5.rowTo hk6 hrow hnew (fun x hx => by
  rcases List.mem_append.1 hx with hx | hx
  ·exact hD5.live x hx
  ·rw [List.mem_singleton] at hx
   subst hx
   refine ⟨putF j s f, ?_, rfl⟩
   unfold DiskS.turn
   exact List.mem_map.2 ⟨f, hm4, if_pos (find_some Hf2.out).2⟩))
 have hS7 := box ((hS4.calm ((Calm.refl _).alloc (.cells #[ptrTo f.blk, .int .i64 j, .string s] 152))).trans (show Step (foot p mb wv D.burn) _ (foot p mb (.slice a' n' cap') (D.burn.put n f j s)) (W6.setCell ⟨p, 3, none⟩ (.slice a' n' cap')) from ⟨(hk6.mono (fun b _ hb => .inr (.inr (.inl hb)))).setCell (p := ⟨p, 3, none⟩) (.inl (.inl rfl)) _, by
  rintro b (hb | hb | hb | hb)
  ·exact .inl (.inl hb)
  ·exact .inl (.inr (.inl hb))
  ·rcases hnew b hb with h | h
   ·exact .inl (.inr (.inr (.inl h)))
   ·exact .inr h
  ·refine .inl (.inr (.inr (.inr ?_)))
   rw [← (turn_same (n := n) (g := putF j s) (fun _ => ⟨rfl, rfl⟩)).2]
   exact hb⟩))
 have Happ := box Happ
 have d3c : w3.cell? ⟨p, 3, none⟩ = some wv := hD3.cells.2.2.2.1
 have hpl3 := heap_lt hD3.obj
 have hpf := hD3.p_ne_file hm4
 clear hD3 hS3 hD4 hS4 hD5 hb5 hrow hk6 hob hnew hp6 hc3 hs4 hwl5
 go_wp2_with (first | (at_builtin; refine Lib.wpList_append_run _ rfl _ _ _ _ rfl _ _ rfl rfl _ _ Happ.out ?_) | fail)
 go_ret
 exact OpDone.of rfl ⟨mb, _, hfin.out, rfl⟩ hS7.out
end
section
variable {w w' w1 : World} {p mb : Nat} {wv wv' : Value} {D : DiskS} {F : Nat → Prop}
set_option maxHeartbeats 8000000 in
theorem Write_any (n s : ByteArray) (k : Int) (w : World) (h : DiskAt w p D F) (hleft : D.left ≤ 9223372036854775807) (hwl : D.waits.length ≤ 1000000) (hsz : D.size ≤ 1000000000) (hs : s.size ≤ 1000000000) (hcap : 0 ≤ D.cap ∧ D.cap ≤ 16777216) (hfs : ∀ f ∈ D.files, f.now.size ≤ 1000000000) :
  Calls Tryz.prog 111 #[ptrTo p, .string n, .int .i64 k, .string s] w (OpDone (D.write n k s) p F w) := by
 have h0 := h
 obtain ⟨mb, wv, h, rfl⟩ := h
 have hcalm : Calm w (w.alloc (.cells #[.string n] 9)) := (Calm.refl w).alloc _
 have h1 := h.calm hcalm
 obtain ⟨c0, c1, c2, c3, c4⟩ := h1.cells
 have hlook := h1.look n
 have Hb := box (bars_any (p := p) (mb := mb) (wv := wv) (D := D) (.slice (some ⟨w.heap.size, 0, none⟩) 1 1) [n] (w.alloc (.cells #[.string n] 9)) h1 (StrsAt.one (by go_cell)) (by simp))
 have hb1 := box (bars_one (D := D) n)
 have H1 := box h1
 have Hcalm := box hcalm
 cases hd : D.down
 ·cases hf : D.find n with
  | none =>
   have hh : D.has n = false := by unfold DiskS.has; rw [hf]; rfl
   have hres := box (show D.write n k s = (9, D) by unfold DiskS.write; rw [hd, hf]; rfl)
   have hb2 := box (show D.bars [n] = 9 by rw [hb1.out, hd, hh]; rfl)
   clear hb1 h1 hf hh hd hsz hs hwl hcap hfs h h0 hcalm
   go_enter Tryz.func111, Tryz.ntmps111
   go_wp2_with fail
   refine Hb.out.mono ?_
   rw [hb2.out]
   rintro e w' ⟨rfl, rfl⟩
   go_wp2_with fail
   go_ret
   exact OpDone.of hres.out ⟨mb, wv, H1.out, rfl⟩ (Step.of_calm Hcalm.out)
  | some f =>
   by_cases hr : k < 0 ∨ (f.now.size : Int) < k
   ·have hh : D.has n = true := by unfold DiskS.has; rw [hf]; rfl
    have hp := ptr_some hf
    obtain ⟨d0, d1, d2, d3⟩ := h1.file hf
    have hb2 := box (show D.bars [n] = 0 by rw [hb1.out, hd, hh]; rfl)
    rw [hp] at hlook
    have hres := box (show D.write n k s = (2, D) by unfold DiskS.write; rw [hd, hf]; simp only [if_pos hr]; rfl)
    clear hb1 h1 hf hh hd hp hsz hs hwl hcap hfs h h0 hcalm
    rcases hr with hr | hr
    ·go_enter Tryz.func111, Tryz.ntmps111
     go_wp2_with fail
     refine Hb.out.mono ?_
     rw [hb2.out]
     rintro e w' ⟨rfl, rfl⟩
     go_wp2_with fail
     go_ret
     exact OpDone.of hres.out ⟨mb, wv, H1.out, rfl⟩ (Step.of_calm Hcalm.out)
    ·have hr0 : ¬ k < 0 := by omega
     go_enter Tryz.func111, Tryz.ntmps111
     go_wp2_with fail
     refine Hb.out.mono ?_
     rw [hb2.out]
     rintro e w' ⟨rfl, rfl⟩
     go_wp2_with fail
     go_ret
     exact OpDone.of hres.out ⟨mb, wv, H1.out, rfl⟩ (Step.of_calm Hcalm.out)
   ·obtain ⟨j, rfl⟩ : ∃ j : Nat, k = j := ⟨k.toNat, by omega⟩
    have hj : j ≤ f.now.size := by omega
    have hnow : f.now.size ≤ 1000000000 := hfs f (find_some hf).1
    by_cases t1 : D.cap - D.size < j + s.size - f.now.size
    ·by_cases t2 : (f.now.size : Int) < j + s.size
     ·rw [write_full hd hf hj t1 t2]
      exact Write_full n s j f w h0 hleft hwl hsz hs hcap hd hf hnow hj (decide_eq_true t1) (decide_eq_true t2)
     ·rw [write_goes (s := s) hd hf hj (.inr t2)]
      cases hbn : D.burns
      ·by_cases hs0 : s.size = 0
       ·simp only [Bool.false_eq_true, if_false, hs0, if_true]
        exact Write_emptyTF n s j f w h0 hleft hwl hsz hs hcap hd hf hnow hj (decide_eq_true t1) (decide_eq_false t2) hbn hs0
       ·simp only [Bool.false_eq_true, if_false, hs0]
        exact Write_putTF n s j f w h0 hleft hwl hsz hs hcap hd hf hnow hj (decide_eq_true t1) (decide_eq_false t2) hbn hs0
      ·simp only [if_true]
       exact Write_burnTF n s j f w h0 hleft hwl hsz hs hcap hd hf hnow hj (decide_eq_true t1) (decide_eq_false t2) hbn
    ·rw [write_goes (s := s) hd hf hj (.inl t1)]
     cases hbn : D.burns
     ·by_cases hs0 : s.size = 0
      ·simp only [Bool.false_eq_true, if_false, hs0, if_true]
       exact Write_emptyF n s j f w h0 hleft hwl hsz hs hcap hd hf hnow hj (decide_eq_false t1) hbn hs0
      ·simp only [Bool.false_eq_true, if_false, hs0]
       exact Write_putF n s j f w h0 hleft hwl hsz hs hcap hd hf hnow hj (decide_eq_false t1) hbn hs0
     ·simp only [if_true]
      exact Write_burnF n s j f w h0 hleft hwl hsz hs hcap hd hf hnow hj (decide_eq_false t1) hbn
 ·have hres := box (show D.write n k s = (8, D) by unfold DiskS.write; rw [hd]; rfl)
  have hb2 := box (show D.bars [n] = 8 by rw [hb1.out, hd]; rfl)
  clear hb1 h1 hd hsz hs hwl hcap hfs h h0 hcalm
  go_enter Tryz.func111, Tryz.ntmps111
  go_wp2_with fail
  refine Hb.out.mono ?_
  rw [hb2.out]
  rintro e w' ⟨rfl, rfl⟩
  go_wp2_with fail
  go_ret
  exact OpDone.of hres.out ⟨mb, wv, H1.out, rfl⟩ (Step.of_calm Hcalm.out)
end
end Go.Proofs.YtjpokaifbnkmhaaGreatDoor.dk

namespace Go.Proofs.YtjpokaifbnkmhaaGreatDoor.dk
open Go.ChangeShapes Go.WideShapes Go.ChangeAt Go.RowKit
end Go.Proofs.YtjpokaifbnkmhaaGreatDoor.dk

namespace Go.Proofs.YtjpokaifbnkmhaaGreatDoor.dk
open Go.ChangeShapes Go.WideShapes Go.ChangeAt Go.RowKit
section
variable {w w' w1 : World} {p mb : Nat} {wv wv' : Value} {D : DiskS} {F : Nat → Prop}
theorem laid_size (s : ByteArray) (k : Nat) (o : ByteArray) : (laid s k o).size ≤ max s.size (k + o.size) := by
 unfold laid laidL pad
 split
 ·show s.data.toList.toArray.size ≤ _
  simp; omega
 ·show (_ : List UInt8).toArray.size ≤ _
  simp; omega
end
section
variable {w w' w1 : World} {p mb : Nat} {wv wv' : Value} {D E : DiskS} {F : Nat → Prop} {left : List Nat}
end
end Go.Proofs.YtjpokaifbnkmhaaGreatDoor.dk
