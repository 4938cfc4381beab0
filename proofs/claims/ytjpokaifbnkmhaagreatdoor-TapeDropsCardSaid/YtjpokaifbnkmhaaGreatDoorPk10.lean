/- Lemmas for this claim. -/
import Derived.Test.YtjpokaifbnkmhaaGreatDoorPk9
namespace Go.Proofs.YtjpokaifbnkmhaaGreatDoor.dk
open Go.ChangeShapes Go.WideShapes Go.ChangeAt Go.RowKit
section
variable {w w' w1 : World} {p mb : Nat} {wv wv' : Value} {D : DiskS} {F : Nat → Prop}
set_option maxRecDepth 100000 in
set_option maxHeartbeats 8000000 in
theorem Write_putF (n s : ByteArray) (j : Nat) (f : FileS) (w : World) (h : DiskAt w p D F) (hleft : D.left ≤ 9223372036854775807) (hwl : D.waits.length ≤ 1000000) (hsz : D.size ≤ 1000000000) (hs : s.size ≤ 1000000000) (hcap : 0 ≤ D.cap ∧ D.cap ≤ 16777216)
    (hd : D.down = false) (hf : D.find n = some f) (hnow : f.now.size ≤ 1000000000) (hj : j ≤ f.now.size) (t1 : decide (D.cap - D.size < j + s.size - f.now.size) = false) (hbn : D.burns = false) (hs0 : s.size ≠ 0) :
    Calls Tryz.prog 111 #[ptrTo p, .string n, .int .i64 j, .string s] w (OpDone (0, D.burn.put n f j s) p F w) := by
  have Hbn := box hbn
  have he : s.toList.isEmpty = false := by rw [Lib.toList_data, List.isEmpty_eq_false_iff]; intro h; apply hs0; simpa using congrArg List.length h
  clear hbn hs0
  obtain ⟨mb, wv, h, rfl⟩ := h
  have hcalm : Calm w (w.alloc (.cells #[.string n] 9)) := (Calm.refl w).alloc _
  have h1 := h.calm hcalm
  obtain ⟨c0, c1, c2, c3, c4⟩ := h1.cells
  have hlook := h1.look n
  have Hb := box (bars_any (p := p) (mb := mb) (wv := wv) (D := D) (.slice (some ⟨w.heap.size, 0, none⟩) 1 1) [n] (w.alloc (.cells #[.string n] 9)) h1 (StrsAt.one (by go_cell)) (by simp))
  have H1 := box h1
  have Hwl := box hwl
  have Hsz := box hsz
  have Hcap := box hcap
  have Hcalm := box hcalm
  have hh : D.has n = true := by unfold DiskS.has; rw [hf]; rfl
  have hp := ptr_some hf
  obtain ⟨d0, d1, d2, d3⟩ := h1.file hf
  have hfl : f.blk < (w.alloc (.cells #[.string n] 9)).heap.size := heap_lt (h1.files f (find_some hf).1)
  have hb2 := box (show D.bars [n] = 0 by rw [bars_one, hd, hh]; rfl)
  rw [hp] at hlook
  have hj0 : decide ((j : Int) < 0) = false := decide_eq_false (by omega)
  have hj1 : decide ((f.now.size : Int) < j) = false := decide_eq_false (by omega)
  have q1 : IntKind.i64.wrap ((j : Int) + s.size) = j + s.size := IntWalk.i64_in _ (by omega)
  have q2 : IntKind.i64.wrap ((j : Int) + s.size - f.now.size) = j + s.size - f.now.size := IntWalk.i64_in _ (by omega)
  have Hroom := box (fun W (hc : Calm (w.alloc (.cells #[.string n] 9)) W) => Room_any (F := foot p mb wv D) W ⟨mb, wv, H1.out.calm hc, rfl⟩ (by have := Hsz.out; omega) Hcap.out)
  have Hf2 := box (show D.burn.find n = some f by rw [burn_find]; exact hf)
  have Hl := box (fun W => laid_any f.now s j W hnow hs (by omega))
  clear h1 hf hh hd hp hsz hs hnow hwl hcalm h hcap
  go_enter Tryz.func111, Tryz.ntmps111
  go_wp2_with fail
  refine Hb.out.mono ?_
  rw [hb2.out]
  rintro e w' ⟨rfl, rfl⟩
  go_wp2_with fail
  refine wp_region_held_drew (S := fun w' => w'.cell? ⟨f.blk, 1, none⟩ = some (.string f.now)) (by kernel_rfl) (by go_keep) (fun hHeld => ?_)
  ((refine' wpAnyH_take (i := 0) (v := _) rfl (by kernel_rfl) (by kernel_rfl) (by kernel_rfl) (fun _ _ _ h => h) (Or.inl ⟨by rfl, ?hy126⟩) (by assumption) ?rest126; (case hy126 => (intro w hSw; (try dsimp only at hSw); go_simp <;> with_reducible rfl)); simp only [List.getElem_toArray, List.getElem_cons_succ, List.getElem_cons_zero, Act.put, List.setIfInBounds_toArray, List.set_cons_zero, List.set_cons_succ]); (refine' wpAnyH_take (i := 1) (v := _) rfl (by kernel_rfl) (by kernel_rfl) (by kernel_rfl) (fun _ _ _ h => h) (Or.inl ⟨by rfl, ?hy127⟩) (by assumption) ?rest127; (case hy127 => (intro w hSw; (try dsimp only at hSw); go_simp <;> with_reducible rfl)); simp only [List.getElem_toArray, List.getElem_cons_succ, List.getElem_cons_zero, Act.put, List.setIfInBounds_toArray, List.set_cons_zero, List.set_cons_succ]); (refine' wpAnyH_take (i := 2) (v := _) rfl (by kernel_rfl) (by kernel_rfl) (by kernel_rfl) (fun _ _ _ h => h) (Or.inl ⟨by rfl, ?hy128⟩) (by assumption) ?rest128; (case hy128 => (intro w hSw; (try dsimp only at hSw); go_simp <;> with_reducible rfl)); simp only [List.getElem_toArray, List.getElem_cons_succ, List.getElem_cons_zero, Act.put, List.setIfInBounds_toArray, List.set_cons_zero, List.set_cons_succ]); (refine' wpAnyH_take (i := 3) (v := _) rfl (by kernel_rfl) (by kernel_rfl) (by kernel_rfl) (fun _ _ _ h => h) (Or.inl ⟨by rfl, ?hy129⟩) (by assumption) ?rest129; (case hy129 => (intro w hSw; (try dsimp only at hSw); go_simp <;> with_reducible rfl)); simp only [List.getElem_toArray, List.getElem_cons_succ, List.getElem_cons_zero, Act.put, List.setIfInBounds_toArray, List.set_cons_zero, List.set_cons_succ]); (refine' wpAnyH_take (i := 4) (v := _) rfl (by kernel_rfl) (by kernel_rfl) (by kernel_rfl) (fun _ _ _ h => h) (Or.inl ⟨by rfl, ?hy130⟩) (by assumption) ?rest130; (case hy130 => (intro w hSw; (try dsimp only at hSw); go_simp <;> with_reducible rfl)); simp only [List.getElem_toArray, List.getElem_cons_succ, List.getElem_cons_zero, Act.put, List.setIfInBounds_toArray, List.set_cons_zero, List.set_cons_succ]); (refine' wpAnyH_take (i := 5) (v := _) rfl (by kernel_rfl) (by kernel_rfl) (by kernel_rfl) (fun _ _ _ h => h) (Or.inl ⟨by rfl, ?hy131⟩) (by assumption) ?rest131; (case hy131 => (intro w hSw; (try dsimp only at hSw); go_simp <;> with_reducible rfl)); simp only [List.getElem_toArray, List.getElem_cons_succ, List.getElem_cons_zero, Act.put, List.setIfInBounds_toArray, List.set_cons_zero, List.set_cons_succ]); (refine' wpAnyH_take (i := 6) (v := _) rfl (by kernel_rfl) (by kernel_rfl) (by kernel_rfl) (fun _ _ _ h => h) (Or.inl ⟨by rfl, ?hy132⟩) (by assumption) ?rest132; (case hy132 => (intro w hSw; (try dsimp only at hSw); go_simp <;> with_reducible rfl)); simp only [List.getElem_toArray, List.getElem_cons_succ, List.getElem_cons_zero, Act.put, List.setIfInBounds_toArray, List.set_cons_zero, List.set_cons_succ]); (refine' wpAnyH_take (i := 7) (v := _) rfl (by kernel_rfl) (by kernel_rfl) (by kernel_rfl) (fun _ _ _ h => h) (Or.inl ⟨by rfl, ?hy133⟩) (by assumption) ?rest133; (case hy133 => (intro w hSw; (try dsimp only at hSw); go_simp <;> with_reducible rfl)); simp only [List.getElem_toArray, List.getElem_cons_succ, List.getElem_cons_zero, Act.put, List.setIfInBounds_toArray, List.set_cons_zero, List.set_cons_succ]); (refine' wpAnyH_take (i := 8) (v := _) rfl (by kernel_rfl) (by kernel_rfl) (by kernel_rfl) (fun _ _ _ h => h) (Or.inl ⟨by rfl, ?hy134⟩) (by assumption) ?rest134; (case hy134 => (intro w hSw; (try dsimp only at hSw); go_simp <;> with_reducible rfl)); simp only [List.getElem_toArray, List.getElem_cons_succ, List.getElem_cons_zero, Act.put, List.setIfInBounds_toArray, List.set_cons_zero, List.set_cons_succ]); (refine' wpAnyH_take (i := 9) (v := _) rfl (by kernel_rfl) (by kernel_rfl) (by kernel_rfl) (fun _ _ _ h => h) (Or.inl ⟨by rfl, ?hy135⟩) (by assumption) ?rest135; (case hy135 => (intro w hSw; (try dsimp only at hSw); go_simp <;> with_reducible rfl)); simp only [List.getElem_toArray, List.getElem_cons_succ, List.getElem_cons_zero, Act.put, List.setIfInBounds_toArray, List.set_cons_zero, List.set_cons_succ]); (refine' wpAnyH_take (i := 10) (v := _) rfl (by kernel_rfl) (by kernel_rfl) (by kernel_rfl) (fun _ _ _ h => h) (Or.inl ⟨by rfl, ?hy136⟩) (by assumption) ?rest136; (case hy136 => (intro w hSw; (try dsimp only at hSw); go_simp <;> with_reducible rfl)); simp only [List.getElem_toArray, List.getElem_cons_succ, List.getElem_cons_zero, Act.put, List.setIfInBounds_toArray, List.set_cons_zero, List.set_cons_succ]))
  refine wpAnyH_ready (rs := [11]) (by kernel_rfl) (by simp) ?_
  refine AllReadyH.cons rfl (fun K hK => ?_) AllReadyH.nil
  rw [if_pos (by rfl)]
  go_simp
  refine (Hroom.out _ (by (repeat' (first | (with_reducible exact Calm.refl _) | (with_reducible assumption) | (with_reducible refine Calm.drew ?_) | (with_reducible refine Calm.alloc ?_ _) | (with_reducible refine Calm.trans ?_ (by assumption)))))).mono ?_
  rintro e w' ⟨rfl, hb⟩
  go_wp2_with fail
  refine hK.out _ _ ?_ (fun hHeld2 => ?_)
  · show w'.cell? ⟨f.blk, 1, none⟩ = some (.string f.now)
    rw [hb.cell (p := ⟨f.blk, 1, none⟩) hfl]; assumption
  clear hK K
  try simp only [List.getElem_toArray, List.getElem_cons_succ, List.getElem_cons_zero, Act.put, List.setIfInBounds_toArray, List.set_cons_zero, List.set_cons_succ]
  ((refine' wpAnyH_take (i := 12) (v := _) rfl (by kernel_rfl) (by kernel_rfl) (by kernel_rfl) (fun _ _ _ h => h) (Or.inl ⟨by rfl, ?hy137⟩) (by assumption) ?rest137; (case hy137 => (intro w hSw; (try dsimp only at hSw); go_simp <;> with_reducible rfl)); simp only [List.getElem_toArray, List.getElem_cons_succ, List.getElem_cons_zero, Act.put, List.setIfInBounds_toArray, List.set_cons_zero, List.set_cons_succ]); (refine' wpAnyH_take (i := 13) (v := _) rfl (by kernel_rfl) (by kernel_rfl) (by kernel_rfl) (fun _ _ _ h => h) (Or.inl ⟨by rfl, ?hy138⟩) (by assumption) ?rest138; (case hy138 => (intro w hSw; (try dsimp only at hSw); go_simp <;> with_reducible rfl)); simp only [List.getElem_toArray, List.getElem_cons_succ, List.getElem_cons_zero, Act.put, List.setIfInBounds_toArray, List.set_cons_zero, List.set_cons_succ]))
  ((refine' wpAnyH_take (i := 14) (v := _) rfl (by kernel_rfl) (by kernel_rfl) (by kernel_rfl) (fun _ _ _ h => h) (Or.inr ⟨by rfl, rfl⟩) (by assumption) ?rest139; simp only [List.getElem_toArray, List.getElem_cons_succ, List.getElem_cons_zero, Act.put, List.setIfInBounds_toArray, List.set_cons_zero, List.set_cons_succ]); (refine' wpAnyH_take (i := 15) (v := _) rfl (by kernel_rfl) (by kernel_rfl) (by kernel_rfl) (fun _ _ _ h => h) (Or.inr ⟨by rfl, rfl⟩) (by assumption) ?rest140; simp only [List.getElem_toArray, List.getElem_cons_succ, List.getElem_cons_zero, Act.put, List.setIfInBounds_toArray, List.set_cons_zero, List.set_cons_succ]); (refine' wpAnyH_take (i := 16) (v := _) rfl (by kernel_rfl) (by kernel_rfl) (by kernel_rfl) (fun _ _ _ h => h) (Or.inr ⟨by rfl, rfl⟩) (by assumption) ?rest141; simp only [List.getElem_toArray, List.getElem_cons_succ, List.getElem_cons_zero, Act.put, List.setIfInBounds_toArray, List.set_cons_zero, List.set_cons_succ]); (refine' wpAnyH_take (i := 17) (v := _) rfl (by kernel_rfl) (by kernel_rfl) (by kernel_rfl) (fun _ _ _ h => h) (Or.inr ⟨by rfl, rfl⟩) (by assumption) ?rest142; simp only [List.getElem_toArray, List.getElem_cons_succ, List.getElem_cons_zero, Act.put, List.setIfInBounds_toArray, List.set_cons_zero, List.set_cons_succ]); (refine' wpAnyH_take (i := 18) (v := _) rfl (by kernel_rfl) (by kernel_rfl) (by kernel_rfl) (fun _ _ _ h => h) (Or.inr ⟨by rfl, rfl⟩) (by assumption) ?rest143; simp only [List.getElem_toArray, List.getElem_cons_succ, List.getElem_cons_zero, Act.put, List.setIfInBounds_toArray, List.set_cons_zero, List.set_cons_succ]); (refine' wpAnyH_take (i := 19) (v := _) rfl (by kernel_rfl) (by kernel_rfl) (by kernel_rfl) (fun _ _ _ h => h) (Or.inr ⟨by rfl, rfl⟩) (by assumption) ?rest144; simp only [List.getElem_toArray, List.getElem_cons_succ, List.getElem_cons_zero, Act.put, List.setIfInBounds_toArray, List.set_cons_zero, List.set_cons_succ]); (refine' wpAnyH_take (i := 20) (v := _) rfl (by kernel_rfl) (by kernel_rfl) (by kernel_rfl) (fun _ _ _ h => h) (Or.inr ⟨by rfl, rfl⟩) (by assumption) ?rest145; simp only [List.getElem_toArray, List.getElem_cons_succ, List.getElem_cons_zero, Act.put, List.setIfInBounds_toArray, List.set_cons_zero, List.set_cons_succ]); (refine' wpAnyH_take (i := 21) (v := _) rfl (by kernel_rfl) (by kernel_rfl) (by kernel_rfl) (fun _ _ _ h => h) (Or.inr ⟨by rfl, rfl⟩) (by assumption) ?rest146; simp only [List.getElem_toArray, List.getElem_cons_succ, List.getElem_cons_zero, Act.put, List.setIfInBounds_toArray, List.set_cons_zero, List.set_cons_succ]); (refine' wpAnyH_take (i := 22) (v := _) rfl (by kernel_rfl) (by kernel_rfl) (by kernel_rfl) (fun _ _ _ h => h) (Or.inr ⟨by rfl, rfl⟩) (by assumption) ?rest147; simp only [List.getElem_toArray, List.getElem_cons_succ, List.getElem_cons_zero, Act.put, List.setIfInBounds_toArray, List.set_cons_zero, List.set_cons_succ]); (refine' wpAnyH_take (i := 23) (v := _) rfl (by kernel_rfl) (by kernel_rfl) (by kernel_rfl) (fun _ _ _ h => h) (Or.inr ⟨by rfl, rfl⟩) (by assumption) ?rest148; simp only [List.getElem_toArray, List.getElem_cons_succ, List.getElem_cons_zero, Act.put, List.setIfInBounds_toArray, List.set_cons_zero, List.set_cons_succ]))
  ((refine' wpAnyH_take (i := 24) (v := _) rfl (by kernel_rfl) (by kernel_rfl) (by kernel_rfl) (fun _ _ _ h => h) (Or.inl ⟨by rfl, ?hy149⟩) (by assumption) ?rest149; (case hy149 => (intro w hSw; (try dsimp only at hSw); go_simp <;> with_reducible rfl)); simp only [List.getElem_toArray, List.getElem_cons_succ, List.getElem_cons_zero, Act.put, List.setIfInBounds_toArray, List.set_cons_zero, List.set_cons_succ]); (refine' wpAnyH_take (i := 25) (v := _) rfl (by kernel_rfl) (by kernel_rfl) (by kernel_rfl) (fun _ _ _ h => h) (Or.inl ⟨by rfl, ?hy150⟩) (by assumption) ?rest150; (case hy150 => (intro w hSw; (try dsimp only at hSw); go_simp <;> with_reducible rfl)); simp only [List.getElem_toArray, List.getElem_cons_succ, List.getElem_cons_zero, Act.put, List.setIfInBounds_toArray, List.set_cons_zero, List.set_cons_succ]))
  refine wpAnyH_done (by kernel_rfl) ?_ _
  have hcW : Calm (w.alloc (.cells #[.string n] 9)) w' := by (repeat' (first | (with_reducible exact Calm.refl _) | (with_reducible assumption) | (with_reducible refine Calm.drew ?_) | (with_reducible refine Calm.alloc ?_ _) | (with_reducible refine Calm.trans ?_ (by assumption))))
  have HcW := box hcW
  clear hcW
  go_wp2_with fail
  refine (done_any _ (H1.out.calm HcW.out) hleft).mono ?_
  rw [Hbn.out]
  rintro e w2 ⟨rfl, hN⟩
  have HS := box (show Step (foot p mb wv D) w (foot p mb wv D.burn) w2 by rw [foot_burn]; exact (Step.of_calm (Hcalm.out.trans HcW.out)).trans (hN.step (.inl rfl)))
  obtain ⟨g0, g1, g2, g3⟩ := hN.disk.file Hf2.out
  have hfl2 : f.blk < w2.heap.size := heap_lt (hN.disk.files f (find_some Hf2.out).1)
  have HN := box hN
  clear hN
  go_wp2_with fail
  refine (Hl.out _).mono ?_
  rintro e w3 ⟨rfl, hc3⟩
  have hD3 := HN.out.disk.calm hc3
  have hS3 := HS.out.calm hc3
  obtain ⟨g0', g1', g2', g3'⟩ := hD3.file Hf2.out
  have hfl3 : f.blk < w3.heap.size := heap_lt (hD3.files f (find_some Hf2.out).1)
  have hD4 := hD3.written (s := s) Hf2.out j
  have hm4 : f ∈ D.burn.files := (find_some Hf2.out).1
  have hS4 := hS3.trans (show Step (foot p mb wv D.burn) w3 (foot p mb wv D.burn) (w3.setCell ⟨f.blk, 1, none⟩ (.string (laid f.now j s))) from ⟨(Keeps.refl _ w3).setCell (p := ⟨f.blk, 1, none⟩) (.inl (.inr (.inr (.inr (List.mem_map.2 ⟨f, hm4, rfl⟩))))) _, fun _ h => .inl h⟩)
  have hs4 : (w3.setCell ⟨f.blk, 1, none⟩ (.string (laid f.now j s))).heap.size = w3.heap.size := by simp [World.setCell]
  have hD5 := hD4.calm ((Calm.refl _).alloc (.cells #[ptrTo f.blk, .int .i64 j, .string s] 152))
  have hb5 := heap_new (w3.setCell ⟨f.blk, 1, none⟩ (.string (laid f.now j s))) (.cells #[ptrTo f.blk, .int .i64 j, .string s] 152)
  rw [hs4] at hb5
  have hwl5 : (D.burn.turn n (putF j s)).waits.length ≤ 1000000 := by rw [show (D.burn.turn n (putF j s)).waits = D.waits from burn_files.2.1]; exact Hwl.out
  obtain ⟨v', W6, Happ, hrow, hk6, hob⟩ := append_wait _ (D.burn.turn n (putF j s)).waits ⟨f.blk, j, s⟩ w3.heap.size hD5.waits hb5 hwl5 106
  obtain ⟨a', n', cap', rfl⟩ := row_slice hrow
  have hp6 : W6.heap[p]? = some (.cells (diskCells (D.burn.turn n (putF j s)) mb wv) 108 (0, 0)) := (hk6.block p (heap_lt hD5.obj) hD5.p_ne_row).trans hD5.obj
  have k3 : W6.cell? ⟨p, 3, none⟩ = some wv := cell_of hp6 3
  have k4 := free_of hp6 3
  have hpl6 := heap_lt hp6
  have hnew : ∀ g, (Value.slice a' n' cap').ownBlock = some g → wv.ownBlock = some g ∨ ((w3.setCell ⟨f.blk, 1, none⟩ (.string (laid f.now j s))).alloc (.cells #[ptrTo f.blk, .int .i64 j, .string s] 152)).heap.size ≤ g := fun g hg => by
    rcases hob with h | h
    · exact .inl (by rw [← h]; exact hg)
    · rw [h] at hg; cases hg; exact .inr (Nat.le_refl _)
  have hfin := box (hD5.rowTo hk6 hrow hnew (fun x hx => by
    rcases List.mem_append.1 hx with hx | hx
    · exact hD5.live x hx
    · rw [List.mem_singleton] at hx
      subst hx
      refine ⟨putF j s f, ?_, rfl⟩
      unfold DiskS.turn
      exact List.mem_map.2 ⟨f, hm4, if_pos (find_some Hf2.out).2⟩))
  have hS7 := box ((hS4.calm ((Calm.refl _).alloc (.cells #[ptrTo f.blk, .int .i64 j, .string s] 152))).trans (show Step (foot p mb wv D.burn) _ (foot p mb (.slice a' n' cap') (D.burn.put n f j s)) (W6.setCell ⟨p, 3, none⟩ (.slice a' n' cap')) from ⟨(hk6.mono (fun b _ hb => .inr (.inr (.inl hb)))).setCell (p := ⟨p, 3, none⟩) (.inl (.inl rfl)) _, by
    rintro b (hb | hb | hb | hb)
    · exact .inl (.inl hb)
    · exact .inl (.inr (.inl hb))
    · rcases hnew b hb with h | h
      · exact .inl (.inr (.inr (.inl h)))
      · exact .inr h
    · refine .inl (.inr (.inr (.inr ?_)))
      rw [← (turn_same (n := n) (g := putF j s) (fun _ => ⟨rfl, rfl⟩)).2]
      exact hb⟩))
  have Happ := box Happ
  have d3c : w3.cell? ⟨p, 3, none⟩ = some wv := hD3.cells.2.2.2.1
  have hpl3 := heap_lt hD3.obj
  have hpf := hD3.p_ne_file hm4
  clear hD3 hS3 hD4 hS4 hD5 hb5 hrow hk6 hob hnew hp6 hc3 hs4 hwl5
  go_wp2_with (first | (at_builtin; refine Lib.wpList_append_run _ rfl _ _ _ _ rfl _ _ rfl rfl _ _ Happ.out ?_) | fail)
  go_ret
  exact OpDone.of rfl ⟨mb, _, hfin.out, rfl⟩ hS7.out
set_option maxRecDepth 100000 in
set_option maxHeartbeats 8000000 in
theorem Write_putTF (n s : ByteArray) (j : Nat) (f : FileS) (w : World) (h : DiskAt w p D F) (hleft : D.left ≤ 9223372036854775807) (hwl : D.waits.length ≤ 1000000) (hsz : D.size ≤ 1000000000) (hs : s.size ≤ 1000000000) (hcap : 0 ≤ D.cap ∧ D.cap ≤ 16777216)
    (hd : D.down = false) (hf : D.find n = some f) (hnow : f.now.size ≤ 1000000000) (hj : j ≤ f.now.size) (t1 : decide (D.cap - D.size < j + s.size - f.now.size) = true) (t2 : decide ((f.now.size : Int) < j + s.size) = false) (hbn : D.burns = false) (hs0 : s.size ≠ 0) :
    Calls Tryz.prog 111 #[ptrTo p, .string n, .int .i64 j, .string s] w (OpDone (0, D.burn.put n f j s) p F w) := by
  have Hbn := box hbn
  have he : s.toList.isEmpty = false := by rw [Lib.toList_data, List.isEmpty_eq_false_iff]; intro h; apply hs0; simpa using congrArg List.length h
  clear hbn hs0
  obtain ⟨mb, wv, h, rfl⟩ := h
  have hcalm : Calm w (w.alloc (.cells #[.string n] 9)) := (Calm.refl w).alloc _
  have h1 := h.calm hcalm
  obtain ⟨c0, c1, c2, c3, c4⟩ := h1.cells
  have hlook := h1.look n
  have Hb := box (bars_any (p := p) (mb := mb) (wv := wv) (D := D) (.slice (some ⟨w.heap.size, 0, none⟩) 1 1) [n] (w.alloc (.cells #[.string n] 9)) h1 (StrsAt.one (by go_cell)) (by simp))
  have H1 := box h1
  have Hwl := box hwl
  have Hsz := box hsz
  have Hcap := box hcap
  have Hcalm := box hcalm
  have hh : D.has n = true := by unfold DiskS.has; rw [hf]; rfl
  have hp := ptr_some hf
  obtain ⟨d0, d1, d2, d3⟩ := h1.file hf
  have hfl : f.blk < (w.alloc (.cells #[.string n] 9)).heap.size := heap_lt (h1.files f (find_some hf).1)
  have hb2 := box (show D.bars [n] = 0 by rw [bars_one, hd, hh]; rfl)
  rw [hp] at hlook
  have hj0 : decide ((j : Int) < 0) = false := decide_eq_false (by omega)
  have hj1 : decide ((f.now.size : Int) < j) = false := decide_eq_false (by omega)
  have q1 : IntKind.i64.wrap ((j : Int) + s.size) = j + s.size := IntWalk.i64_in _ (by omega)
  have q2 : IntKind.i64.wrap ((j : Int) + s.size - f.now.size) = j + s.size - f.now.size := IntWalk.i64_in _ (by omega)
  have Hroom := box (fun W (hc : Calm (w.alloc (.cells #[.string n] 9)) W) => Room_any (F := foot p mb wv D) W ⟨mb, wv, H1.out.calm hc, rfl⟩ (by have := Hsz.out; omega) Hcap.out)
  have Hf2 := box (show D.burn.find n = some f by rw [burn_find]; exact hf)
  have Hl := box (fun W => laid_any f.now s j W hnow hs (by omega))
  clear h1 hf hh hd hp hsz hs hnow hwl hcalm h hcap
  go_enter Tryz.func111, Tryz.ntmps111
  go_wp2_with fail
  refine Hb.out.mono ?_
  rw [hb2.out]
  rintro e w' ⟨rfl, rfl⟩
  go_wp2_with fail
  refine wp_region_held_drew (S := fun w' => w'.cell? ⟨f.blk, 1, none⟩ = some (.string f.now)) (by kernel_rfl) (by go_keep) (fun hHeld => ?_)
  ((refine' wpAnyH_take (i := 0) (v := _) rfl (by kernel_rfl) (by kernel_rfl) (by kernel_rfl) (fun _ _ _ h => h) (Or.inl ⟨by rfl, ?hy151⟩) (by assumption) ?rest151; (case hy151 => (intro w hSw; (try dsimp only at hSw); go_simp <;> with_reducible rfl)); simp only [List.getElem_toArray, List.getElem_cons_succ, List.getElem_cons_zero, Act.put, List.setIfInBounds_toArray, List.set_cons_zero, List.set_cons_succ]); (refine' wpAnyH_take (i := 1) (v := _) rfl (by kernel_rfl) (by kernel_rfl) (by kernel_rfl) (fun _ _ _ h => h) (Or.inl ⟨by rfl, ?hy152⟩) (by assumption) ?rest152; (case hy152 => (intro w hSw; (try dsimp only at hSw); go_simp <;> with_reducible rfl)); simp only [List.getElem_toArray, List.getElem_cons_succ, List.getElem_cons_zero, Act.put, List.setIfInBounds_toArray, List.set_cons_zero, List.set_cons_succ]); (refine' wpAnyH_take (i := 2) (v := _) rfl (by kernel_rfl) (by kernel_rfl) (by kernel_rfl) (fun _ _ _ h => h) (Or.inl ⟨by rfl, ?hy153⟩) (by assumption) ?rest153; (case hy153 => (intro w hSw; (try dsimp only at hSw); go_simp <;> with_reducible rfl)); simp only [List.getElem_toArray, List.getElem_cons_succ, List.getElem_cons_zero, Act.put, List.setIfInBounds_toArray, List.set_cons_zero, List.set_cons_succ]); (refine' wpAnyH_take (i := 3) (v := _) rfl (by kernel_rfl) (by kernel_rfl) (by kernel_rfl) (fun _ _ _ h => h) (Or.inl ⟨by rfl, ?hy154⟩) (by assumption) ?rest154; (case hy154 => (intro w hSw; (try dsimp only at hSw); go_simp <;> with_reducible rfl)); simp only [List.getElem_toArray, List.getElem_cons_succ, List.getElem_cons_zero, Act.put, List.setIfInBounds_toArray, List.set_cons_zero, List.set_cons_succ]); (refine' wpAnyH_take (i := 4) (v := _) rfl (by kernel_rfl) (by kernel_rfl) (by kernel_rfl) (fun _ _ _ h => h) (Or.inl ⟨by rfl, ?hy155⟩) (by assumption) ?rest155; (case hy155 => (intro w hSw; (try dsimp only at hSw); go_simp <;> with_reducible rfl)); simp only [List.getElem_toArray, List.getElem_cons_succ, List.getElem_cons_zero, Act.put, List.setIfInBounds_toArray, List.set_cons_zero, List.set_cons_succ]); (refine' wpAnyH_take (i := 5) (v := _) rfl (by kernel_rfl) (by kernel_rfl) (by kernel_rfl) (fun _ _ _ h => h) (Or.inl ⟨by rfl, ?hy156⟩) (by assumption) ?rest156; (case hy156 => (intro w hSw; (try dsimp only at hSw); go_simp <;> with_reducible rfl)); simp only [List.getElem_toArray, List.getElem_cons_succ, List.getElem_cons_zero, Act.put, List.setIfInBounds_toArray, List.set_cons_zero, List.set_cons_succ]); (refine' wpAnyH_take (i := 6) (v := _) rfl (by kernel_rfl) (by kernel_rfl) (by kernel_rfl) (fun _ _ _ h => h) (Or.inl ⟨by rfl, ?hy157⟩) (by assumption) ?rest157; (case hy157 => (intro w hSw; (try dsimp only at hSw); go_simp <;> with_reducible rfl)); simp only [List.getElem_toArray, List.getElem_cons_succ, List.getElem_cons_zero, Act.put, List.setIfInBounds_toArray, List.set_cons_zero, List.set_cons_succ]); (refine' wpAnyH_take (i := 7) (v := _) rfl (by kernel_rfl) (by kernel_rfl) (by kernel_rfl) (fun _ _ _ h => h) (Or.inl ⟨by rfl, ?hy158⟩) (by assumption) ?rest158; (case hy158 => (intro w hSw; (try dsimp only at hSw); go_simp <;> with_reducible rfl)); simp only [List.getElem_toArray, List.getElem_cons_succ, List.getElem_cons_zero, Act.put, List.setIfInBounds_toArray, List.set_cons_zero, List.set_cons_succ]); (refine' wpAnyH_take (i := 8) (v := _) rfl (by kernel_rfl) (by kernel_rfl) (by kernel_rfl) (fun _ _ _ h => h) (Or.inl ⟨by rfl, ?hy159⟩) (by assumption) ?rest159; (case hy159 => (intro w hSw; (try dsimp only at hSw); go_simp <;> with_reducible rfl)); simp only [List.getElem_toArray, List.getElem_cons_succ, List.getElem_cons_zero, Act.put, List.setIfInBounds_toArray, List.set_cons_zero, List.set_cons_succ]); (refine' wpAnyH_take (i := 9) (v := _) rfl (by kernel_rfl) (by kernel_rfl) (by kernel_rfl) (fun _ _ _ h => h) (Or.inl ⟨by rfl, ?hy160⟩) (by assumption) ?rest160; (case hy160 => (intro w hSw; (try dsimp only at hSw); go_simp <;> with_reducible rfl)); simp only [List.getElem_toArray, List.getElem_cons_succ, List.getElem_cons_zero, Act.put, List.setIfInBounds_toArray, List.set_cons_zero, List.set_cons_succ]); (refine' wpAnyH_take (i := 10) (v := _) rfl (by kernel_rfl) (by kernel_rfl) (by kernel_rfl) (fun _ _ _ h => h) (Or.inl ⟨by rfl, ?hy161⟩) (by assumption) ?rest161; (case hy161 => (intro w hSw; (try dsimp only at hSw); go_simp <;> with_reducible rfl)); simp only [List.getElem_toArray, List.getElem_cons_succ, List.getElem_cons_zero, Act.put, List.setIfInBounds_toArray, List.set_cons_zero, List.set_cons_succ]))
  refine wpAnyH_ready (rs := [11]) (by kernel_rfl) (by simp) ?_
  refine AllReadyH.cons rfl (fun K hK => ?_) AllReadyH.nil
  rw [if_pos (by rfl)]
  go_simp
  refine (Hroom.out _ (by (repeat' (first | (with_reducible exact Calm.refl _) | (with_reducible assumption) | (with_reducible refine Calm.drew ?_) | (with_reducible refine Calm.alloc ?_ _) | (with_reducible refine Calm.trans ?_ (by assumption)))))).mono ?_
  rintro e w' ⟨rfl, hb⟩
  go_wp2_with fail
  refine hK.out _ _ ?_ (fun hHeld2 => ?_)
  · show w'.cell? ⟨f.blk, 1, none⟩ = some (.string f.now)
    rw [hb.cell (p := ⟨f.blk, 1, none⟩) hfl]; assumption
  clear hK K
  try simp only [List.getElem_toArray, List.getElem_cons_succ, List.getElem_cons_zero, Act.put, List.setIfInBounds_toArray, List.set_cons_zero, List.set_cons_succ]
  ((refine' wpAnyH_take (i := 12) (v := _) rfl (by kernel_rfl) (by kernel_rfl) (by kernel_rfl) (fun _ _ _ h => h) (Or.inl ⟨by rfl, ?hy162⟩) (by assumption) ?rest162; (case hy162 => (intro w hSw; (try dsimp only at hSw); go_simp <;> with_reducible rfl)); simp only [List.getElem_toArray, List.getElem_cons_succ, List.getElem_cons_zero, Act.put, List.setIfInBounds_toArray, List.set_cons_zero, List.set_cons_succ]); (refine' wpAnyH_take (i := 13) (v := _) rfl (by kernel_rfl) (by kernel_rfl) (by kernel_rfl) (fun _ _ _ h => h) (Or.inl ⟨by rfl, ?hy163⟩) (by assumption) ?rest163; (case hy163 => (intro w hSw; (try dsimp only at hSw); go_simp <;> with_reducible rfl)); simp only [List.getElem_toArray, List.getElem_cons_succ, List.getElem_cons_zero, Act.put, List.setIfInBounds_toArray, List.set_cons_zero, List.set_cons_succ]); (refine' wpAnyH_take (i := 14) (v := _) rfl (by kernel_rfl) (by kernel_rfl) (by kernel_rfl) (fun _ _ _ h => h) (Or.inl ⟨by rfl, ?hy164⟩) (by assumption) ?rest164; (case hy164 => (intro w hSw; (try dsimp only at hSw); go_simp <;> with_reducible rfl)); simp only [List.getElem_toArray, List.getElem_cons_succ, List.getElem_cons_zero, Act.put, List.setIfInBounds_toArray, List.set_cons_zero, List.set_cons_succ]); (refine' wpAnyH_take (i := 15) (v := _) rfl (by kernel_rfl) (by kernel_rfl) (by kernel_rfl) (fun _ _ _ h => h) (Or.inl ⟨by rfl, ?hy165⟩) (by assumption) ?rest165; (case hy165 => (intro w hSw; (try dsimp only at hSw); go_simp <;> with_reducible rfl)); simp only [List.getElem_toArray, List.getElem_cons_succ, List.getElem_cons_zero, Act.put, List.setIfInBounds_toArray, List.set_cons_zero, List.set_cons_succ]); (refine' wpAnyH_take (i := 16) (v := _) rfl (by kernel_rfl) (by kernel_rfl) (by kernel_rfl) (fun _ _ _ h => h) (Or.inl ⟨by rfl, ?hy166⟩) (by assumption) ?rest166; (case hy166 => (intro w hSw; (try dsimp only at hSw); go_simp <;> with_reducible rfl)); simp only [List.getElem_toArray, List.getElem_cons_succ, List.getElem_cons_zero, Act.put, List.setIfInBounds_toArray, List.set_cons_zero, List.set_cons_succ]); (refine' wpAnyH_take (i := 17) (v := _) rfl (by kernel_rfl) (by kernel_rfl) (by kernel_rfl) (fun _ _ _ h => h) (Or.inl ⟨by rfl, ?hy167⟩) (by assumption) ?rest167; (case hy167 => (intro w hSw; (try dsimp only at hSw); go_simp <;> with_reducible rfl)); simp only [List.getElem_toArray, List.getElem_cons_succ, List.getElem_cons_zero, Act.put, List.setIfInBounds_toArray, List.set_cons_zero, List.set_cons_succ]); (refine' wpAnyH_take (i := 18) (v := _) rfl (by kernel_rfl) (by kernel_rfl) (by kernel_rfl) (fun _ _ _ h => h) (Or.inl ⟨by rfl, ?hy168⟩) (by assumption) ?rest168; (case hy168 => (intro w hSw; (try dsimp only at hSw); go_simp <;> with_reducible rfl)); simp only [List.getElem_toArray, List.getElem_cons_succ, List.getElem_cons_zero, Act.put, List.setIfInBounds_toArray, List.set_cons_zero, List.set_cons_succ]); (refine' wpAnyH_take (i := 19) (v := _) rfl (by kernel_rfl) (by kernel_rfl) (by kernel_rfl) (fun _ _ _ h => h) (Or.inl ⟨by rfl, ?hy169⟩) (by assumption) ?rest169; (case hy169 => (intro w hSw; (try dsimp only at hSw); go_simp <;> with_reducible rfl)); simp only [List.getElem_toArray, List.getElem_cons_succ, List.getElem_cons_zero, Act.put, List.setIfInBounds_toArray, List.set_cons_zero, List.set_cons_succ]); (refine' wpAnyH_take (i := 20) (v := _) rfl (by kernel_rfl) (by kernel_rfl) (by kernel_rfl) (fun _ _ _ h => h) (Or.inl ⟨by rfl, ?hy170⟩) (by assumption) ?rest170; (case hy170 => (intro w hSw; (try dsimp only at hSw); go_simp <;> with_reducible rfl)); simp only [List.getElem_toArray, List.getElem_cons_succ, List.getElem_cons_zero, Act.put, List.setIfInBounds_toArray, List.set_cons_zero, List.set_cons_succ]); (refine' wpAnyH_take (i := 21) (v := _) rfl (by kernel_rfl) (by kernel_rfl) (by kernel_rfl) (fun _ _ _ h => h) (Or.inl ⟨by rfl, ?hy171⟩) (by assumption) ?rest171; (case hy171 => (intro w hSw; (try dsimp only at hSw); go_simp <;> with_reducible rfl)); simp only [List.getElem_toArray, List.getElem_cons_succ, List.getElem_cons_zero, Act.put, List.setIfInBounds_toArray, List.set_cons_zero, List.set_cons_succ]); (refine' wpAnyH_take (i := 22) (v := _) rfl (by kernel_rfl) (by kernel_rfl) (by kernel_rfl) (fun _ _ _ h => h) (Or.inl ⟨by rfl, ?hy172⟩) (by assumption) ?rest172; (case hy172 => (intro w hSw; (try dsimp only at hSw); go_simp <;> with_reducible rfl)); simp only [List.getElem_toArray, List.getElem_cons_succ, List.getElem_cons_zero, Act.put, List.setIfInBounds_toArray, List.set_cons_zero, List.set_cons_succ]); (refine' wpAnyH_take (i := 23) (v := _) rfl (by kernel_rfl) (by kernel_rfl) (by kernel_rfl) (fun _ _ _ h => h) (Or.inl ⟨by rfl, ?hy173⟩) (by assumption) ?rest173; (case hy173 => (intro w hSw; (try dsimp only at hSw); go_simp <;> with_reducible rfl)); simp only [List.getElem_toArray, List.getElem_cons_succ, List.getElem_cons_zero, Act.put, List.setIfInBounds_toArray, List.set_cons_zero, List.set_cons_succ]); (refine' wpAnyH_take (i := 24) (v := _) rfl (by kernel_rfl) (by kernel_rfl) (by kernel_rfl) (fun _ _ _ h => h) (Or.inl ⟨by rfl, ?hy174⟩) (by assumption) ?rest174; (case hy174 => (intro w hSw; (try dsimp only at hSw); go_simp <;> with_reducible rfl)); simp only [List.getElem_toArray, List.getElem_cons_succ, List.getElem_cons_zero, Act.put, List.setIfInBounds_toArray, List.set_cons_zero, List.set_cons_succ]); (refine' wpAnyH_take (i := 25) (v := _) rfl (by kernel_rfl) (by kernel_rfl) (by kernel_rfl) (fun _ _ _ h => h) (Or.inl ⟨by rfl, ?hy175⟩) (by assumption) ?rest175; (case hy175 => (intro w hSw; (try dsimp only at hSw); go_simp <;> with_reducible rfl)); simp only [List.getElem_toArray, List.getElem_cons_succ, List.getElem_cons_zero, Act.put, List.setIfInBounds_toArray, List.set_cons_zero, List.set_cons_succ]))
  refine wpAnyH_done (by kernel_rfl) ?_ _
  have hcW : Calm (w.alloc (.cells #[.string n] 9)) w' := by (repeat' (first | (with_reducible exact Calm.refl _) | (with_reducible assumption) | (with_reducible refine Calm.drew ?_) | (with_reducible refine Calm.alloc ?_ _) | (with_reducible refine Calm.trans ?_ (by assumption))))
  have HcW := box hcW
  clear hcW
  go_wp2_with fail
  refine (done_any _ (H1.out.calm HcW.out) hleft).mono ?_
  rw [Hbn.out]
  rintro e w2 ⟨rfl, hN⟩
  have HS := box (show Step (foot p mb wv D) w (foot p mb wv D.burn) w2 by rw [foot_burn]; exact (Step.of_calm (Hcalm.out.trans HcW.out)).trans (hN.step (.inl rfl)))
  obtain ⟨g0, g1, g2, g3⟩ := hN.disk.file Hf2.out
  have hfl2 : f.blk < w2.heap.size := heap_lt (hN.disk.files f (find_some Hf2.out).1)
  have HN := box hN
  clear hN
  go_wp2_with fail
  refine (Hl.out _).mono ?_
  rintro e w3 ⟨rfl, hc3⟩
  have hD3 := HN.out.disk.calm hc3
  have hS3 := HS.out.calm hc3
  obtain ⟨g0', g1', g2', g3'⟩ := hD3.file Hf2.out
  have hfl3 : f.blk < w3.heap.size := heap_lt (hD3.files f (find_some Hf2.out).1)
  have hD4 := hD3.written (s := s) Hf2.out j
  have hm4 : f ∈ D.burn.files := (find_some Hf2.out).1
  have hS4 := hS3.trans (show Step (foot p mb wv D.burn) w3 (foot p mb wv D.burn) (w3.setCell ⟨f.blk, 1, none⟩ (.string (laid f.now j s))) from ⟨(Keeps.refl _ w3).setCell (p := ⟨f.blk, 1, none⟩) (.inl (.inr (.inr (.inr (List.mem_map.2 ⟨f, hm4, rfl⟩))))) _, fun _ h => .inl h⟩)
  have hs4 : (w3.setCell ⟨f.blk, 1, none⟩ (.string (laid f.now j s))).heap.size = w3.heap.size := by simp [World.setCell]
  have hD5 := hD4.calm ((Calm.refl _).alloc (.cells #[ptrTo f.blk, .int .i64 j, .string s] 152))
  have hb5 := heap_new (w3.setCell ⟨f.blk, 1, none⟩ (.string (laid f.now j s))) (.cells #[ptrTo f.blk, .int .i64 j, .string s] 152)
  rw [hs4] at hb5
  have hwl5 : (D.burn.turn n (putF j s)).waits.length ≤ 1000000 := by rw [show (D.burn.turn n (putF j s)).waits = D.waits from burn_files.2.1]; exact Hwl.out
  obtain ⟨v', W6, Happ, hrow, hk6, hob⟩ := append_wait _ (D.burn.turn n (putF j s)).waits ⟨f.blk, j, s⟩ w3.heap.size hD5.waits hb5 hwl5 106
  obtain ⟨a', n', cap', rfl⟩ := row_slice hrow
  have hp6 : W6.heap[p]? = some (.cells (diskCells (D.burn.turn n (putF j s)) mb wv) 108 (0, 0)) := (hk6.block p (heap_lt hD5.obj) hD5.p_ne_row).trans hD5.obj
  have k3 : W6.cell? ⟨p, 3, none⟩ = some wv := cell_of hp6 3
  have k4 := free_of hp6 3
  have hpl6 := heap_lt hp6
  have hnew : ∀ g, (Value.slice a' n' cap').ownBlock = some g → wv.ownBlock = some g ∨ ((w3.setCell ⟨f.blk, 1, none⟩ (.string (laid f.now j s))).alloc (.cells #[ptrTo f.blk, .int .i64 j, .string s] 152)).heap.size ≤ g := fun g hg => by
    rcases hob with h | h
    · exact .inl (by rw [← h]; exact hg)
    · rw [h] at hg; cases hg; exact .inr (Nat.le_refl _)
  have hfin := box (hD5.rowTo hk6 hrow hnew (fun x hx => by
    rcases List.mem_append.1 hx with hx | hx
    · exact hD5.live x hx
    · rw [List.mem_singleton] at hx
      subst hx
      refine ⟨putF j s f, ?_, rfl⟩
      unfold DiskS.turn
      exact List.mem_map.2 ⟨f, hm4, if_pos (find_some Hf2.out).2⟩))
  have hS7 := box ((hS4.calm ((Calm.refl _).alloc (.cells #[ptrTo f.blk, .int .i64 j, .string s] 152))).trans (show Step (foot p mb wv D.burn) _ (foot p mb (.slice a' n' cap') (D.burn.put n f j s)) (W6.setCell ⟨p, 3, none⟩ (.slice a' n' cap')) from ⟨(hk6.mono (fun b _ hb => .inr (.inr (.inl hb)))).setCell (p := ⟨p, 3, none⟩) (.inl (.inl rfl)) _, by
    rintro b (hb | hb | hb | hb)
    · exact .inl (.inl hb)
    · exact .inl (.inr (.inl hb))
    · rcases hnew b hb with h | h
      · exact .inl (.inr (.inr (.inl h)))
      · exact .inr h
    · refine .inl (.inr (.inr (.inr ?_)))
      rw [← (turn_same (n := n) (g := putF j s) (fun _ => ⟨rfl, rfl⟩)).2]
      exact hb⟩))
  have Happ := box Happ
  have d3c : w3.cell? ⟨p, 3, none⟩ = some wv := hD3.cells.2.2.2.1
  have hpl3 := heap_lt hD3.obj
  have hpf := hD3.p_ne_file hm4
  clear hD3 hS3 hD4 hS4 hD5 hb5 hrow hk6 hob hnew hp6 hc3 hs4 hwl5
  go_wp2_with (first | (at_builtin; refine Lib.wpList_append_run _ rfl _ _ _ _ rfl _ _ rfl rfl _ _ Happ.out ?_) | fail)
  go_ret
  exact OpDone.of rfl ⟨mb, _, hfin.out, rfl⟩ hS7.out
end
end Go.Proofs.YtjpokaifbnkmhaaGreatDoor.dk

namespace Go.Proofs.YtjpokaifbnkmhaaGreatDoor.dk
open Go.ChangeShapes Go.WideShapes Go.ChangeAt Go.RowKit
section
variable {w w' w1 : World} {p mb : Nat} {wv wv' : Value} {D : DiskS} {F : Nat → Prop}
set_option maxRecDepth 100000 in
set_option maxHeartbeats 8000000 in
theorem Write_any (n s : ByteArray) (k : Int) (w : World) (h : DiskAt w p D F) (hleft : D.left ≤ 9223372036854775807) (hwl : D.waits.length ≤ 1000000) (hsz : D.size ≤ 1000000000) (hs : s.size ≤ 1000000000) (hcap : 0 ≤ D.cap ∧ D.cap ≤ 16777216) (hfs : ∀ f ∈ D.files, f.now.size ≤ 1000000000) :
    Calls Tryz.prog 111 #[ptrTo p, .string n, .int .i64 k, .string s] w (OpDone (D.write n k s) p F w) := by
  have h0 := h
  obtain ⟨mb, wv, h, rfl⟩ := h
  have hcalm : Calm w (w.alloc (.cells #[.string n] 9)) := (Calm.refl w).alloc _
  have h1 := h.calm hcalm
  obtain ⟨c0, c1, c2, c3, c4⟩ := h1.cells
  have hlook := h1.look n
  have Hb := box (bars_any (p := p) (mb := mb) (wv := wv) (D := D) (.slice (some ⟨w.heap.size, 0, none⟩) 1 1) [n] (w.alloc (.cells #[.string n] 9)) h1 (StrsAt.one (by go_cell)) (by simp))
  have hb1 := box (bars_one (D := D) n)
  have H1 := box h1
  have Hcalm := box hcalm
  cases hd : D.down
  · cases hf : D.find n with
    | none =>
      have hh : D.has n = false := by unfold DiskS.has; rw [hf]; rfl
      have hres := box (show D.write n k s = (9, D) by unfold DiskS.write; rw [hd, hf]; rfl)
      have hb2 := box (show D.bars [n] = 9 by rw [hb1.out, hd, hh]; rfl)
      clear hb1 h1 hf hh hd hsz hs hwl hcap hfs h h0 hcalm
      go_enter Tryz.func111, Tryz.ntmps111
      go_wp2_with fail
      refine Hb.out.mono ?_
      rw [hb2.out]
      rintro e w' ⟨rfl, rfl⟩
      go_wp2_with fail
      go_ret
      exact OpDone.of hres.out ⟨mb, wv, H1.out, rfl⟩ (Step.of_calm Hcalm.out)
    | some f =>
      by_cases hr : k < 0 ∨ (f.now.size : Int) < k
      · have hh : D.has n = true := by unfold DiskS.has; rw [hf]; rfl
        have hp := ptr_some hf
        obtain ⟨d0, d1, d2, d3⟩ := h1.file hf
        have hb2 := box (show D.bars [n] = 0 by rw [hb1.out, hd, hh]; rfl)
        rw [hp] at hlook
        have hres := box (show D.write n k s = (2, D) by unfold DiskS.write; rw [hd, hf]; simp only [if_pos hr]; rfl)
        clear hb1 h1 hf hh hd hp hsz hs hwl hcap hfs h h0 hcalm
        rcases hr with hr | hr
        · go_enter Tryz.func111, Tryz.ntmps111
          go_wp2_with fail
          refine Hb.out.mono ?_
          rw [hb2.out]
          rintro e w' ⟨rfl, rfl⟩
          go_wp2_with fail
          go_ret
          exact OpDone.of hres.out ⟨mb, wv, H1.out, rfl⟩ (Step.of_calm Hcalm.out)
        · have hr0 : ¬ k < 0 := by omega
          go_enter Tryz.func111, Tryz.ntmps111
          go_wp2_with fail
          refine Hb.out.mono ?_
          rw [hb2.out]
          rintro e w' ⟨rfl, rfl⟩
          go_wp2_with fail
          go_ret
          exact OpDone.of hres.out ⟨mb, wv, H1.out, rfl⟩ (Step.of_calm Hcalm.out)
      · obtain ⟨j, rfl⟩ : ∃ j : Nat, k = j := ⟨k.toNat, by omega⟩
        have hj : j ≤ f.now.size := by omega
        have hnow : f.now.size ≤ 1000000000 := hfs f (find_some hf).1
        by_cases t1 : D.cap - D.size < j + s.size - f.now.size
        · by_cases t2 : (f.now.size : Int) < j + s.size
          · rw [write_full hd hf hj t1 t2]
            exact Write_full n s j f w h0 hleft hwl hsz hs hcap hd hf hnow hj (decide_eq_true t1) (decide_eq_true t2)
          · rw [write_goes (s := s) hd hf hj (.inr t2)]
            cases hbn : D.burns
            · by_cases hs0 : s.size = 0
              · simp only [Bool.false_eq_true, if_false, hs0, if_true]
                exact Write_emptyTF n s j f w h0 hleft hwl hsz hs hcap hd hf hnow hj (decide_eq_true t1) (decide_eq_false t2) hbn hs0
              · simp only [Bool.false_eq_true, if_false, hs0]
                exact Write_putTF n s j f w h0 hleft hwl hsz hs hcap hd hf hnow hj (decide_eq_true t1) (decide_eq_false t2) hbn hs0
            · simp only [if_true]
              exact Write_burnTF n s j f w h0 hleft hwl hsz hs hcap hd hf hnow hj (decide_eq_true t1) (decide_eq_false t2) hbn
        · rw [write_goes (s := s) hd hf hj (.inl t1)]
          cases hbn : D.burns
          · by_cases hs0 : s.size = 0
            · simp only [Bool.false_eq_true, if_false, hs0, if_true]
              exact Write_emptyF n s j f w h0 hleft hwl hsz hs hcap hd hf hnow hj (decide_eq_false t1) hbn hs0
            · simp only [Bool.false_eq_true, if_false, hs0]
              exact Write_putF n s j f w h0 hleft hwl hsz hs hcap hd hf hnow hj (decide_eq_false t1) hbn hs0
          · simp only [if_true]
            exact Write_burnF n s j f w h0 hleft hwl hsz hs hcap hd hf hnow hj (decide_eq_false t1) hbn
  · have hres := box (show D.write n k s = (8, D) by unfold DiskS.write; rw [hd]; rfl)
    have hb2 := box (show D.bars [n] = 8 by rw [hb1.out, hd]; rfl)
    clear hb1 h1 hd hsz hs hwl hcap hfs h h0 hcalm
    go_enter Tryz.func111, Tryz.ntmps111
    go_wp2_with fail
    refine Hb.out.mono ?_
    rw [hb2.out]
    rintro e w' ⟨rfl, rfl⟩
    go_wp2_with fail
    go_ret
    exact OpDone.of hres.out ⟨mb, wv, H1.out, rfl⟩ (Step.of_calm Hcalm.out)
end
end Go.Proofs.YtjpokaifbnkmhaaGreatDoor.dk

namespace Go.Proofs.YtjpokaifbnkmhaaGreatDoor.dk
open Go.ChangeShapes Go.WideShapes Go.ChangeAt Go.RowKit
def BoolsAt (w : World) (a : Option Addr) (l : List Bool) : Prop :=
  ∀ k (hk : k < l.length), ∃ b off, a = some ⟨b, off, none⟩ ∧ w.cell? ⟨b, off + k, none⟩ = some (.bool l[k])
theorem BoolsAt.calm {w w' : World} {a : Option Addr} {l : List Bool} (h : BoolsAt w a l) (hc : Calm w w') : BoolsAt w' a l := fun k hk => by
  obtain ⟨b, off, rfl, hcell⟩ := h k hk
  exact ⟨b, off, rfl, by rw [hc.cell (p := ⟨b, off + k, none⟩) (World.block_lt_of_cell? w _ hcell)]; exact hcell⟩
theorem BoolsAt.take {w : World} {a : Option Addr} {l : List Bool} (h : BoolsAt w a l) (m : Nat) : BoolsAt w a (l.take m) := fun k hk => by
  obtain ⟨b, off, rfl, hcell⟩ := h k (by simp at hk; omega)
  exact ⟨b, off, rfl, by rw [hcell, List.getElem_take]⟩
theorem BoolsAt.drop {w : World} {b off : Nat} {l : List Bool} (h : BoolsAt w (some ⟨b, off, none⟩) l) (m : Nat) : BoolsAt w (some ⟨b, off + m, none⟩) (l.drop m) := fun k hk => by
  obtain ⟨b', off', e, hcell⟩ := h (m + k) (by simp at hk; omega)
  cases e
  exact ⟨b, off + m, rfl, by rw [Nat.add_assoc, hcell, List.getElem_drop]⟩
end Go.Proofs.YtjpokaifbnkmhaaGreatDoor.dk

namespace Go.Proofs.YtjpokaifbnkmhaaGreatDoor.dk
open Go.ChangeShapes Go.WideShapes Go.ChangeAt Go.RowKit
section
variable {w w' w1 : World} {p mb : Nat} {wv wv' : Value} {D : DiskS} {F : Nat → Prop}
theorem laid_size (s : ByteArray) (k : Nat) (o : ByteArray) : (laid s k o).size ≤ max s.size (k + o.size) := by
  unfold laid laidL pad
  split
  · show s.data.toList.toArray.size ≤ _
    simp; omega
  · show (_ : List UInt8).toArray.size ≤ _
    simp; omega
theorem DiskIn.row (h : DiskIn w p mb wv D) {k : Nat} (hk : k < D.waits.length) : ∃ g cap, wv = .slice (some ⟨g, 0, none⟩) D.waits.length cap ∧ D.waits.length ≤ cap ∧ g < w.heap.size ∧
    w.cell? ⟨g, k * 3, none⟩ = some (ptrTo D.waits[k].blk) ∧ w.cell? ⟨g, k * 3 + 1, none⟩ = some (.int .i64 D.waits[k].off) ∧ w.cell? ⟨g, k * 3 + 2, none⟩ = some (.string D.waits[k].s) := by
  rcases h.waits.2 with ⟨_, h0⟩ | ⟨g, cap, cur, rfl, _, h1, h2, h3, h4, h5⟩
  · omega
  · exact ⟨g, cap, rfl, h2, heap_lt h1, RowIs.cells ⟨cur, h1, h2, h3, h4, h5⟩ k hk⟩
end
end Go.Proofs.YtjpokaifbnkmhaaGreatDoor.dk

namespace Go.Proofs.YtjpokaifbnkmhaaGreatDoor.dk
open Go.ChangeShapes Go.WideShapes Go.ChangeAt Go.RowKit
section
variable {w w' w1 : World} {p mb : Nat} {wv wv' : Value} {D E : DiskS} {F : Nat → Prop} {left : List Nat}
end
end Go.Proofs.YtjpokaifbnkmhaaGreatDoor.dk

namespace Go.Proofs.YtjpokaifbnkmhaaGreatDoor.dk
open Go.ChangeShapes Go.WideShapes Go.ChangeAt Go.RowKit
structure Form (D : DiskS) : Prop where
  names : (D.files.map (·.name)).Nodup
  blks : (D.files.map (·.blk)).Nodup
  live : ∀ x ∈ D.waits, ∃ f ∈ D.files, f.blk = x.blk
structure Good (D : DiskS) : Prop where
  left : D.left ≤ 9223372036854775807
  cap : 0 ≤ D.cap ∧ D.cap ≤ 16777216
  size : (D.size : Int) ≤ D.cap
  image : ∀ f ∈ D.files, f.image.size ≤ f.now.size
  waits : ∀ x ∈ D.waits, ∀ f ∈ D.files, f.blk = x.blk → x.off + x.s.size ≤ f.now.size
theorem DiskIn.form {w : World} {p mb : Nat} {wv : Value} {D : DiskS} (h : DiskIn w p mb wv D) : Form D := ⟨h.names, h.blks, h.live⟩
theorem DiskAt.form {w : World} {p : Nat} {D : DiskS} {F : Nat → Prop} (h : DiskAt w p D F) : Form D := by obtain ⟨mb, wv, h, _⟩ := h; exact h.form
variable {D : DiskS}
theorem total_mem {l : List FileS} {f : FileS} (h : f ∈ l) : f.now.size ≤ total l := by
  obtain ⟨l1, l2, rfl⟩ := List.append_of_mem h
  rw [total_split]; omega
theorem total_map_le {l : List FileS} {g : FileS → FileS} (h : ∀ f ∈ l, (g f).now.size ≤ f.now.size) : total (l.map g) ≤ total l := by
  induction l with
  | nil => exact Nat.le_refl _
  | cons f l ih =>
    have h1 := h f (List.mem_cons_self ..)
    have h2 := ih (fun x hx => h x (List.mem_cons_of_mem _ hx))
    unfold total at h2 ⊢
    simp only [List.map_cons, List.foldr_cons]
    omega
theorem total_map_eq {l : List FileS} {g : FileS → FileS} (h : ∀ f ∈ l, (g f).now.size = f.now.size) : total (l.map g) = total l := by
  induction l with
  | nil => rfl
  | cons f l ih =>
    have h1 := h f (List.mem_cons_self ..)
    have h2 := ih (fun x hx => h x (List.mem_cons_of_mem _ hx))
    unfold total at h2 ⊢
    simp only [List.map_cons, List.foldr_cons]
    omega
theorem total_filter_le (l : List FileS) (q : FileS → Bool) : total (l.filter q) ≤ total l := by
  induction l with
  | nil => exact Nat.le_refl _
  | cons f l ih =>
    unfold total at ih ⊢
    rw [List.filter_cons]
    split <;> simp only [List.map_cons, List.foldr_cons] <;> omega
theorem total_append (l1 l2 : List FileS) : total (l1 ++ l2) = total l1 + total l2 := by
  unfold total
  induction l1 with
  | nil => simp
  | cons g l ih => simp only [List.cons_append, List.map_cons, List.foldr_cons] at ih ⊢; omega
theorem Good.file (h : Good D) {f : FileS} (hf : f ∈ D.files) : f.now.size ≤ 16777216 ∧ f.image.size ≤ 16777216 := by
  have h1 := total_mem hf
  have h2 := h.size
  have h3 := h.cap.2
  have h4 := h.image f hf
  unfold DiskS.size at h2
  omega
theorem Good.sizeN (h : Good D) : D.size ≤ 16777216 := by have := h.size; have := h.cap.2; omega
theorem turn_split (hF : Form D) {n : ByteArray} {f : FileS} (hf : D.find n = some f) (g : FileS → FileS) :
    ∃ L1 L2, D.files = L1 ++ f :: L2 ∧ (D.turn n g).files = L1 ++ g f :: L2 ∧ (∀ x ∈ L1 ++ L2, x.name ≠ n ∧ x.blk ≠ f.blk) := by
  obtain ⟨hm, hn⟩ := find_some hf
  obtain ⟨L1, L2, hL⟩ := List.append_of_mem hm
  have h1 := hF.names
  have h2 := hF.blks
  rw [hL, List.map_append, List.map_cons, List.nodup_append, List.nodup_cons] at h1 h2
  have hne : ∀ x ∈ L1 ++ L2, x.name ≠ n ∧ x.blk ≠ f.blk := by
    intro x hx
    rcases List.mem_append.1 hx with hx | hx
    · exact ⟨fun e => h1.2.2 x.name (List.mem_map.2 ⟨x, hx, rfl⟩) f.name (List.mem_cons_self ..) (by rw [e, hn]), fun e => h2.2.2 x.blk (List.mem_map.2 ⟨x, hx, rfl⟩) f.blk (List.mem_cons_self ..) e⟩
    · exact ⟨fun e => h1.2.1.1 (by rw [hn, ← e]; exact List.mem_map.2 ⟨x, hx, rfl⟩), fun e => h2.2.1.1 (by rw [← e]; exact List.mem_map.2 ⟨x, hx, rfl⟩)⟩
  refine ⟨L1, L2, hL, ?_, hne⟩
  unfold DiskS.turn
  simp only [hL, List.map_append, List.map_cons, if_pos hn]
  have e1 : ∀ L : List FileS, (∀ x ∈ L, x.name ≠ n) → L.map (fun x => if x.name = n then g x else x) = L := by
    intro L h
    conv => rhs; rw [← List.map_id L]
    exact List.map_congr_left fun x hx => if_neg (h x hx)
  rw [e1 L1 (fun x hx => (hne x (List.mem_append_left _ hx)).1), e1 L2 (fun x hx => (hne x (List.mem_append_right _ hx)).1)]
theorem turn_mem (hF : Form D) {n : ByteArray} {f : FileS} (hf : D.find n = some f) {g : FileS → FileS} {y : FileS} (hy : y ∈ (D.turn n g).files) : y = g f ∨ (y ∈ D.files ∧ y.name ≠ n ∧ y.blk ≠ f.blk) := by
  obtain ⟨L1, L2, h1, h2, h3⟩ := turn_split hF hf g
  rw [h2] at hy
  rw [h1]
  rcases List.mem_append.1 hy with hy | hy
  · exact .inr ⟨List.mem_append_left _ hy, h3 y (List.mem_append_left _ hy)⟩
  · rcases List.mem_cons.1 hy with rfl | hy
    · exact .inl rfl
    · exact .inr ⟨List.mem_append_right _ (List.mem_cons_of_mem _ hy), h3 y (List.mem_append_right _ hy)⟩
theorem Good.burn (h : Good D) : Good D.burn := by
  obtain ⟨e1, e2, e3⟩ := burn_files (D := D)
  refine ⟨?_, by rw [e3]; exact h.cap, by unfold DiskS.size; rw [e1, e3]; exact h.size, by rw [e1]; exact h.image, by rw [e1, e2]; exact h.waits⟩
  have := h.left
  unfold DiskS.burn; split
  · show (-1 : Int) ≤ _; omega
  · split
    · show D.left - 1 ≤ _; omega
    · exact this
theorem Form.burn (h : Form D) : Form D.burn := by
  obtain ⟨e1, e2, e3⟩ := burn_files (D := D)
  exact ⟨by rw [e1]; exact h.names, by rw [e1]; exact h.blks, by rw [e1, e2]; exact h.live⟩
theorem Good.doing (h : Good D) {f : DiskS → DiskS} (hf : Good D.burn → Good (f D.burn)) : Good (D.doing f).2 := by
  unfold DiskS.doing; split
  · exact h.burn
  · exact hf h.burn
theorem Good.create (h : Good D) (hF : Form D) (n : ByteArray) (b : Nat) (hb : ∀ f ∈ D.files, f.blk ≠ b) : Good (D.create n b).2 := by
  unfold DiskS.create
  split
  · exact h
  · split
    · exact h
    · refine h.doing fun hb' => ⟨hb'.left, hb'.cap, ?_, ?_, ?_⟩
      · have := hb'.size
        unfold DiskS.size at this ⊢
        rw [total_append, show total [(⟨n, b, ⟨#[]⟩, ⟨#[]⟩⟩ : FileS)] = 0 from rfl]
        exact this
      · intro f hf
        rcases List.mem_append.1 hf with hf | hf
        · exact hb'.image f hf
        · rw [List.mem_singleton] at hf; subst hf; exact Nat.le_refl _
      · intro x hx f hf he
        rcases List.mem_append.1 hf with hf | hf
        · exact hb'.waits x hx f hf he
        · rw [List.mem_singleton] at hf; subst hf
          obtain ⟨g, hg, hge⟩ := hF.burn.live x hx
          rw [burn_files.1] at hg
          exact absurd (hge.trans he.symm) (hb g hg)
theorem laid_le (s : ByteArray) (k : Nat) (o : ByteArray) (ho : o.size ≠ 0) : s.size ≤ (laid s k o).size ∧ k + o.size ≤ (laid s k o).size := by
  unfold laid laidL pad
  rw [if_neg (by intro h; apply ho; simpa using congrArg List.length h)]
  show s.size ≤ (_ : List UInt8).toArray.size ∧ k + o.size ≤ (_ : List UInt8).toArray.size
  simp; omega
theorem Good.write (h : Good D) (hF : Form D) (n : ByteArray) (k : Int) (s : ByteArray) : Good (D.write n k s).2 := by
  unfold DiskS.write
  split
  · exact h
  · split
    · exact h
    · rename_i f hf
      split
      · exact h
      · rename_i hr
        split
        · exact h
        · rename_i hroom
          refine h.doing fun hb => ?_
          split
          · exact hb
          · rename_i hs
            have hfb : D.burn.find n = some f := by rw [burn_find]; exact hf
            obtain ⟨L1, L2, e1, e2, e3⟩ := turn_split hF.burn hfb (fun f => { f with now := laid f.now k.toNat s })
            have hsz := hb.size
            have hle := laid_size f.now k.toNat s
            have hge := laid_le f.now k.toNat s hs
            have hmf := (find_some hfb).1
            have hsize : D.burn.size = D.size := by unfold DiskS.size; rw [burn_files.1]
            have hcap : D.burn.cap = D.cap := burn_files.2.2
            refine ⟨hb.left, hb.cap, ?_, ?_, ?_⟩
            · unfold DiskS.size at hsz hsize hroom ⊢
              show (total (D.burn.turn n _).files : Int) ≤ D.burn.cap
              rw [e2, total_split]
              rw [e1, total_split] at hsz
              rw [← burn_files (D := D) |>.1, e1, total_split] at hroom
              simp only
              omega
            · intro y hy
              rcases turn_mem hF.burn hfb hy with rfl | ⟨hy, _⟩
              · have := hb.image f hmf
                simp only
                omega
              · exact hb.image y hy
            · intro x hx y hy he
              rcases List.mem_append.1 hx with hx | hx
              · rcases turn_mem hF.burn hfb hy with rfl | ⟨hy, _⟩
                · have := hb.waits x hx f hmf he
                  simp only
                  omega
                · exact hb.waits x hx y hy he
              · rw [List.mem_singleton] at hx
                subst hx
                rcases turn_mem hF.burn hfb hy with rfl | ⟨hy, _, hne⟩
                · exact hge.2
                · exact absurd he hne
theorem Form.last (hF : Form D) (n : ByteArray) : Form (D.last n) := by
  unfold DiskS.last
  cases hf : D.find n with
  | none => exact hF
  | some f =>
    have hs := turn_same (D := D) (n := n) (g := fun f => { f with image := f.now }) (fun _ => ⟨rfl, rfl⟩)
    have hn : (D.turn n (fun f => { f with image := f.now })).files.map (·.name) = D.files.map (·.name) := by
      have := congrArg (List.map fun x : Value × Value => match x.1 with | .string s => s | _ => ByteArray.empty) hs.1
      simpa [List.map_map, Function.comp_def, encF] using this
    refine ⟨by show ((D.turn n _).files.map (·.name)).Nodup; rw [hn]; exact hF.names, by show ((D.turn n _).files.map (·.blk)).Nodup; rw [hs.2]; exact hF.blks, ?_⟩
    intro x hx
    have hx' := (List.mem_filter.1 hx).1
    obtain ⟨y, hy, he⟩ := hF.live x hx'
    have : y.blk ∈ (D.turn n (fun f => { f with image := f.now })).files.map (·.blk) := by rw [hs.2]; exact List.mem_map.2 ⟨y, hy, rfl⟩
    obtain ⟨z, hz, hze⟩ := List.mem_map.1 this
    exact ⟨z, hz, hze.trans he⟩
theorem Good.last (h : Good D) (hF : Form D) (n : ByteArray) : Good (D.last n) ∧ (D.last n).size = D.size := by
  unfold DiskS.last
  cases hf : D.find n with
  | none => exact ⟨h, rfl⟩
  | some f =>
    have hsz : (D.turn n (fun f => { f with image := f.now })).size = D.size := total_map_eq (fun x _ => by split <;> rfl)
    refine ⟨⟨h.left, h.cap, by show ((D.turn n _).size : Int) ≤ _; rw [hsz]; exact h.size, ?_, ?_⟩, hsz⟩
    · intro y hy
      rcases turn_mem hF hf hy with rfl | ⟨hy, _⟩
      · exact Nat.le_refl _
      · exact h.image y hy
    · intro x hx y hy he
      have hx' := (List.mem_filter.1 hx).1
      rcases turn_mem hF hf hy with rfl | ⟨hy, _⟩
      · exact h.waits x hx' f (find_some hf).1 he
      · exact h.waits x hx' y hy he
theorem Good.lasts (l : List ByteArray) : ∀ {D : DiskS}, Good D → Form D → Good (l.foldl DiskS.last D) ∧ (l.foldl DiskS.last D).size = D.size := by
  induction l with
  | nil => exact fun h _ => ⟨h, rfl⟩
  | cons n l ih =>
    intro D h hF
    obtain ⟨h1, h2⟩ := h.last hF n
    obtain ⟨h3, h4⟩ := ih h1 (hF.last n)
    exact ⟨h3, h4.trans h2⟩
theorem Good.sync (h : Good D) (hF : Form D) (l : List ByteArray) : Good (D.sync l).2 := by
  unfold DiskS.sync; split
  · exact h
  · exact h.doing fun hb => (Good.lasts l hb hF.burn).1
theorem Good.cut (h : Good D) (hF : Form D) (n : ByteArray) (k : Int) : Good (D.cut n k).2 := by
  unfold DiskS.cut
  split
  · exact h
  · split
    · exact h
    · rename_i f hf
      split
      · exact h
      · rename_i hr
        refine h.doing fun hb => ?_
        have hfb : D.burn.find n = some f := by rw [burn_find]; exact hf
        have hft : (D.burn.turn n (fun f => { f with now := f.now.extract 0 k.toNat })).find n = some { f with now := f.now.extract 0 k.toNat } := by
          have hm := (find_some hfb)
          obtain ⟨L1, L2, e1, e2, e3⟩ := turn_split hF.burn hfb (fun f => { f with now := f.now.extract 0 k.toNat })
          unfold DiskS.find
          rw [e2, List.find?_append, List.find?_cons]
          have : L1.find? (fun f => decide (f.name = n)) = none := by
            rw [List.find?_eq_none]; intro x hx; simpa using (e3 x (List.mem_append_left _ hx)).1
          simp [this, hm.2]
        unfold DiskS.last
        rw [hft]
        simp only
        have hsz : ∀ x : FileS, (x.now.extract 0 k.toNat).size ≤ x.now.size := fun x => by rw [ByteArray.size_extract]; omega
        refine ⟨hb.left, hb.cap, ?_, ?_, ?_⟩
        · have h1 : ((D.burn.turn n (fun f => { f with now := f.now.extract 0 k.toNat })).turn n (fun f => { f with image := f.now })).size ≤ D.burn.size := by
            refine Nat.le_trans (total_map_le (fun x _ => by split <;> exact Nat.le_refl _)) ?_
            exact total_map_le (fun x _ => by split; exact hsz x; exact Nat.le_refl _)
          exact Int.le_trans (Int.ofNat_le.2 h1) hb.size
        · intro y hy
          have hy' : y ∈ (D.burn.turn n (fun f => ({ f with now := f.now.extract 0 k.toNat, image := f.now.extract 0 k.toNat } : FileS))).files := by
            unfold DiskS.turn at hy ⊢
            simp only [DiskS.without, List.map_map] at hy
            obtain ⟨z, hz, rfl⟩ := List.mem_map.1 hy
            refine List.mem_map.2 ⟨z, hz, ?_⟩
            simp only [Function.comp]
            by_cases hzn : z.name = n
            · simp [hzn]
            · simp [hzn]
          rcases turn_mem hF.burn hfb hy' with rfl | ⟨hy, _⟩
          · exact Nat.le_refl _
          · exact hb.image y hy
        · intro x hx y hy he
          have hx' := List.mem_filter.1 hx
          have hy' : y ∈ (D.burn.turn n (fun f => ({ f with now := f.now.extract 0 k.toNat, image := f.now.extract 0 k.toNat } : FileS))).files := by
            unfold DiskS.turn at hy ⊢
            simp only [DiskS.without, List.map_map] at hy
            obtain ⟨z, hz, rfl⟩ := List.mem_map.1 hy
            refine List.mem_map.2 ⟨z, hz, ?_⟩
            simp only [Function.comp]
            by_cases hzn : z.name = n
            · simp [hzn]
            · simp [hzn]
          rcases turn_mem hF.burn hfb hy' with rfl | ⟨hy, _⟩
          · have := hx'.2
            simp only [Bool.not_eq_true', decide_eq_false_iff_not] at this
            exact absurd he.symm this
          · exact hb.waits x hx'.1 y hy he
theorem Form.drop (hF : Form D) (n : ByteArray) : Form (D.drop n) := by
  unfold DiskS.drop
  cases hf : D.find n with
  | none => exact hF
  | some f =>
    have hs : ∀ {β : Type} (q : FileS → β), (D.files.map q).Nodup → ((D.files.filter fun x => !decide (x.name = n)).map q).Nodup := fun q h => h.sublist ((List.filter_sublist).map q)
    refine ⟨hs _ hF.names, hs _ hF.blks, ?_⟩
    intro x hx
    obtain ⟨hx1, hx2⟩ := List.mem_filter.1 hx
    obtain ⟨g, hg, he⟩ := hF.live x hx1
    refine ⟨g, List.mem_filter.2 ⟨hg, ?_⟩, he⟩
    simp only [Bool.not_eq_true', decide_eq_false_iff_not] at hx2 ⊢
    intro e
    obtain ⟨h1, h2⟩ := find_some hf
    have : g = f := nodup_inj hF.names hg h1 (by rw [e, h2])
    subst this
    exact hx2 he.symm
theorem Good.drop (h : Good D) (n : ByteArray) : Good (D.drop n) := by
  unfold DiskS.drop
  cases hf : D.find n with
  | none => exact h
  | some f =>
    refine ⟨h.left, h.cap, ?_, fun y hy => h.image y (List.mem_filter.1 hy).1, fun x hx y hy he => h.waits x (List.mem_filter.1 hx).1 y (List.mem_filter.1 hy).1 he⟩
    have h1 := h.size
    have h2 := total_filter_le D.files (fun x => !decide (x.name = n))
    unfold DiskS.size at h1 ⊢
    show (total (D.files.filter _) : Int) ≤ D.cap
    omega
theorem Good.drops (l : List ByteArray) : ∀ {D : DiskS}, Good D → Good (l.foldl DiskS.drop D) := by
  induction l with
  | nil => exact fun h => h
  | cons n l ih => exact fun h => ih (h.drop n)
theorem Good.delete (h : Good D) (l : List ByteArray) : Good (D.delete l).2 := by
  unfold DiskS.delete; split
  · exact h
  · exact h.doing fun hb => Good.drops l hb
theorem new_good (n : Int) : Good (new n) := ⟨by show (-1 : Int) ≤ _; omega, by show 0 ≤ min (max n 0) 16777216 ∧ _; simp only [new]; omega, by show ((0 : Nat) : Int) ≤ min (max n 0) 16777216; omega, fun f hf => by (cases hf), fun x hx => by (cases hx)⟩
end Go.Proofs.YtjpokaifbnkmhaaGreatDoor.dk
