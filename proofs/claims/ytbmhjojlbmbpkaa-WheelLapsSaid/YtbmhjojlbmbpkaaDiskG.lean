/- Layer 4: Write. -/
import Derived.Test.YtbmhjojlbmbpkaaDiskF
namespace Go.Proofs.Ytbmhjojlbmbpkaa.dk
open Go.ChangeShapes Go.WideShapes Go.ChangeAt Go.RowKit

section
variable {w w' w1 : World} {p mb : Nat} {wv wv' : Value} {D : DiskS} {F : Nat → Prop}

set_option maxRecDepth 100000 in
set_option maxHeartbeats 8000000 in
theorem Write_putF (n s : ByteArray) (j : Nat) (f : FileS) (w : World) (h : DiskAt w p D F) (hleft : D.left ≤ 9223372036854775807) (hwl : D.waits.length ≤ 1000000) (hsz : D.size ≤ 1000000000) (hs : s.size ≤ 1000000000) (hcap : 0 ≤ D.cap ∧ D.cap ≤ 16777216)
    (hd : D.down = false) (hf : D.find n = some f) (hnow : f.now.size ≤ 1000000000) (hj : j ≤ f.now.size) (t1 : decide (D.cap - D.size < j + s.size - f.now.size) = false) (hbn : D.burns = false) (hs0 : s.size ≠ 0) :
    Calls Try.prog 14 #[ptrTo p, .string n, .int .i64 j, .string s] w (OpDone (0, D.burn.put n f j s) p F w) := by
  have Hbn := box hbn
  have he : s.toList.isEmpty = false := by rw [Lib.toList_data, List.isEmpty_eq_false_iff]; intro h; apply hs0; simpa using congrArg List.length h
  clear hbn hs0
  obtain ⟨mb, wv, h, rfl⟩ := h
  have hcalm : Calm w (w.alloc (.cells #[.string n] 9)) := (Calm.refl w).alloc _
  have h1 := h.calm hcalm
  obtain ⟨c0, c1, c2, c3, c4⟩ := h1.cells
  have hlook := h1.look n
  have Hb := box (bars_any (p := p) (mb := mb) (wv := wv) (D := D) (.slice (some ⟨w.heap.size, 0, none⟩) 1 1) [n] (w.alloc (.cells #[.string n] 9)) h1 (StrsAt.one (by go_cell)) (by simp))
  have H1 := box h1
  have Hwl := box hwl
  have Hsz := box hsz
  have Hcap := box hcap
  have Hcalm := box hcalm
  have hh : D.has n = true := by unfold DiskS.has; rw [hf]; rfl
  have hp := ptr_some hf
  obtain ⟨d0, d1, d2, d3⟩ := h1.file hf
  have hfl : f.blk < (w.alloc (.cells #[.string n] 9)).heap.size := heap_lt (h1.files f (find_some hf).1)
  have hb2 := box (show D.bars [n] = 0 by rw [bars_one, hd, hh]; rfl)
  rw [hp] at hlook
  have hj0 : decide ((j : Int) < 0) = false := decide_eq_false (by omega)
  have hj1 : decide ((f.now.size : Int) < j) = false := decide_eq_false (by omega)
  have q1 : IntKind.i64.wrap ((j : Int) + s.size) = j + s.size := IntWalk.i64_in _ (by omega)
  have q2 : IntKind.i64.wrap ((j : Int) + s.size - f.now.size) = j + s.size - f.now.size := IntWalk.i64_in _ (by omega)
  have Hroom := box (fun W (hc : Calm (w.alloc (.cells #[.string n] 9)) W) => Room_any (F := foot p mb wv D) W ⟨mb, wv, H1.out.calm hc, rfl⟩ (by have := Hsz.out; omega) Hcap.out)
  have Hf2 := box (show D.burn.find n = some f by rw [burn_find]; exact hf)
  have Hl := box (fun W => laid_any f.now s j W hnow hs (by omega))
  clear h1 hf hh hd hp hsz hs hnow hwl hcalm h hcap
  go_enter Try.func14, Try.ntmps14
  go_wp2_with fail
  refine Hb.out.mono ?_
  rw [hb2.out]
  rintro e w' ⟨rfl, rfl⟩
  go_wp2_with fail
  refine wp_region_held_drew (S := fun w' => w'.cell? ⟨f.blk, 1, none⟩ = some (.string f.now)) (by kernel_rfl) (by go_keep) (fun hHeld => ?_)
  ((refine' wpAnyH_take (i := 0) (v := _) rfl (by kernel_rfl) (by kernel_rfl) (by kernel_rfl) (fun _ _ _ h => h) (Or.inl ⟨by rfl, ?hy126⟩) (by assumption) ?rest126; (case hy126 => (intro w hSw; (try dsimp only at hSw); go_simp <;> with_reducible rfl)); simp only [List.getElem_toArray, List.getElem_cons_succ, List.getElem_cons_zero, Act.put, List.setIfInBounds_toArray, List.set_cons_zero, List.set_cons_succ]); (refine' wpAnyH_take (i := 1) (v := _) rfl (by kernel_rfl) (by kernel_rfl) (by kernel_rfl) (fun _ _ _ h => h) (Or.inl ⟨by rfl, ?hy127⟩) (by assumption) ?rest127; (case hy127 => (intro w hSw; (try dsimp only at hSw); go_simp <;> with_reducible rfl)); simp only [List.getElem_toArray, List.getElem_cons_succ, List.getElem_cons_zero, Act.put, List.setIfInBounds_toArray, List.set_cons_zero, List.set_cons_succ]); (refine' wpAnyH_take (i := 2) (v := _) rfl (by kernel_rfl) (by kernel_rfl) (by kernel_rfl) (fun _ _ _ h => h) (Or.inl ⟨by rfl, ?hy128⟩) (by assumption) ?rest128; (case hy128 => (intro w hSw; (try dsimp only at hSw); go_simp <;> with_reducible rfl)); simp only [List.getElem_toArray, List.getElem_cons_succ, List.getElem_cons_zero, Act.put, List.setIfInBounds_toArray, List.set_cons_zero, List.set_cons_succ]); (refine' wpAnyH_take (i := 3) (v := _) rfl (by kernel_rfl) (by kernel_rfl) (by kernel_rfl) (fun _ _ _ h => h) (Or.inl ⟨by rfl, ?hy129⟩) (by assumption) ?rest129; (case hy129 => (intro w hSw; (try dsimp only at hSw); go_simp <;> with_reducible rfl)); simp only [List.getElem_toArray, List.getElem_cons_succ, List.getElem_cons_zero, Act.put, List.setIfInBounds_toArray, List.set_cons_zero, List.set_cons_succ]); (refine' wpAnyH_take (i := 4) (v := _) rfl (by kernel_rfl) (by kernel_rfl) (by kernel_rfl) (fun _ _ _ h => h) (Or.inl ⟨by rfl, ?hy130⟩) (by assumption) ?rest130; (case hy130 => (intro w hSw; (try dsimp only at hSw); go_simp <;> with_reducible rfl)); simp only [List.getElem_toArray, List.getElem_cons_succ, List.getElem_cons_zero, Act.put, List.setIfInBounds_toArray, List.set_cons_zero, List.set_cons_succ]); (refine' wpAnyH_take (i := 5) (v := _) rfl (by kernel_rfl) (by kernel_rfl) (by kernel_rfl) (fun _ _ _ h => h) (Or.inl ⟨by rfl, ?hy131⟩) (by assumption) ?rest131; (case hy131 => (intro w hSw; (try dsimp only at hSw); go_simp <;> with_reducible rfl)); simp only [List.getElem_toArray, List.getElem_cons_succ, List.getElem_cons_zero, Act.put, List.setIfInBounds_toArray, List.set_cons_zero, List.set_cons_succ]); (refine' wpAnyH_take (i := 6) (v := _) rfl (by kernel_rfl) (by kernel_rfl) (by kernel_rfl) (fun _ _ _ h => h) (Or.inl ⟨by rfl, ?hy132⟩) (by assumption) ?rest132; (case hy132 => (intro w hSw; (try dsimp only at hSw); go_simp <;> with_reducible rfl)); simp only [List.getElem_toArray, List.getElem_cons_succ, List.getElem_cons_zero, Act.put, List.setIfInBounds_toArray, List.set_cons_zero, List.set_cons_succ]); (refine' wpAnyH_take (i := 7) (v := _) rfl (by kernel_rfl) (by kernel_rfl) (by kernel_rfl) (fun _ _ _ h => h) (Or.inl ⟨by rfl, ?hy133⟩) (by assumption) ?rest133; (case hy133 => (intro w hSw; (try dsimp only at hSw); go_simp <;> with_reducible rfl)); simp only [List.getElem_toArray, List.getElem_cons_succ, List.getElem_cons_zero, Act.put, List.setIfInBounds_toArray, List.set_cons_zero, List.set_cons_succ]); (refine' wpAnyH_take (i := 8) (v := _) rfl (by kernel_rfl) (by kernel_rfl) (by kernel_rfl) (fun _ _ _ h => h) (Or.inl ⟨by rfl, ?hy134⟩) (by assumption) ?rest134; (case hy134 => (intro w hSw; (try dsimp only at hSw); go_simp <;> with_reducible rfl)); simp only [List.getElem_toArray, List.getElem_cons_succ, List.getElem_cons_zero, Act.put, List.setIfInBounds_toArray, List.set_cons_zero, List.set_cons_succ]); (refine' wpAnyH_take (i := 9) (v := _) rfl (by kernel_rfl) (by kernel_rfl) (by kernel_rfl) (fun _ _ _ h => h) (Or.inl ⟨by rfl, ?hy135⟩) (by assumption) ?rest135; (case hy135 => (intro w hSw; (try dsimp only at hSw); go_simp <;> with_reducible rfl)); simp only [List.getElem_toArray, List.getElem_cons_succ, List.getElem_cons_zero, Act.put, List.setIfInBounds_toArray, List.set_cons_zero, List.set_cons_succ]); (refine' wpAnyH_take (i := 10) (v := _) rfl (by kernel_rfl) (by kernel_rfl) (by kernel_rfl) (fun _ _ _ h => h) (Or.inl ⟨by rfl, ?hy136⟩) (by assumption) ?rest136; (case hy136 => (intro w hSw; (try dsimp only at hSw); go_simp <;> with_reducible rfl)); simp only [List.getElem_toArray, List.getElem_cons_succ, List.getElem_cons_zero, Act.put, List.setIfInBounds_toArray, List.set_cons_zero, List.set_cons_succ]))
  refine wpAnyH_ready (rs := [11]) (by kernel_rfl) (by simp) ?_
  refine AllReadyH.cons rfl (fun K hK => ?_) AllReadyH.nil
  rw [if_pos (by rfl)]
  go_simp
  refine (Hroom.out _ (by (repeat' (first | (with_reducible exact Calm.refl _) | (with_reducible assumption) | (with_reducible refine Calm.drew ?_) | (with_reducible refine Calm.alloc ?_ _) | (with_reducible refine Calm.trans ?_ (by assumption)))))).mono ?_
  rintro e w' ⟨rfl, hb⟩
  go_wp2_with fail
  refine hK.out _ _ ?_ (fun hHeld2 => ?_)
  · show w'.cell? ⟨f.blk, 1, none⟩ = some (.string f.now)
    rw [hb.cell (p := ⟨f.blk, 1, none⟩) hfl]; assumption
  clear hK K
  try simp only [List.getElem_toArray, List.getElem_cons_succ, List.getElem_cons_zero, Act.put, List.setIfInBounds_toArray, List.set_cons_zero, List.set_cons_succ]
  ((refine' wpAnyH_take (i := 12) (v := _) rfl (by kernel_rfl) (by kernel_rfl) (by kernel_rfl) (fun _ _ _ h => h) (Or.inl ⟨by rfl, ?hy137⟩) (by assumption) ?rest137; (case hy137 => (intro w hSw; (try dsimp only at hSw); go_simp <;> with_reducible rfl)); simp only [List.getElem_toArray, List.getElem_cons_succ, List.getElem_cons_zero, Act.put, List.setIfInBounds_toArray, List.set_cons_zero, List.set_cons_succ]); (refine' wpAnyH_take (i := 13) (v := _) rfl (by kernel_rfl) (by kernel_rfl) (by kernel_rfl) (fun _ _ _ h => h) (Or.inl ⟨by rfl, ?hy138⟩) (by assumption) ?rest138; (case hy138 => (intro w hSw; (try dsimp only at hSw); go_simp <;> with_reducible rfl)); simp only [List.getElem_toArray, List.getElem_cons_succ, List.getElem_cons_zero, Act.put, List.setIfInBounds_toArray, List.set_cons_zero, List.set_cons_succ]))
  ((refine' wpAnyH_take (i := 14) (v := _) rfl (by kernel_rfl) (by kernel_rfl) (by kernel_rfl) (fun _ _ _ h => h) (Or.inr ⟨by rfl, rfl⟩) (by assumption) ?rest139; simp only [List.getElem_toArray, List.getElem_cons_succ, List.getElem_cons_zero, Act.put, List.setIfInBounds_toArray, List.set_cons_zero, List.set_cons_succ]); (refine' wpAnyH_take (i := 15) (v := _) rfl (by kernel_rfl) (by kernel_rfl) (by kernel_rfl) (fun _ _ _ h => h) (Or.inr ⟨by rfl, rfl⟩) (by assumption) ?rest140; simp only [List.getElem_toArray, List.getElem_cons_succ, List.getElem_cons_zero, Act.put, List.setIfInBounds_toArray, List.set_cons_zero, List.set_cons_succ]); (refine' wpAnyH_take (i := 16) (v := _) rfl (by kernel_rfl) (by kernel_rfl) (by kernel_rfl) (fun _ _ _ h => h) (Or.inr ⟨by rfl, rfl⟩) (by assumption) ?rest141; simp only [List.getElem_toArray, List.getElem_cons_succ, List.getElem_cons_zero, Act.put, List.setIfInBounds_toArray, List.set_cons_zero, List.set_cons_succ]); (refine' wpAnyH_take (i := 17) (v := _) rfl (by kernel_rfl) (by kernel_rfl) (by kernel_rfl) (fun _ _ _ h => h) (Or.inr ⟨by rfl, rfl⟩) (by assumption) ?rest142; simp only [List.getElem_toArray, List.getElem_cons_succ, List.getElem_cons_zero, Act.put, List.setIfInBounds_toArray, List.set_cons_zero, List.set_cons_succ]); (refine' wpAnyH_take (i := 18) (v := _) rfl (by kernel_rfl) (by kernel_rfl) (by kernel_rfl) (fun _ _ _ h => h) (Or.inr ⟨by rfl, rfl⟩) (by assumption) ?rest143; simp only [List.getElem_toArray, List.getElem_cons_succ, List.getElem_cons_zero, Act.put, List.setIfInBounds_toArray, List.set_cons_zero, List.set_cons_succ]); (refine' wpAnyH_take (i := 19) (v := _) rfl (by kernel_rfl) (by kernel_rfl) (by kernel_rfl) (fun _ _ _ h => h) (Or.inr ⟨by rfl, rfl⟩) (by assumption) ?rest144; simp only [List.getElem_toArray, List.getElem_cons_succ, List.getElem_cons_zero, Act.put, List.setIfInBounds_toArray, List.set_cons_zero, List.set_cons_succ]); (refine' wpAnyH_take (i := 20) (v := _) rfl (by kernel_rfl) (by kernel_rfl) (by kernel_rfl) (fun _ _ _ h => h) (Or.inr ⟨by rfl, rfl⟩) (by assumption) ?rest145; simp only [List.getElem_toArray, List.getElem_cons_succ, List.getElem_cons_zero, Act.put, List.setIfInBounds_toArray, List.set_cons_zero, List.set_cons_succ]); (refine' wpAnyH_take (i := 21) (v := _) rfl (by kernel_rfl) (by kernel_rfl) (by kernel_rfl) (fun _ _ _ h => h) (Or.inr ⟨by rfl, rfl⟩) (by assumption) ?rest146; simp only [List.getElem_toArray, List.getElem_cons_succ, List.getElem_cons_zero, Act.put, List.setIfInBounds_toArray, List.set_cons_zero, List.set_cons_succ]); (refine' wpAnyH_take (i := 22) (v := _) rfl (by kernel_rfl) (by kernel_rfl) (by kernel_rfl) (fun _ _ _ h => h) (Or.inr ⟨by rfl, rfl⟩) (by assumption) ?rest147; simp only [List.getElem_toArray, List.getElem_cons_succ, List.getElem_cons_zero, Act.put, List.setIfInBounds_toArray, List.set_cons_zero, List.set_cons_succ]); (refine' wpAnyH_take (i := 23) (v := _) rfl (by kernel_rfl) (by kernel_rfl) (by kernel_rfl) (fun _ _ _ h => h) (Or.inr ⟨by rfl, rfl⟩) (by assumption) ?rest148; simp only [List.getElem_toArray, List.getElem_cons_succ, List.getElem_cons_zero, Act.put, List.setIfInBounds_toArray, List.set_cons_zero, List.set_cons_succ]))
  ((refine' wpAnyH_take (i := 24) (v := _) rfl (by kernel_rfl) (by kernel_rfl) (by kernel_rfl) (fun _ _ _ h => h) (Or.inl ⟨by rfl, ?hy149⟩) (by assumption) ?rest149; (case hy149 => (intro w hSw; (try dsimp only at hSw); go_simp <;> with_reducible rfl)); simp only [List.getElem_toArray, List.getElem_cons_succ, List.getElem_cons_zero, Act.put, List.setIfInBounds_toArray, List.set_cons_zero, List.set_cons_succ]); (refine' wpAnyH_take (i := 25) (v := _) rfl (by kernel_rfl) (by kernel_rfl) (by kernel_rfl) (fun _ _ _ h => h) (Or.inl ⟨by rfl, ?hy150⟩) (by assumption) ?rest150; (case hy150 => (intro w hSw; (try dsimp only at hSw); go_simp <;> with_reducible rfl)); simp only [List.getElem_toArray, List.getElem_cons_succ, List.getElem_cons_zero, Act.put, List.setIfInBounds_toArray, List.set_cons_zero, List.set_cons_succ]))
  refine wpAnyH_done (by kernel_rfl) ?_ _
  have hcW : Calm (w.alloc (.cells #[.string n] 9)) w' := by (repeat' (first | (with_reducible exact Calm.refl _) | (with_reducible assumption) | (with_reducible refine Calm.drew ?_) | (with_reducible refine Calm.alloc ?_ _) | (with_reducible refine Calm.trans ?_ (by assumption))))
  have HcW := box hcW
  clear hcW
  go_wp2_with fail
  refine (done_any _ (H1.out.calm HcW.out) hleft).mono ?_
  rw [Hbn.out]
  rintro e w2 ⟨rfl, hN⟩
  have HS := box (show Step (foot p mb wv D) w (foot p mb wv D.burn) w2 by rw [foot_burn]; exact (Step.of_calm (Hcalm.out.trans HcW.out)).trans (hN.step (.inl rfl)))
  obtain ⟨g0, g1, g2, g3⟩ := hN.disk.file Hf2.out
  have hfl2 : f.blk < w2.heap.size := heap_lt (hN.disk.files f (find_some Hf2.out).1)
  have HN := box hN
  clear hN
  go_wp2_with fail
  refine (Hl.out _).mono ?_
  rintro e w3 ⟨rfl, hc3⟩
  have hD3 := HN.out.disk.calm hc3
  have hS3 := HS.out.calm hc3
  obtain ⟨g0', g1', g2', g3'⟩ := hD3.file Hf2.out
  have hfl3 : f.blk < w3.heap.size := heap_lt (hD3.files f (find_some Hf2.out).1)
  have hD4 := hD3.written (s := s) Hf2.out j
  have hm4 : f ∈ D.burn.files := (find_some Hf2.out).1
  have hS4 := hS3.trans (show Step (foot p mb wv D.burn) w3 (foot p mb wv D.burn) (w3.setCell ⟨f.blk, 1, none⟩ (.string (laid f.now j s))) from ⟨(Keeps.refl _ w3).setCell (p := ⟨f.blk, 1, none⟩) (.inl (.inr (.inr (.inr (List.mem_map.2 ⟨f, hm4, rfl⟩))))) _, fun _ h => .inl h⟩)
  have hs4 : (w3.setCell ⟨f.blk, 1, none⟩ (.string (laid f.now j s))).heap.size = w3.heap.size := by simp [World.setCell]
  have hD5 := hD4.calm ((Calm.refl _).alloc (.cells #[ptrTo f.blk, .int .i64 j, .string s] 83))
  have hb5 := heap_new (w3.setCell ⟨f.blk, 1, none⟩ (.string (laid f.now j s))) (.cells #[ptrTo f.blk, .int .i64 j, .string s] 83)
  rw [hs4] at hb5
  have hwl5 : (D.burn.turn n (putF j s)).waits.length ≤ 1000000 := by rw [show (D.burn.turn n (putF j s)).waits = D.waits from burn_files.2.1]; exact Hwl.out
  obtain ⟨v', W6, Happ, hrow, hk6, hob⟩ := append_wait _ (D.burn.turn n (putF j s)).waits ⟨f.blk, j, s⟩ w3.heap.size hD5.waits hb5 hwl5 74
  obtain ⟨a', n', cap', rfl⟩ := row_slice hrow
  have hp6 : W6.heap[p]? = some (.cells (diskCells (D.burn.turn n (putF j s)) mb wv) 76 (0, 0)) := (hk6.block p (heap_lt hD5.obj) hD5.p_ne_row).trans hD5.obj
  have k3 : W6.cell? ⟨p, 3, none⟩ = some wv := cell_of hp6 3
  have k4 := free_of hp6 3
  have hpl6 := heap_lt hp6
  have hnew : ∀ g, (Value.slice a' n' cap').ownBlock = some g → wv.ownBlock = some g ∨ ((w3.setCell ⟨f.blk, 1, none⟩ (.string (laid f.now j s))).alloc (.cells #[ptrTo f.blk, .int .i64 j, .string s] 83)).heap.size ≤ g := fun g hg => by
    rcases hob with h | h
    · exact .inl (by rw [← h]; exact hg)
    · rw [h] at hg; cases hg; exact .inr (Nat.le_refl _)
  have hfin := box (hD5.rowTo hk6 hrow hnew (fun x hx => by
    rcases List.mem_append.1 hx with hx | hx
    · exact hD5.live x hx
    · rw [List.mem_singleton] at hx
      subst hx
      refine ⟨putF j s f, ?_, rfl⟩
      unfold DiskS.turn
      exact List.mem_map.2 ⟨f, hm4, if_pos (find_some Hf2.out).2⟩))
  have hS7 := box ((hS4.calm ((Calm.refl _).alloc (.cells #[ptrTo f.blk, .int .i64 j, .string s] 83))).trans (show Step (foot p mb wv D.burn) _ (foot p mb (.slice a' n' cap') (D.burn.put n f j s)) (W6.setCell ⟨p, 3, none⟩ (.slice a' n' cap')) from ⟨(hk6.mono (fun b _ hb => .inr (.inr (.inl hb)))).setCell (p := ⟨p, 3, none⟩) (.inl (.inl rfl)) _, by
    rintro b (hb | hb | hb | hb)
    · exact .inl (.inl hb)
    · exact .inl (.inr (.inl hb))
    · rcases hnew b hb with h | h
      · exact .inl (.inr (.inr (.inl h)))
      · exact .inr h
    · refine .inl (.inr (.inr (.inr ?_)))
      rw [← (turn_same (n := n) (g := putF j s) (fun _ => ⟨rfl, rfl⟩)).2]
      exact hb⟩))
  have Happ := box Happ
  have d3c : w3.cell? ⟨p, 3, none⟩ = some wv := hD3.cells.2.2.2.1
  have hpl3 := heap_lt hD3.obj
  have hpf := hD3.p_ne_file hm4
  clear hD3 hS3 hD4 hS4 hD5 hb5 hrow hk6 hob hnew hp6 hc3 hs4 hwl5
  go_wp2_with (first | (at_builtin; refine Lib.wpList_append_run _ rfl _ _ _ _ rfl _ _ rfl rfl _ _ Happ.out ?_) | fail)
  go_ret
  exact OpDone.of rfl ⟨mb, _, hfin.out, rfl⟩ hS7.out

set_option maxRecDepth 100000 in
set_option maxHeartbeats 8000000 in
theorem Write_putTF (n s : ByteArray) (j : Nat) (f : FileS) (w : World) (h : DiskAt w p D F) (hleft : D.left ≤ 9223372036854775807) (hwl : D.waits.length ≤ 1000000) (hsz : D.size ≤ 1000000000) (hs : s.size ≤ 1000000000) (hcap : 0 ≤ D.cap ∧ D.cap ≤ 16777216)
    (hd : D.down = false) (hf : D.find n = some f) (hnow : f.now.size ≤ 1000000000) (hj : j ≤ f.now.size) (t1 : decide (D.cap - D.size < j + s.size - f.now.size) = true) (t2 : decide ((f.now.size : Int) < j + s.size) = false) (hbn : D.burns = false) (hs0 : s.size ≠ 0) :
    Calls Try.prog 14 #[ptrTo p, .string n, .int .i64 j, .string s] w (OpDone (0, D.burn.put n f j s) p F w) := by
  have Hbn := box hbn
  have he : s.toList.isEmpty = false := by rw [Lib.toList_data, List.isEmpty_eq_false_iff]; intro h; apply hs0; simpa using congrArg List.length h
  clear hbn hs0
  obtain ⟨mb, wv, h, rfl⟩ := h
  have hcalm : Calm w (w.alloc (.cells #[.string n] 9)) := (Calm.refl w).alloc _
  have h1 := h.calm hcalm
  obtain ⟨c0, c1, c2, c3, c4⟩ := h1.cells
  have hlook := h1.look n
  have Hb := box (bars_any (p := p) (mb := mb) (wv := wv) (D := D) (.slice (some ⟨w.heap.size, 0, none⟩) 1 1) [n] (w.alloc (.cells #[.string n] 9)) h1 (StrsAt.one (by go_cell)) (by simp))
  have H1 := box h1
  have Hwl := box hwl
  have Hsz := box hsz
  have Hcap := box hcap
  have Hcalm := box hcalm
  have hh : D.has n = true := by unfold DiskS.has; rw [hf]; rfl
  have hp := ptr_some hf
  obtain ⟨d0, d1, d2, d3⟩ := h1.file hf
  have hfl : f.blk < (w.alloc (.cells #[.string n] 9)).heap.size := heap_lt (h1.files f (find_some hf).1)
  have hb2 := box (show D.bars [n] = 0 by rw [bars_one, hd, hh]; rfl)
  rw [hp] at hlook
  have hj0 : decide ((j : Int) < 0) = false := decide_eq_false (by omega)
  have hj1 : decide ((f.now.size : Int) < j) = false := decide_eq_false (by omega)
  have q1 : IntKind.i64.wrap ((j : Int) + s.size) = j + s.size := IntWalk.i64_in _ (by omega)
  have q2 : IntKind.i64.wrap ((j : Int) + s.size - f.now.size) = j + s.size - f.now.size := IntWalk.i64_in _ (by omega)
  have Hroom := box (fun W (hc : Calm (w.alloc (.cells #[.string n] 9)) W) => Room_any (F := foot p mb wv D) W ⟨mb, wv, H1.out.calm hc, rfl⟩ (by have := Hsz.out; omega) Hcap.out)
  have Hf2 := box (show D.burn.find n = some f by rw [burn_find]; exact hf)
  have Hl := box (fun W => laid_any f.now s j W hnow hs (by omega))
  clear h1 hf hh hd hp hsz hs hnow hwl hcalm h hcap
  go_enter Try.func14, Try.ntmps14
  go_wp2_with fail
  refine Hb.out.mono ?_
  rw [hb2.out]
  rintro e w' ⟨rfl, rfl⟩
  go_wp2_with fail
  refine wp_region_held_drew (S := fun w' => w'.cell? ⟨f.blk, 1, none⟩ = some (.string f.now)) (by kernel_rfl) (by go_keep) (fun hHeld => ?_)
  ((refine' wpAnyH_take (i := 0) (v := _) rfl (by kernel_rfl) (by kernel_rfl) (by kernel_rfl) (fun _ _ _ h => h) (Or.inl ⟨by rfl, ?hy151⟩) (by assumption) ?rest151; (case hy151 => (intro w hSw; (try dsimp only at hSw); go_simp <;> with_reducible rfl)); simp only [List.getElem_toArray, List.getElem_cons_succ, List.getElem_cons_zero, Act.put, List.setIfInBounds_toArray, List.set_cons_zero, List.set_cons_succ]); (refine' wpAnyH_take (i := 1) (v := _) rfl (by kernel_rfl) (by kernel_rfl) (by kernel_rfl) (fun _ _ _ h => h) (Or.inl ⟨by rfl, ?hy152⟩) (by assumption) ?rest152; (case hy152 => (intro w hSw; (try dsimp only at hSw); go_simp <;> with_reducible rfl)); simp only [List.getElem_toArray, List.getElem_cons_succ, List.getElem_cons_zero, Act.put, List.setIfInBounds_toArray, List.set_cons_zero, List.set_cons_succ]); (refine' wpAnyH_take (i := 2) (v := _) rfl (by kernel_rfl) (by kernel_rfl) (by kernel_rfl) (fun _ _ _ h => h) (Or.inl ⟨by rfl, ?hy153⟩) (by assumption) ?rest153; (case hy153 => (intro w hSw; (try dsimp only at hSw); go_simp <;> with_reducible rfl)); simp only [List.getElem_toArray, List.getElem_cons_succ, List.getElem_cons_zero, Act.put, List.setIfInBounds_toArray, List.set_cons_zero, List.set_cons_succ]); (refine' wpAnyH_take (i := 3) (v := _) rfl (by kernel_rfl) (by kernel_rfl) (by kernel_rfl) (fun _ _ _ h => h) (Or.inl ⟨by rfl, ?hy154⟩) (by assumption) ?rest154; (case hy154 => (intro w hSw; (try dsimp only at hSw); go_simp <;> with_reducible rfl)); simp only [List.getElem_toArray, List.getElem_cons_succ, List.getElem_cons_zero, Act.put, List.setIfInBounds_toArray, List.set_cons_zero, List.set_cons_succ]); (refine' wpAnyH_take (i := 4) (v := _) rfl (by kernel_rfl) (by kernel_rfl) (by kernel_rfl) (fun _ _ _ h => h) (Or.inl ⟨by rfl, ?hy155⟩) (by assumption) ?rest155; (case hy155 => (intro w hSw; (try dsimp only at hSw); go_simp <;> with_reducible rfl)); simp only [List.getElem_toArray, List.getElem_cons_succ, List.getElem_cons_zero, Act.put, List.setIfInBounds_toArray, List.set_cons_zero, List.set_cons_succ]); (refine' wpAnyH_take (i := 5) (v := _) rfl (by kernel_rfl) (by kernel_rfl) (by kernel_rfl) (fun _ _ _ h => h) (Or.inl ⟨by rfl, ?hy156⟩) (by assumption) ?rest156; (case hy156 => (intro w hSw; (try dsimp only at hSw); go_simp <;> with_reducible rfl)); simp only [List.getElem_toArray, List.getElem_cons_succ, List.getElem_cons_zero, Act.put, List.setIfInBounds_toArray, List.set_cons_zero, List.set_cons_succ]); (refine' wpAnyH_take (i := 6) (v := _) rfl (by kernel_rfl) (by kernel_rfl) (by kernel_rfl) (fun _ _ _ h => h) (Or.inl ⟨by rfl, ?hy157⟩) (by assumption) ?rest157; (case hy157 => (intro w hSw; (try dsimp only at hSw); go_simp <;> with_reducible rfl)); simp only [List.getElem_toArray, List.getElem_cons_succ, List.getElem_cons_zero, Act.put, List.setIfInBounds_toArray, List.set_cons_zero, List.set_cons_succ]); (refine' wpAnyH_take (i := 7) (v := _) rfl (by kernel_rfl) (by kernel_rfl) (by kernel_rfl) (fun _ _ _ h => h) (Or.inl ⟨by rfl, ?hy158⟩) (by assumption) ?rest158; (case hy158 => (intro w hSw; (try dsimp only at hSw); go_simp <;> with_reducible rfl)); simp only [List.getElem_toArray, List.getElem_cons_succ, List.getElem_cons_zero, Act.put, List.setIfInBounds_toArray, List.set_cons_zero, List.set_cons_succ]); (refine' wpAnyH_take (i := 8) (v := _) rfl (by kernel_rfl) (by kernel_rfl) (by kernel_rfl) (fun _ _ _ h => h) (Or.inl ⟨by rfl, ?hy159⟩) (by assumption) ?rest159; (case hy159 => (intro w hSw; (try dsimp only at hSw); go_simp <;> with_reducible rfl)); simp only [List.getElem_toArray, List.getElem_cons_succ, List.getElem_cons_zero, Act.put, List.setIfInBounds_toArray, List.set_cons_zero, List.set_cons_succ]); (refine' wpAnyH_take (i := 9) (v := _) rfl (by kernel_rfl) (by kernel_rfl) (by kernel_rfl) (fun _ _ _ h => h) (Or.inl ⟨by rfl, ?hy160⟩) (by assumption) ?rest160; (case hy160 => (intro w hSw; (try dsimp only at hSw); go_simp <;> with_reducible rfl)); simp only [List.getElem_toArray, List.getElem_cons_succ, List.getElem_cons_zero, Act.put, List.setIfInBounds_toArray, List.set_cons_zero, List.set_cons_succ]); (refine' wpAnyH_take (i := 10) (v := _) rfl (by kernel_rfl) (by kernel_rfl) (by kernel_rfl) (fun _ _ _ h => h) (Or.inl ⟨by rfl, ?hy161⟩) (by assumption) ?rest161; (case hy161 => (intro w hSw; (try dsimp only at hSw); go_simp <;> with_reducible rfl)); simp only [List.getElem_toArray, List.getElem_cons_succ, List.getElem_cons_zero, Act.put, List.setIfInBounds_toArray, List.set_cons_zero, List.set_cons_succ]))
  refine wpAnyH_ready (rs := [11]) (by kernel_rfl) (by simp) ?_
  refine AllReadyH.cons rfl (fun K hK => ?_) AllReadyH.nil
  rw [if_pos (by rfl)]
  go_simp
  refine (Hroom.out _ (by (repeat' (first | (with_reducible exact Calm.refl _) | (with_reducible assumption) | (with_reducible refine Calm.drew ?_) | (with_reducible refine Calm.alloc ?_ _) | (with_reducible refine Calm.trans ?_ (by assumption)))))).mono ?_
  rintro e w' ⟨rfl, hb⟩
  go_wp2_with fail
  refine hK.out _ _ ?_ (fun hHeld2 => ?_)
  · show w'.cell? ⟨f.blk, 1, none⟩ = some (.string f.now)
    rw [hb.cell (p := ⟨f.blk, 1, none⟩) hfl]; assumption
  clear hK K
  try simp only [List.getElem_toArray, List.getElem_cons_succ, List.getElem_cons_zero, Act.put, List.setIfInBounds_toArray, List.set_cons_zero, List.set_cons_succ]
  ((refine' wpAnyH_take (i := 12) (v := _) rfl (by kernel_rfl) (by kernel_rfl) (by kernel_rfl) (fun _ _ _ h => h) (Or.inl ⟨by rfl, ?hy162⟩) (by assumption) ?rest162; (case hy162 => (intro w hSw; (try dsimp only at hSw); go_simp <;> with_reducible rfl)); simp only [List.getElem_toArray, List.getElem_cons_succ, List.getElem_cons_zero, Act.put, List.setIfInBounds_toArray, List.set_cons_zero, List.set_cons_succ]); (refine' wpAnyH_take (i := 13) (v := _) rfl (by kernel_rfl) (by kernel_rfl) (by kernel_rfl) (fun _ _ _ h => h) (Or.inl ⟨by rfl, ?hy163⟩) (by assumption) ?rest163; (case hy163 => (intro w hSw; (try dsimp only at hSw); go_simp <;> with_reducible rfl)); simp only [List.getElem_toArray, List.getElem_cons_succ, List.getElem_cons_zero, Act.put, List.setIfInBounds_toArray, List.set_cons_zero, List.set_cons_succ]); (refine' wpAnyH_take (i := 14) (v := _) rfl (by kernel_rfl) (by kernel_rfl) (by kernel_rfl) (fun _ _ _ h => h) (Or.inl ⟨by rfl, ?hy164⟩) (by assumption) ?rest164; (case hy164 => (intro w hSw; (try dsimp only at hSw); go_simp <;> with_reducible rfl)); simp only [List.getElem_toArray, List.getElem_cons_succ, List.getElem_cons_zero, Act.put, List.setIfInBounds_toArray, List.set_cons_zero, List.set_cons_succ]); (refine' wpAnyH_take (i := 15) (v := _) rfl (by kernel_rfl) (by kernel_rfl) (by kernel_rfl) (fun _ _ _ h => h) (Or.inl ⟨by rfl, ?hy165⟩) (by assumption) ?rest165; (case hy165 => (intro w hSw; (try dsimp only at hSw); go_simp <;> with_reducible rfl)); simp only [List.getElem_toArray, List.getElem_cons_succ, List.getElem_cons_zero, Act.put, List.setIfInBounds_toArray, List.set_cons_zero, List.set_cons_succ]); (refine' wpAnyH_take (i := 16) (v := _) rfl (by kernel_rfl) (by kernel_rfl) (by kernel_rfl) (fun _ _ _ h => h) (Or.inl ⟨by rfl, ?hy166⟩) (by assumption) ?rest166; (case hy166 => (intro w hSw; (try dsimp only at hSw); go_simp <;> with_reducible rfl)); simp only [List.getElem_toArray, List.getElem_cons_succ, List.getElem_cons_zero, Act.put, List.setIfInBounds_toArray, List.set_cons_zero, List.set_cons_succ]); (refine' wpAnyH_take (i := 17) (v := _) rfl (by kernel_rfl) (by kernel_rfl) (by kernel_rfl) (fun _ _ _ h => h) (Or.inl ⟨by rfl, ?hy167⟩) (by assumption) ?rest167; (case hy167 => (intro w hSw; (try dsimp only at hSw); go_simp <;> with_reducible rfl)); simp only [List.getElem_toArray, List.getElem_cons_succ, List.getElem_cons_zero, Act.put, List.setIfInBounds_toArray, List.set_cons_zero, List.set_cons_succ]); (refine' wpAnyH_take (i := 18) (v := _) rfl (by kernel_rfl) (by kernel_rfl) (by kernel_rfl) (fun _ _ _ h => h) (Or.inl ⟨by rfl, ?hy168⟩) (by assumption) ?rest168; (case hy168 => (intro w hSw; (try dsimp only at hSw); go_simp <;> with_reducible rfl)); simp only [List.getElem_toArray, List.getElem_cons_succ, List.getElem_cons_zero, Act.put, List.setIfInBounds_toArray, List.set_cons_zero, List.set_cons_succ]); (refine' wpAnyH_take (i := 19) (v := _) rfl (by kernel_rfl) (by kernel_rfl) (by kernel_rfl) (fun _ _ _ h => h) (Or.inl ⟨by rfl, ?hy169⟩) (by assumption) ?rest169; (case hy169 => (intro w hSw; (try dsimp only at hSw); go_simp <;> with_reducible rfl)); simp only [List.getElem_toArray, List.getElem_cons_succ, List.getElem_cons_zero, Act.put, List.setIfInBounds_toArray, List.set_cons_zero, List.set_cons_succ]); (refine' wpAnyH_take (i := 20) (v := _) rfl (by kernel_rfl) (by kernel_rfl) (by kernel_rfl) (fun _ _ _ h => h) (Or.inl ⟨by rfl, ?hy170⟩) (by assumption) ?rest170; (case hy170 => (intro w hSw; (try dsimp only at hSw); go_simp <;> with_reducible rfl)); simp only [List.getElem_toArray, List.getElem_cons_succ, List.getElem_cons_zero, Act.put, List.setIfInBounds_toArray, List.set_cons_zero, List.set_cons_succ]); (refine' wpAnyH_take (i := 21) (v := _) rfl (by kernel_rfl) (by kernel_rfl) (by kernel_rfl) (fun _ _ _ h => h) (Or.inl ⟨by rfl, ?hy171⟩) (by assumption) ?rest171; (case hy171 => (intro w hSw; (try dsimp only at hSw); go_simp <;> with_reducible rfl)); simp only [List.getElem_toArray, List.getElem_cons_succ, List.getElem_cons_zero, Act.put, List.setIfInBounds_toArray, List.set_cons_zero, List.set_cons_succ]); (refine' wpAnyH_take (i := 22) (v := _) rfl (by kernel_rfl) (by kernel_rfl) (by kernel_rfl) (fun _ _ _ h => h) (Or.inl ⟨by rfl, ?hy172⟩) (by assumption) ?rest172; (case hy172 => (intro w hSw; (try dsimp only at hSw); go_simp <;> with_reducible rfl)); simp only [List.getElem_toArray, List.getElem_cons_succ, List.getElem_cons_zero, Act.put, List.setIfInBounds_toArray, List.set_cons_zero, List.set_cons_succ]); (refine' wpAnyH_take (i := 23) (v := _) rfl (by kernel_rfl) (by kernel_rfl) (by kernel_rfl) (fun _ _ _ h => h) (Or.inl ⟨by rfl, ?hy173⟩) (by assumption) ?rest173; (case hy173 => (intro w hSw; (try dsimp only at hSw); go_simp <;> with_reducible rfl)); simp only [List.getElem_toArray, List.getElem_cons_succ, List.getElem_cons_zero, Act.put, List.setIfInBounds_toArray, List.set_cons_zero, List.set_cons_succ]); (refine' wpAnyH_take (i := 24) (v := _) rfl (by kernel_rfl) (by kernel_rfl) (by kernel_rfl) (fun _ _ _ h => h) (Or.inl ⟨by rfl, ?hy174⟩) (by assumption) ?rest174; (case hy174 => (intro w hSw; (try dsimp only at hSw); go_simp <;> with_reducible rfl)); simp only [List.getElem_toArray, List.getElem_cons_succ, List.getElem_cons_zero, Act.put, List.setIfInBounds_toArray, List.set_cons_zero, List.set_cons_succ]); (refine' wpAnyH_take (i := 25) (v := _) rfl (by kernel_rfl) (by kernel_rfl) (by kernel_rfl) (fun _ _ _ h => h) (Or.inl ⟨by rfl, ?hy175⟩) (by assumption) ?rest175; (case hy175 => (intro w hSw; (try dsimp only at hSw); go_simp <;> with_reducible rfl)); simp only [List.getElem_toArray, List.getElem_cons_succ, List.getElem_cons_zero, Act.put, List.setIfInBounds_toArray, List.set_cons_zero, List.set_cons_succ]))
  refine wpAnyH_done (by kernel_rfl) ?_ _
  have hcW : Calm (w.alloc (.cells #[.string n] 9)) w' := by (repeat' (first | (with_reducible exact Calm.refl _) | (with_reducible assumption) | (with_reducible refine Calm.drew ?_) | (with_reducible refine Calm.alloc ?_ _) | (with_reducible refine Calm.trans ?_ (by assumption))))
  have HcW := box hcW
  clear hcW
  go_wp2_with fail
  refine (done_any _ (H1.out.calm HcW.out) hleft).mono ?_
  rw [Hbn.out]
  rintro e w2 ⟨rfl, hN⟩
  have HS := box (show Step (foot p mb wv D) w (foot p mb wv D.burn) w2 by rw [foot_burn]; exact (Step.of_calm (Hcalm.out.trans HcW.out)).trans (hN.step (.inl rfl)))
  obtain ⟨g0, g1, g2, g3⟩ := hN.disk.file Hf2.out
  have hfl2 : f.blk < w2.heap.size := heap_lt (hN.disk.files f (find_some Hf2.out).1)
  have HN := box hN
  clear hN
  go_wp2_with fail
  refine (Hl.out _).mono ?_
  rintro e w3 ⟨rfl, hc3⟩
  have hD3 := HN.out.disk.calm hc3
  have hS3 := HS.out.calm hc3
  obtain ⟨g0', g1', g2', g3'⟩ := hD3.file Hf2.out
  have hfl3 : f.blk < w3.heap.size := heap_lt (hD3.files f (find_some Hf2.out).1)
  have hD4 := hD3.written (s := s) Hf2.out j
  have hm4 : f ∈ D.burn.files := (find_some Hf2.out).1
  have hS4 := hS3.trans (show Step (foot p mb wv D.burn) w3 (foot p mb wv D.burn) (w3.setCell ⟨f.blk, 1, none⟩ (.string (laid f.now j s))) from ⟨(Keeps.refl _ w3).setCell (p := ⟨f.blk, 1, none⟩) (.inl (.inr (.inr (.inr (List.mem_map.2 ⟨f, hm4, rfl⟩))))) _, fun _ h => .inl h⟩)
  have hs4 : (w3.setCell ⟨f.blk, 1, none⟩ (.string (laid f.now j s))).heap.size = w3.heap.size := by simp [World.setCell]
  have hD5 := hD4.calm ((Calm.refl _).alloc (.cells #[ptrTo f.blk, .int .i64 j, .string s] 83))
  have hb5 := heap_new (w3.setCell ⟨f.blk, 1, none⟩ (.string (laid f.now j s))) (.cells #[ptrTo f.blk, .int .i64 j, .string s] 83)
  rw [hs4] at hb5
  have hwl5 : (D.burn.turn n (putF j s)).waits.length ≤ 1000000 := by rw [show (D.burn.turn n (putF j s)).waits = D.waits from burn_files.2.1]; exact Hwl.out
  obtain ⟨v', W6, Happ, hrow, hk6, hob⟩ := append_wait _ (D.burn.turn n (putF j s)).waits ⟨f.blk, j, s⟩ w3.heap.size hD5.waits hb5 hwl5 74
  obtain ⟨a', n', cap', rfl⟩ := row_slice hrow
  have hp6 : W6.heap[p]? = some (.cells (diskCells (D.burn.turn n (putF j s)) mb wv) 76 (0, 0)) := (hk6.block p (heap_lt hD5.obj) hD5.p_ne_row).trans hD5.obj
  have k3 : W6.cell? ⟨p, 3, none⟩ = some wv := cell_of hp6 3
  have k4 := free_of hp6 3
  have hpl6 := heap_lt hp6
  have hnew : ∀ g, (Value.slice a' n' cap').ownBlock = some g → wv.ownBlock = some g ∨ ((w3.setCell ⟨f.blk, 1, none⟩ (.string (laid f.now j s))).alloc (.cells #[ptrTo f.blk, .int .i64 j, .string s] 83)).heap.size ≤ g := fun g hg => by
    rcases hob with h | h
    · exact .inl (by rw [← h]; exact hg)
    · rw [h] at hg; cases hg; exact .inr (Nat.le_refl _)
  have hfin := box (hD5.rowTo hk6 hrow hnew (fun x hx => by
    rcases List.mem_append.1 hx with hx | hx
    · exact hD5.live x hx
    · rw [List.mem_singleton] at hx
      subst hx
      refine ⟨putF j s f, ?_, rfl⟩
      unfold DiskS.turn
      exact List.mem_map.2 ⟨f, hm4, if_pos (find_some Hf2.out).2⟩))
  have hS7 := box ((hS4.calm ((Calm.refl _).alloc (.cells #[ptrTo f.blk, .int .i64 j, .string s] 83))).trans (show Step (foot p mb wv D.burn) _ (foot p mb (.slice a' n' cap') (D.burn.put n f j s)) (W6.setCell ⟨p, 3, none⟩ (.slice a' n' cap')) from ⟨(hk6.mono (fun b _ hb => .inr (.inr (.inl hb)))).setCell (p := ⟨p, 3, none⟩) (.inl (.inl rfl)) _, by
    rintro b (hb | hb | hb | hb)
    · exact .inl (.inl hb)
    · exact .inl (.inr (.inl hb))
    · rcases hnew b hb with h | h
      · exact .inl (.inr (.inr (.inl h)))
      · exact .inr h
    · refine .inl (.inr (.inr (.inr ?_)))
      rw [← (turn_same (n := n) (g := putF j s) (fun _ => ⟨rfl, rfl⟩)).2]
      exact hb⟩))
  have Happ := box Happ
  have d3c : w3.cell? ⟨p, 3, none⟩ = some wv := hD3.cells.2.2.2.1
  have hpl3 := heap_lt hD3.obj
  have hpf := hD3.p_ne_file hm4
  clear hD3 hS3 hD4 hS4 hD5 hb5 hrow hk6 hob hnew hp6 hc3 hs4 hwl5
  go_wp2_with (first | (at_builtin; refine Lib.wpList_append_run _ rfl _ _ _ _ rfl _ _ rfl rfl _ _ Happ.out ?_) | fail)
  go_ret
  exact OpDone.of rfl ⟨mb, _, hfin.out, rfl⟩ hS7.out


end
end Go.Proofs.Ytbmhjojlbmbpkaa.dk
